/- The texts of this part, one behind the other: what is proved of the model and of the functions that the law reaches. -/
import Derived.Test.YtlbnhokhhangdaaTe9
import Derived.Test.YtlbnhokhhangdaaTe1
import Derived.Lib.VarintBits
/- The package vint: what its functions give. -/
namespace Go.Proofs.Ytlbnhokhhangdaa
open Go Go.Am Go.Pk Go.Lib
set_option linter.unusedVariables false
set_option maxRecDepth 10000
attribute [local irreducible] AOps AWP DRun ACalls

theorem len_tab {s : List UInt8} (h : (List.range 256).all (fun n => (s.getD n 0).toNat == Lib.bitLen n) = true) {n : Nat} (hn : n < 256) : (s.getD n 0).toNat = Lib.bitLen n := by
  have := List.all_eq_true.1 h n (by simpa using hn)
  simpa using this

theorem wrap_u64 {n : Nat} (h : n < 2 ^ 64) : IntKind.u64.wrap n = n := by rw [IntKind.wrap_u64]; omega
theorem wrap_i64 {n : Nat} (h : n < 2 ^ 63) : IntKind.i64.wrap n = n := by rw [IntKind.wrap_i64]; omega
theorem wrap_i64' {n : Int} (h1 : -9223372036854775808 ≤ n) (h2 : n ≤ 9223372036854775807) : IntKind.i64.wrap n = n := by rw [IntKind.wrap_i64]; omega
theorem wrap_u8 (n : Nat) : IntKind.u8.wrap n = ((n % 256 : Nat) : Int) := by rw [IntKind.wrap_u8]; omega

theorem fdiv_nat (n m : Nat) : (n : Int).fdiv (m : Int) = ((n / m : Nat) : Int) := by
  rw [Int.fdiv_eq_ediv_of_nonneg _ (by omega)]; rfl

theorem Len64_spec (n : Nat) (hn : n < 2 ^ 64) (H : Heap) : ACalls Q.prog 84 [.int .u64 n] H fun r H' => r = .int .i64 (Lib.bitLen n) ∧ H' = H := by
  refine ACalls.body (N := 25) Try.func84 rfl rfl rfl rfl ?_
  repeat (first
    | refine AOps.op rfl rfl ?_ | refine AOps.load rfl rfl rfl rfl rfl ?_ | refine AOps.nil ?_ | refine AWP.seq ?_ | refine AWP.region ?_ | refine AWP.block ?_ | refine AWP.skip ?_ | refine AWP.exit ?_ | refine AWP.scope ?_ | refine AWP.label ?_)
  refine AWP.thnA (α := Nat × Nat) (fun a => a.1 < 4294967296 ∧ Lib.bitLen n = a.2 + Lib.bitLen a.1 ∧ a.2 ≤ 32) (fun a => [(0, .int .u64 a.1), (2, .int .i64 a.2)]) (fun _ => []) (fun _ => H) ?_ ?_
  · refine AWP.cond rfl (fun h => ?_) (fun h => ?_)
    · have h : n ≥ 4294967296 := by simp at h; omega
      repeat (first
    | refine AOps.op rfl rfl ?_ | refine AOps.load rfl rfl rfl rfl rfl ?_ | refine AOps.nil ?_ | refine AWP.seq ?_ | refine AWP.region ?_ | refine AWP.block ?_ | refine AWP.skip ?_ | refine AWP.exit ?_ | refine AWP.scope ?_ | refine AWP.label ?_)
      refine ⟨(n / 4294967296, 32), ⟨by omega, bitLen_shift32 n h hn, by omega⟩, ⟨congrArg (fun x => some (AV.int .u64 x)) (fdiv_nat n 4294967296), rfl, trivial⟩, rfl, Heap.le_refl _⟩
    · have h : ¬ n ≥ 4294967296 := by simp at h; omega
      repeat (first
    | refine AOps.op rfl rfl ?_ | refine AOps.load rfl rfl rfl rfl rfl ?_ | refine AOps.nil ?_ | refine AWP.seq ?_ | refine AWP.region ?_ | refine AWP.block ?_ | refine AWP.skip ?_ | refine AWP.exit ?_ | refine AWP.scope ?_ | refine AWP.label ?_)
      exact ⟨(n, 0), ⟨by omega, by simp, by omega⟩, ⟨rfl, rfl, trivial⟩, rfl, Heap.le_refl _⟩
  rintro ⟨m, k⟩ ⟨hm, hk, hk2⟩
  simp only at hm hk hk2
  repeat (first
    | refine AOps.op rfl rfl ?_ | refine AOps.load rfl rfl rfl rfl rfl ?_ | refine AOps.nil ?_ | refine AWP.seq ?_ | refine AWP.region ?_ | refine AWP.block ?_ | refine AWP.skip ?_ | refine AWP.exit ?_ | refine AWP.scope ?_ | refine AWP.label ?_)
  refine AWP.thnA (α := Nat × Nat) (fun a => a.1 < 65536 ∧ Lib.bitLen n = a.2 + Lib.bitLen a.1 ∧ a.2 ≤ 48) (fun a => [(0, .int .u64 a.1), (2, .int .i64 a.2)]) (fun _ => []) (fun _ => H) ?_ ?_
  · refine AWP.cond rfl (fun h => ?_) (fun h => ?_)
    · have h : m ≥ 65536 := by simp at h; omega
      repeat (first
    | refine AOps.op rfl rfl ?_ | refine AOps.load rfl rfl rfl rfl rfl ?_ | refine AOps.nil ?_ | refine AWP.seq ?_ | refine AWP.region ?_ | refine AWP.block ?_ | refine AWP.skip ?_ | refine AWP.exit ?_ | refine AWP.scope ?_ | refine AWP.label ?_)
      refine ⟨(m / 65536, k + 16), ⟨by omega, by have := bitLen_shift16 m h (by omega); simp only; omega, by simp only; omega⟩, ⟨congrArg (fun x => some (AV.int .u64 x)) (fdiv_nat m 65536), congrArg (fun x => some (AV.int .i64 x)) (wrap_i64 (n := k + 16) (by omega)), trivial⟩, rfl, Heap.le_refl _⟩
    · have h : ¬ m ≥ 65536 := by simp at h; omega
      repeat (first
    | refine AOps.op rfl rfl ?_ | refine AOps.load rfl rfl rfl rfl rfl ?_ | refine AOps.nil ?_ | refine AWP.seq ?_ | refine AWP.region ?_ | refine AWP.block ?_ | refine AWP.skip ?_ | refine AWP.exit ?_ | refine AWP.scope ?_ | refine AWP.label ?_)
      exact ⟨(m, k), ⟨by simp only; omega, hk, by simp only; omega⟩, ⟨rfl, rfl, trivial⟩, rfl, Heap.le_refl _⟩
  rintro ⟨m, k⟩ ⟨hm, hk, hk2⟩
  simp only at hm hk hk2
  repeat (first
    | refine AOps.op rfl rfl ?_ | refine AOps.load rfl rfl rfl rfl rfl ?_ | refine AOps.nil ?_ | refine AWP.seq ?_ | refine AWP.region ?_ | refine AWP.block ?_ | refine AWP.skip ?_ | refine AWP.exit ?_ | refine AWP.scope ?_ | refine AWP.label ?_)
  refine AWP.thnA (α := Nat × Nat) (fun a => a.1 < 256 ∧ Lib.bitLen n = a.2 + Lib.bitLen a.1 ∧ a.2 ≤ 56) (fun a => [(0, .int .u64 a.1), (2, .int .i64 a.2)]) (fun _ => []) (fun _ => H) ?_ ?_
  · refine AWP.cond rfl (fun h => ?_) (fun h => ?_)
    · have h : m ≥ 256 := by simp at h; omega
      repeat (first
    | refine AOps.op rfl rfl ?_ | refine AOps.load rfl rfl rfl rfl rfl ?_ | refine AOps.nil ?_ | refine AWP.seq ?_ | refine AWP.region ?_ | refine AWP.block ?_ | refine AWP.skip ?_ | refine AWP.exit ?_ | refine AWP.scope ?_ | refine AWP.label ?_)
      refine ⟨(m / 256, k + 8), ⟨by omega, by have := bitLen_shift8 m h (by omega); simp only; omega, by simp only; omega⟩, ⟨congrArg (fun x => some (AV.int .u64 x)) (fdiv_nat m 256), congrArg (fun x => some (AV.int .i64 x)) (wrap_i64 (n := k + 8) (by omega)), trivial⟩, rfl, Heap.le_refl _⟩
    · have h : ¬ m ≥ 256 := by simp at h; omega
      repeat (first
    | refine AOps.op rfl rfl ?_ | refine AOps.load rfl rfl rfl rfl rfl ?_ | refine AOps.nil ?_ | refine AWP.seq ?_ | refine AWP.region ?_ | refine AWP.block ?_ | refine AWP.skip ?_ | refine AWP.exit ?_ | refine AWP.scope ?_ | refine AWP.label ?_)
      exact ⟨(m, k), ⟨by simp only; omega, hk, by simp only; omega⟩, ⟨rfl, rfl, trivial⟩, rfl, Heap.le_refl _⟩
  rintro ⟨m, k⟩ ⟨hm, hk, hk2⟩
  simp only at hm hk hk2
  repeat (first
    | refine AOps.op rfl rfl ?_ | refine AOps.load rfl rfl rfl rfl rfl ?_ | refine AOps.nil ?_ | refine AWP.seq ?_ | refine AWP.region ?_ | refine AWP.block ?_ | refine AWP.skip ?_ | refine AWP.exit ?_ | refine AWP.scope ?_ | refine AWP.label ?_)
  have hb := bitLen_le m 8 (by decide) (by omega)
  have e8 : IntKind.u8.wrap (m : Int) = (m : Int) := by rw [IntKind.wrap_u8]; omega
  refine AOps.step rfl rfl (OpT.indexStr (n := (m : Int)) rfl (congrArg (fun x => some (AV.int .u8 x)) e8) rfl rfl (by omega) ?_ (v := Lib.bitLen m) ?_ ?_)
  · have : (m : Int) < (256 : Nat) := by omega
    exact this
  · exact congrArg Int.ofNat (len_tab (by decide +kernel) hm)
  repeat (first
    | refine AOps.op rfl rfl ?_ | refine AOps.load rfl rfl rfl rfl rfl ?_ | refine AOps.nil ?_ | refine AWP.seq ?_ | refine AWP.region ?_ | refine AWP.block ?_ | refine AWP.skip ?_ | refine AWP.exit ?_ | refine AWP.scope ?_ | refine AWP.label ?_)
  refine AWP.ret ?_
  have e1 : IntKind.i64.wrap ((Lib.bitLen m : Nat) : Int) = (Lib.bitLen m : Nat) := wrap_i64 (by omega)
  refine ⟨_, _, rfl, rfl, Heap.le_refl _, ?_, rfl⟩
  show AV.int .i64 (IntKind.i64.wrap (k + IntKind.i64.wrap ((Lib.bitLen m : Nat) : Int))) = _
  rw [e1, hk, show ((k : Int) + (Lib.bitLen m : Int)) = ((k + Lib.bitLen m : Nat) : Int) by simp, wrap_i64 (by omega)]
end Go.Proofs.Ytlbnhokhhangdaa

/- The package vint: numbers told. -/
namespace Go.Proofs.Ytlbnhokhhangdaa
open Go Go.Am Go.Pk Go.Lib
set_option linter.unusedVariables false
set_option maxRecDepth 10000
attribute [local irreducible] AOps AWP DRun ACalls

theorem encB_append (a b : Str) : encB (a ++ b) = encB a ++ encB b := by simp [encB]
theorem encB_length (a : Str) : (encB a).length = a.length := by simp [encB]
theorem encB_cons (a : UInt8) (b : Str) : encB (a :: b) = .int .u8 a.toNat :: encB b := rfl

/-- Bytes behind bytes. -/
theorem appB {ro : Option Nat} {N : Nat} {ops : Array Oper} {rest : List Oper} {σ : Go.Am.Frame} {loc : Go.Am.Loc} {H : Heap} {K : Kont} {ty : TypeId} {pos : String} {after : Array Edge} {s x : Operand} {u : TypeId} {l m : Str} {tag : Tag} {ui : TI} {d : Tmp}
    (H0 : Heap) (hH : H0.le H) (hs : evo σ s = some (.sl (encB l) tag)) (hx : srcOf (evo σ x) = some (encB m)) (hu : Q.ty u = some ui) (huk : isSrc ui.kind = true) (hd : Nat.blt d N = true)
    (happ : App H0 1 l.length tag) (hlen : l.length + m.length ≤ 2 ^ 46)
    (hq : ∀ tag' H', App H' 1 (l ++ m).length tag' → hbase H' tag' = hbase H0 tag → AOps ro Q.prog N ops rest ((d, .sl (encB (l ++ m)) tag') :: σ) loc H' K) :
    AOps ro Q.prog N ops (⟨some d, .call { callee := .builtin .append, args := #[s, x], argTypes := #[23, u] }, ty, pos, after, none⟩ :: rest) σ loc H K := by
  refine AOps.append' H0 hH hs hx rfl rfl rfl hu huk rfl hd (Els.encB _) (Els.encB _) (by rw [encB_length]; exact happ) ?_ ?_ ?_
  · rw [encB_length, encB_length]; simp only [maxLen]; omega
  · rw [encB_length, encB_length]; simp only; omega
  intro tag' H' k1 k2
  rw [← encB_append]
  refine hq tag' H' ?_ k2
  simpa only [encB_length, List.length_append] using k1

theorem appBT {σ : Go.Am.Frame} {loc : Go.Am.Loc} {H : Heap} {ty : TypeId} {pos : String} {after : Array Edge} {g : Option (Nat × Bool)} {dst : Option Tmp} {R : AV → Go.Am.Loc → Heap → Prop} {s x : Operand} {u : TypeId} {l m : Str} {tag : Tag} {ui : TI}
    (H0 : Heap) (hH : H0.le H) (hs : evo σ s = some (.sl (encB l) tag)) (hx : srcOf (evo σ x) = some (encB m)) (hu : Q.ty u = some ui) (huk : isSrc ui.kind = true)
    (happ : App H0 1 l.length tag) (hlen : l.length + m.length ≤ 2 ^ 46)
    (hq : ∀ tag' H', App H' 1 (l ++ m).length tag' → hbase H' tag' = hbase H0 tag → R (.sl (encB (l ++ m)) tag') loc H') :
    OpT Q.prog ⟨dst, .call { callee := .builtin .append, args := #[s, x], argTypes := #[23, u] }, ty, pos, after, g⟩ (ev σ) loc H R := by
  refine OpT.less hH (OpT.append hs hx rfl rfl rfl hu huk rfl (Els.encB _) (Els.encB _) (by rw [encB_length]; exact happ) ?_ ?_ ?_)
  · rw [encB_length, encB_length]; simp only [maxLen]; omega
  · rw [encB_length, encB_length]; simp only; omega
  intro tag' H' k1 k2
  rw [← encB_append]
  refine hq tag' H' ?_ k2
  simpa only [encB_length, List.length_append] using k1

/-- Bytes from the u-th on. -/
theorem cutFrom {σ : Go.Am.Frame} {loc : Go.Am.Loc} {H : Heap} {ty : TypeId} {pos : String} {after : Array Edge} {g : Option (Nat × Bool)} {dst : Option Tmp} {R : AV → Go.Am.Loc → Heap → Prop} {x y : Operand} {b : Str} {tag : Tag} {k : IntKind}
    (u : Nat) (hx : evo σ x = some (.sl (encB b) tag)) (hy : evo σ y = some (.int k u)) (hu : u ≤ b.length) (hq : R (.sl (encB (b.drop u)) .no) loc H) :
    OpT Q.prog ⟨dst, .slice 23 x (some y) none none, ty, pos, after, g⟩ (ev σ) loc H R := by
  have e : (encB (b.drop u)) = ((encB b).take (encB b).length).drop u := by rw [List.take_length]; simp [encB]
  rw [e] at hq
  exact OpT.sliceSl (l := u) (h := (encB b).length) hx rfl rfl rfl ⟨k, hy⟩ rfl (by rw [encB_length]; exact hu) (Nat.le_refl _) (fun e he => ((Els.encB b) e he).1) hq

/-- Bytes from the u-th to the v-th. -/
theorem cutB {σ : Go.Am.Frame} {loc : Go.Am.Loc} {H : Heap} {ty : TypeId} {pos : String} {after : Array Edge} {g : Option (Nat × Bool)} {dst : Option Tmp} {R : AV → Go.Am.Loc → Heap → Prop} {x y z : Operand} {b : Str} {tag : Tag} {k k' : IntKind}
    (u v : Nat) (hx : evo σ x = some (.sl (encB b) tag)) (hy : evo σ y = some (.int k u)) (hz : evo σ z = some (.int k' v)) (hu : u ≤ v) (hv : v ≤ b.length) (hq : R (.sl (encB ((b.take v).drop u)) .no) loc H) :
    OpT Q.prog ⟨dst, .slice 23 x (some y) (some z) none, ty, pos, after, g⟩ (ev σ) loc H R := by
  have e : (encB ((b.take v).drop u)) = ((encB b).take v).drop u := by simp [encB]
  rw [e] at hq
  exact OpT.sliceSl (l := u) (h := v) hx rfl rfl rfl ⟨k, hy⟩ ⟨k', hz⟩ hu (by rw [encB_length]; exact hv) (fun e he => ((Els.encB b) e he).1) hq

/-- Bytes up to the v-th. -/
theorem cutTo {σ : Go.Am.Frame} {loc : Go.Am.Loc} {H : Heap} {ty : TypeId} {pos : String} {after : Array Edge} {g : Option (Nat × Bool)} {dst : Option Tmp} {R : AV → Go.Am.Loc → Heap → Prop} {x z : Operand} {b : Str} {tag : Tag} {k' : IntKind}
    (v : Nat) (hx : evo σ x = some (.sl (encB b) tag)) (hz : evo σ z = some (.int k' v)) (hv : v ≤ b.length) (hq : R (.sl (encB (b.take v)) .no) loc H) :
    OpT Q.prog ⟨dst, .slice 23 x none (some z) none, ty, pos, after, g⟩ (ev σ) loc H R := by
  have e : (encB (b.take v)) = ((encB b).take v).drop 0 := by simp [encB]
  rw [e] at hq
  exact OpT.sliceSl (l := 0) (h := v) hx rfl rfl rfl rfl ⟨k', hz⟩ (Nat.zero_le _) (by rw [encB_length]; exact hv) (fun e he => ((Els.encB b) e he).1) hq

/-- A slice of bytes that may be appended to. -/
def Bs (H0 : Heap) (l : Str) (r : AV) (H : Heap) : Prop := ∃ tag, r = .sl (encB l) tag ∧ App H 1 l.length tag ∧ hbase H tag = H0

theorem Size_spec (n : Nat) (hn : n < 2 ^ 64) (H : Heap) : ACalls Q.prog 79 [.int .u64 n] H fun r H' => r = .int .i64 (vsize n) ∧ H' = H := by
  refine ACalls.body (N := 8) Try.func79 rfl rfl rfl rfl ?_
  repeat (first
    | refine AOps.op rfl rfl ?_ | refine AOps.load rfl rfl rfl rfl rfl ?_ | refine AOps.nil ?_ | refine AWP.seq ?_ | refine AWP.region ?_ | refine AWP.block ?_ | refine AWP.skip ?_ | refine AWP.exit ?_ | refine AWP.scope ?_ | refine AWP.label ?_)
  refine AOps.call rfl rfl rfl ((Len64_spec n hn H).mono ?_)
  rintro _ _ ⟨rfl, rfl⟩
  have hb := bitLen_le n 64 (by decide) hn
  refine AOps.op (r := .int .i64 (Lib.bitLen n + 6 : Nat)) (congrArg (fun x => some (AV.int .i64 x)) (wrap_i64 (n := Lib.bitLen n + 6) (by omega))) rfl ?_
  refine AOps.op (r := .int .i64 ((Lib.bitLen n + 6) / 7 : Nat)) ?_ rfl ?_
  · refine congrArg (fun x => some (AV.int .i64 x)) ?_
    rw [show ((Lib.bitLen n + 6 : Nat) : Int).tdiv 7 = (((Lib.bitLen n + 6) / 7 : Nat) : Int) from Int.ofNat_tdiv _ 7]
    exact wrap_i64 (by omega)
  refine AOps.step rfl rfl (OpT.max2 rfl rfl ?_)
  repeat (first
    | refine AOps.op rfl rfl ?_ | refine AOps.load rfl rfl rfl rfl rfl ?_ | refine AOps.nil ?_ | refine AWP.seq ?_ | refine AWP.region ?_ | refine AWP.block ?_ | refine AWP.skip ?_ | refine AWP.exit ?_ | refine AWP.scope ?_ | refine AWP.label ?_)
  refine AWP.ret ?_
  refine ⟨_, _, rfl, rfl, Heap.le_refl _, ?_, rfl⟩
  unfold vsize
  congr 1
  omega

theorem bytes1 {v : Int} {b : UInt8} (h : v = b.toNat) : aslice Q 23 1 [(0, .int .u8 v)] = some (encB [b]) := by subst h; rfl

theorem put_spec (l : Str) (n : Nat) (hn : n < 2 ^ 64) (tag : Tag) (H : Heap) (ha : App H 1 l.length tag) (hl : l.length ≤ 2 ^ 40) :
    ACalls Q.prog 63 [.sl (encB l) tag, .int .u64 n] H (Bs (hbase H tag) (l ++ uvarint n)) := by
  refine ACalls.body (N := 20) Try.func63 rfl rfl rfl rfl ?_
  repeat (first
    | refine AOps.op rfl rfl ?_ | refine AOps.load rfl rfl rfl rfl rfl ?_ | refine AOps.nil ?_ | refine AWP.seq ?_ | refine AWP.region ?_ | refine AWP.block ?_ | refine AWP.skip ?_ | refine AWP.exit ?_ | refine AWP.scope ?_ | refine AWP.label ?_)
  refine AWP.loopA (α := Str × Nat × Tag × Heap) (fun a => a.1 ++ uvarint a.2.1 = l ++ uvarint n ∧ a.2.1 < 2 ^ 64 ∧ App a.2.2.2 1 a.1.length a.2.2.1 ∧ hbase a.2.2.2 a.2.2.1 = hbase H tag) (fun a => a.2.1)
    (fun a => [(0, .sl (encB a.1) a.2.2.1), (1, .int .u64 a.2.1)]) (fun _ => []) (fun a => a.2.2.2) (l, n, tag, H) ⟨rfl, hn, ha, rfl⟩ ⟨rfl, rfl, trivial⟩ rfl (Heap.le_refl _) ?_
  rintro ⟨acc, m, tg, H1⟩ ⟨h1, h2, h3, h4⟩
  simp only at h1 h2 h3 h4
  have hlen : acc.length ≤ 2 ^ 41 := by
    have := congrArg List.length h1
    simp only [List.length_append] at this
    have := uvarint_length64 hn
    omega
  have e8 : IntKind.u8.wrap (m : Int) = ((m % 256 : Nat) : Int) := wrap_u8 m
  repeat (first
    | refine AOps.op rfl rfl ?_ | refine AOps.load rfl rfl rfl rfl rfl ?_ | refine AOps.nil ?_ | refine AWP.seq ?_ | refine AWP.region ?_ | refine AWP.block ?_ | refine AWP.skip ?_ | refine AWP.exit ?_ | refine AWP.scope ?_ | refine AWP.label ?_)
  refine AWP.cond rfl (fun h => ?_) (fun h => ?_)
  · have h : 128 ≤ m := by simp at h; omega
    repeat (first
    | refine AOps.op rfl rfl ?_ | refine AOps.load rfl rfl rfl rfl rfl ?_ | refine AOps.nil ?_ | refine AWP.seq ?_ | refine AWP.region ?_ | refine AWP.block ?_ | refine AWP.skip ?_ | refine AWP.exit ?_ | refine AWP.scope ?_ | refine AWP.label ?_)
    have e1 : bits .or .u8 (IntKind.u8.wrap (m : Int)) 128 = (((m % 128 + 128).toUInt8.toNat : Nat) : Int) := by
      rw [e8, u8_or128_any _ (by omega) (by omega)]; simp; omega
    refine AOps.buildSlice (els := encB [(m % 128 + 128).toUInt8]) rfl (bytes1 e1) rfl ?_
    refine appB H1 (Heap.le_refl _) rfl rfl rfl rfl rfl h3 (by simp; omega) fun tag' H' k1 k2 => ?_
    repeat (first
    | refine AOps.op rfl rfl ?_ | refine AOps.load rfl rfl rfl rfl rfl ?_ | refine AOps.nil ?_ | refine AWP.seq ?_ | refine AWP.region ?_ | refine AWP.block ?_ | refine AWP.skip ?_ | refine AWP.exit ?_ | refine AWP.scope ?_ | refine AWP.label ?_)
    refine ⟨(acc ++ [(m % 128 + 128).toUInt8], m / 128, tag', H'), ?_, ⟨?_, by simp only; omega, ?_, k2.trans h4⟩, ⟨rfl, congrArg (fun x => some (AV.int .u64 x)) (fdiv_nat m 128), trivial⟩, rfl, Heap.le_refl _⟩
    · simp only; omega
    · simp only [List.append_assoc, List.cons_append, List.nil_append]; rw [← uvarint_big h]; exact h1
    · exact k1
  · have h : m < 128 := by simp at h; omega
    repeat (first
    | refine AOps.op rfl rfl ?_ | refine AOps.load rfl rfl rfl rfl rfl ?_ | refine AOps.nil ?_ | refine AWP.seq ?_ | refine AWP.region ?_ | refine AWP.block ?_ | refine AWP.skip ?_ | refine AWP.exit ?_ | refine AWP.scope ?_ | refine AWP.label ?_)
    have e1 : IntKind.u8.wrap (m : Int) = ((m.toUInt8.toNat : Nat) : Int) := by rw [e8]; simp
    refine AOps.buildSlice (els := encB [m.toUInt8]) rfl (bytes1 e1) rfl ?_
    refine appB H1 (Heap.le_refl _) rfl rfl rfl rfl rfl h3 (by simp; omega) fun tag' H' k1 k2 => ?_
    repeat (first
    | refine AOps.op rfl rfl ?_ | refine AOps.load rfl rfl rfl rfl rfl ?_ | refine AOps.nil ?_ | refine AWP.seq ?_ | refine AWP.region ?_ | refine AWP.block ?_ | refine AWP.skip ?_ | refine AWP.exit ?_ | refine AWP.scope ?_ | refine AWP.label ?_)
    refine AWP.ret ?_
    refine ⟨_, _, rfl, rfl, Heap.le_refl _, tag', ?_, ?_, k2.trans h4⟩
    · rw [← h1, uvarint_small h]
    · rw [← h1, uvarint_small h]; exact k1
end Go.Proofs.Ytlbnhokhhangdaa

/- The package vint: numbers read. -/
namespace Go.Proofs.Ytlbnhokhhangdaa
open Go Go.Am Go.Pk Go.Lib
set_option linter.unusedVariables false
set_option maxRecDepth 10000
attribute [local irreducible] AOps AWP DRun ACalls

theorem encB_get {b : Str} {i : Nat} {c : UInt8} (h : b[i]? = some c) : (encB b)[((i : Nat) : Int).toNat]? = some (.int .u8 c.toNat) := by
  simp [encB, h]

theorem drop_of_get {b : Str} {i : Nat} {c : UInt8} (h : b[i]? = some c) : b.drop i = c :: b.drop (i + 1) := by
  obtain ⟨h1, h2⟩ := List.getElem?_eq_some_iff.1 h
  rw [List.drop_eq_getElem_cons h1, h2]

theorem orv (i acc d : Nat) (hi : i ≤ 9) (ha : acc < 2 ^ (7 * i)) (hd : d < 128) (h9 : i = 9 → d ≤ 1) :
    bits .or .u64 (acc : Int) (IntKind.u64.wrap ((d : Int) * 2 ^ (min ((7 * i : Nat) : Int).toNat 64))) = ((acc + d * 2 ^ (7 * i) : Nat) : Int) ∧ acc + d * 2 ^ (7 * i) < 2 ^ 64 := by
  have hs : i = 0 ∨ i = 1 ∨ i = 2 ∨ i = 3 ∨ i = 4 ∨ i = 5 ∨ i = 6 ∨ i = 7 ∨ i = 8 ∨ i = 9 := by omega
  rcases hs with rfl | rfl | rfl | rfl | rfl | rfl | rfl | rfl | rfl | rfl
  · have e : (2 : Nat) ^ (7 * 0) = 1 := by decide
    have e2 : (2 : Int) ^ (min ((7 * 0 : Nat) : Int).toNat 64) = 1 := by decide
    rw [e] at ha ⊢
    rw [e2, show (d : Int) * 1 = ((d * 1 : Nat) : Int) by simp, wrap_u64 (n := d * 1) (by omega), u64_orv0 (y := (acc : Int)) (x := ((d * 1 : Nat) : Int)) (by omega) (by omega) (by omega) (by omega) (by omega)]
    exact ⟨by omega, by omega⟩
  · have e : (2 : Nat) ^ (7 * 1) = 128 := by decide
    have e2 : (2 : Int) ^ (min ((7 * 1 : Nat) : Int).toNat 64) = 128 := by decide
    rw [e] at ha ⊢
    rw [e2, show (d : Int) * 128 = ((d * 128 : Nat) : Int) by simp, wrap_u64 (n := d * 128) (by omega), u64_orv7 (y := (acc : Int)) (x := ((d * 128 : Nat) : Int)) (by omega) (by omega) (by omega) (by omega) (by omega)]
    exact ⟨by omega, by omega⟩
  · have e : (2 : Nat) ^ (7 * 2) = 16384 := by decide
    have e2 : (2 : Int) ^ (min ((7 * 2 : Nat) : Int).toNat 64) = 16384 := by decide
    rw [e] at ha ⊢
    rw [e2, show (d : Int) * 16384 = ((d * 16384 : Nat) : Int) by simp, wrap_u64 (n := d * 16384) (by omega), u64_orv14 (y := (acc : Int)) (x := ((d * 16384 : Nat) : Int)) (by omega) (by omega) (by omega) (by omega) (by omega)]
    exact ⟨by omega, by omega⟩
  · have e : (2 : Nat) ^ (7 * 3) = 2097152 := by decide
    have e2 : (2 : Int) ^ (min ((7 * 3 : Nat) : Int).toNat 64) = 2097152 := by decide
    rw [e] at ha ⊢
    rw [e2, show (d : Int) * 2097152 = ((d * 2097152 : Nat) : Int) by simp, wrap_u64 (n := d * 2097152) (by omega), u64_orv21 (y := (acc : Int)) (x := ((d * 2097152 : Nat) : Int)) (by omega) (by omega) (by omega) (by omega) (by omega)]
    exact ⟨by omega, by omega⟩
  · have e : (2 : Nat) ^ (7 * 4) = 268435456 := by decide
    have e2 : (2 : Int) ^ (min ((7 * 4 : Nat) : Int).toNat 64) = 268435456 := by decide
    rw [e] at ha ⊢
    rw [e2, show (d : Int) * 268435456 = ((d * 268435456 : Nat) : Int) by simp, wrap_u64 (n := d * 268435456) (by omega), u64_orv28 (y := (acc : Int)) (x := ((d * 268435456 : Nat) : Int)) (by omega) (by omega) (by omega) (by omega) (by omega)]
    exact ⟨by omega, by omega⟩
  · have e : (2 : Nat) ^ (7 * 5) = 34359738368 := by decide
    have e2 : (2 : Int) ^ (min ((7 * 5 : Nat) : Int).toNat 64) = 34359738368 := by decide
    rw [e] at ha ⊢
    rw [e2, show (d : Int) * 34359738368 = ((d * 34359738368 : Nat) : Int) by simp, wrap_u64 (n := d * 34359738368) (by omega), u64_orv35 (y := (acc : Int)) (x := ((d * 34359738368 : Nat) : Int)) (by omega) (by omega) (by omega) (by omega) (by omega)]
    exact ⟨by omega, by omega⟩
  · have e : (2 : Nat) ^ (7 * 6) = 4398046511104 := by decide
    have e2 : (2 : Int) ^ (min ((7 * 6 : Nat) : Int).toNat 64) = 4398046511104 := by decide
    rw [e] at ha ⊢
    rw [e2, show (d : Int) * 4398046511104 = ((d * 4398046511104 : Nat) : Int) by simp, wrap_u64 (n := d * 4398046511104) (by omega), u64_orv42 (y := (acc : Int)) (x := ((d * 4398046511104 : Nat) : Int)) (by omega) (by omega) (by omega) (by omega) (by omega)]
    exact ⟨by omega, by omega⟩
  · have e : (2 : Nat) ^ (7 * 7) = 562949953421312 := by decide
    have e2 : (2 : Int) ^ (min ((7 * 7 : Nat) : Int).toNat 64) = 562949953421312 := by decide
    rw [e] at ha ⊢
    rw [e2, show (d : Int) * 562949953421312 = ((d * 562949953421312 : Nat) : Int) by simp, wrap_u64 (n := d * 562949953421312) (by omega), u64_orv49 (y := (acc : Int)) (x := ((d * 562949953421312 : Nat) : Int)) (by omega) (by omega) (by omega) (by omega) (by omega)]
    exact ⟨by omega, by omega⟩
  · have e : (2 : Nat) ^ (7 * 8) = 72057594037927936 := by decide
    have e2 : (2 : Int) ^ (min ((7 * 8 : Nat) : Int).toNat 64) = 72057594037927936 := by decide
    rw [e] at ha ⊢
    rw [e2, show (d : Int) * 72057594037927936 = ((d * 72057594037927936 : Nat) : Int) by simp, wrap_u64 (n := d * 72057594037927936) (by omega), u64_orv56 (y := (acc : Int)) (x := ((d * 72057594037927936 : Nat) : Int)) (by omega) (by omega) (by omega) (by omega) (by omega)]
    exact ⟨by omega, by omega⟩
  · have e : (2 : Nat) ^ (7 * 9) = 9223372036854775808 := by decide
    have e2 : (2 : Int) ^ (min ((7 * 9 : Nat) : Int).toNat 64) = 9223372036854775808 := by decide
    rw [e] at ha ⊢
    rw [e2, show (d : Int) * 9223372036854775808 = ((d * 9223372036854775808 : Nat) : Int) by simp, wrap_u64 (n := d * 9223372036854775808) (by omega), u64_orv63 (y := (acc : Int)) (x := ((d * 9223372036854775808 : Nat) : Int)) (by omega) (by omega) (by omega) (by omega) (by omega)]
    exact ⟨by omega, by omega⟩

theorem Take_spec (b : Str) (tag : Tag) (H : Heap) (hb : b.length < 2 ^ 40) :
    ACalls Q.prog 60 [.sl (encB b) tag] H fun r H' => r = .tuple [.int .u64 (vtake b).1, .int .i64 (vtake b).2.1, .int .i64 (vtake b).2.2] ∧ H' = H := by
  refine ACalls.body (N := 60) Try.func60 rfl rfl rfl rfl ?_
  repeat (first
    | refine AOps.op rfl rfl ?_ | refine AOps.load rfl rfl rfl rfl rfl ?_ | refine AOps.nil ?_ | refine AWP.seq ?_ | refine AWP.region ?_ | refine AWP.skip ?_ | refine AWP.exit ?_ | refine AWP.scope ?_ | refine AWP.label ?_)
  refine AWP.thnA (α := Nat × Nat) (fun a => (a.2 = 0 ∧ b.length < 10 ∧ vtake b = (0, 0, 2)) ∨ (0 < a.2 ∧ a.2 ≤ 10 ∧ a.1 < 2 ^ 64 ∧ vtake b = if vsize a.1 = a.2 then (a.1, a.2, 0) else (0, 0, 3)))
    (fun a => [(0, .sl (encB b) tag), (5, .int .u64 a.1), (6, .int .i64 a.2)]) (fun _ => []) (fun _ => H) ?_ ?_
  · refine AWP.block ?_
    refine AWP.loopA (α := Nat × Nat) (fun a => a.1 ≤ b.length ∧ a.1 ≤ 9 ∧ a.2 < 2 ^ (7 * a.1) ∧ vgo a.1 a.2 (b.drop a.1) = vtake b) (fun a => b.length - a.1)
      (fun a => [(0, .sl (encB b) tag), (9, .sl (encB b) tag), (10, .int .i64 b.length), (11, .int .i64 a.1), (5, .int .u64 a.2), (6, .int .i64 0)]) (fun _ => []) (fun _ => H) (0, 0)
      ⟨by simp, by simp, by simp, rfl⟩ ⟨rfl, rfl, ?_, rfl, rfl, rfl, trivial⟩ rfl (Heap.le_refl _) ?_
    · exact congrArg (fun n : Nat => some (AV.int .i64 n)) (encB_length b)
    rintro ⟨i, acc⟩ ⟨h1, h2, h3, h4⟩
    simp only at h1 h2 h3 h4
    repeat (first
    | refine AOps.op rfl rfl ?_ | refine AOps.load rfl rfl rfl rfl rfl ?_ | refine AOps.nil ?_ | refine AWP.seq ?_ | refine AWP.region ?_ | refine AWP.block ?_ | refine AWP.skip ?_ | refine AWP.exit ?_ | refine AWP.scope ?_ | refine AWP.label ?_)
    refine AWP.cond rfl (fun h => ?_) (fun h => ?_)
    · have h : i < b.length := by simp at h; omega
      repeat (first
    | refine AOps.op rfl rfl ?_ | refine AOps.load rfl rfl rfl rfl rfl ?_ | refine AOps.nil ?_ | refine AWP.seq ?_ | refine AWP.region ?_ | refine AWP.block ?_ | refine AWP.skip ?_ | refine AWP.exit ?_ | refine AWP.scope ?_ | refine AWP.label ?_)
      obtain ⟨c, hc⟩ : ∃ c, b[i]? = some c := ⟨b[i], List.getElem?_eq_getElem h⟩
      refine AOps.indexSl rfl rfl rfl rfl rfl rfl (by simp only; omega) (encB_get hc) rfl rfl ?_
      repeat (first
    | refine AOps.op rfl rfl ?_ | refine AOps.load rfl rfl rfl rfl rfl ?_ | refine AOps.nil ?_ | refine AWP.seq ?_ | refine AWP.region ?_ | refine AWP.block ?_ | refine AWP.skip ?_ | refine AWP.exit ?_ | refine AWP.scope ?_ | refine AWP.label ?_)
      rw [drop_of_get hc] at h4
      have hc2 := c.toNat_lt
      have ei : IntKind.i64.wrap ((i : Int) + 1) = ((i + 1 : Nat) : Int) := wrap_i64 (n := i + 1) (by omega)
      have e127 : bits .and .u8 (c.toNat : Int) 127 = ((c.toNat % 128 : Nat) : Int) := by rw [u8_and127 (x := (c.toNat : Int)) (by omega) (by omega)]; rfl
      have e7 : IntKind.i64.wrap (7 * (i : Int)) = ((7 * i : Nat) : Int) := wrap_i64 (n := 7 * i) (by omega)
      have n7 : ¬ IntKind.i64.wrap (7 * (i : Int)) < 0 := by rw [e7]; omega
      have eor : (i = 9 → c.toNat ≤ 1) → bits .or .u64 (acc : Int) (IntKind.u64.wrap (IntKind.u64.wrap (bits .and .u8 (c.toNat : Int) 127) * 2 ^ (min (IntKind.i64.wrap (7 * (i : Int))).toNat 64))) = ((acc + c.toNat % 128 * 2 ^ (7 * i) : Nat) : Int) ∧
          acc + c.toNat % 128 * 2 ^ (7 * i) < 2 ^ 64 := by
        intro h9
        rw [e127, e7, wrap_u64 (n := c.toNat % 128) (by omega)]
        exact orv i acc (c.toNat % 128) h2 h3 (by omega) (by omega)
      refine AWP.cond rfl (fun h => by simp at h; omega) (fun _ => ?_)
      repeat (first
    | refine AOps.op rfl rfl ?_ | refine AOps.load rfl rfl rfl rfl rfl ?_ | refine AOps.nil ?_ | refine AWP.seq ?_ | refine AWP.region ?_ | refine AWP.block ?_ | refine AWP.skip ?_ | refine AWP.exit ?_ | refine AWP.scope ?_ | refine AWP.label ?_)
      refine AWP.cond rfl (fun h => ?_) (fun h => ?_)
      · have hc1 : c.toNat < 128 := by simp at h; omega
        repeat (first
    | refine AOps.op rfl rfl ?_ | refine AOps.load rfl rfl rfl rfl rfl ?_ | refine AOps.nil ?_ | refine AWP.seq ?_ | refine AWP.region ?_ | refine AWP.block ?_ | refine AWP.skip ?_ | refine AWP.exit ?_ | refine AWP.scope ?_ | refine AWP.label ?_)
        refine AOps.and (j := 2) (y := decide ((c.toNat : Int) > 1)) [_, _] rfl rfl rfl rfl rfl rfl rfl (fun hb => ?_) ?_
        · repeat (first | refine AOps.unguard rfl rfl (by assumption) ?_ | refine AOps.op rfl rfl ?_ | refine AOps.load rfl rfl rfl rfl rfl ?_)
          exact AOps.nil (GuardEnd.of 2 rfl rfl rfl rfl rfl)
        repeat (first
    | refine AOps.op rfl rfl ?_ | refine AOps.load rfl rfl rfl rfl rfl ?_ | refine AOps.nil ?_ | refine AWP.seq ?_ | refine AWP.region ?_ | refine AWP.block ?_ | refine AWP.skip ?_ | refine AWP.exit ?_ | refine AWP.scope ?_ | refine AWP.label ?_)
        refine AWP.cond rfl (fun h => ?_) (fun h => ?_)
        · have h9 : i = 9 ∧ 1 < c.toNat := by simp at h; omega
          repeat (first
    | refine AOps.op rfl rfl ?_ | refine AOps.load rfl rfl rfl rfl rfl ?_ | refine AOps.nil ?_ | refine AWP.seq ?_ | refine AWP.region ?_ | refine AWP.block ?_ | refine AWP.skip ?_ | refine AWP.exit ?_ | refine AWP.scope ?_ | refine AWP.label ?_)
          refine AWP.ret ?_
          refine ⟨_, _, rfl, rfl, Heap.le_refl _, ?_, rfl⟩
          rw [← h4]; simp only [vgo, h9.1, h9.2, and_self, if_true]; rfl
        · have h9 : ¬ (i = 9 ∧ 1 < c.toNat) := by simp at h; omega
          obtain ⟨o1, o2⟩ := eor (by omega)
          rw [show c.toNat % 128 = c.toNat by omega] at o1 o2
          repeat (first
    | refine AOps.op rfl rfl ?_ | refine AOps.load rfl rfl rfl rfl rfl ?_ | refine AOps.nil ?_ | refine AWP.seq ?_ | refine AWP.region ?_ | refine AWP.block ?_ | refine AWP.skip ?_ | refine AWP.exit ?_ | refine AWP.scope ?_ | refine AWP.label ?_)
          refine AOps.op (show ashift .shl .u64 _ _ = _ from if_neg n7) rfl ?_
          refine AOps.op (congrArg (fun x => some (AV.int .u64 x)) o1) rfl ?_
          repeat (first
    | refine AOps.op rfl rfl ?_ | refine AOps.load rfl rfl rfl rfl rfl ?_ | refine AOps.nil ?_ | refine AWP.seq ?_ | refine AWP.region ?_ | refine AWP.block ?_ | refine AWP.skip ?_ | refine AWP.exit ?_ | refine AWP.scope ?_ | refine AWP.label ?_)
          refine AWP.cond rfl (fun _ => ?_) (fun h => ?_)
          · repeat (first
    | refine AOps.op rfl rfl ?_ | refine AOps.load rfl rfl rfl rfl rfl ?_ | refine AOps.nil ?_ | refine AWP.seq ?_ | refine AWP.region ?_ | refine AWP.block ?_ | refine AWP.skip ?_ | refine AWP.exit ?_ | refine AWP.scope ?_ | refine AWP.label ?_)
            refine ⟨(acc + c.toNat * 2 ^ (7 * i), i + 1), .inr ⟨by simp only; omega, by simp only; omega, o2, ?_⟩, ⟨rfl, rfl, congrArg (fun x => some (AV.int .i64 x)) ei, trivial⟩, rfl, Heap.le_refl _⟩
            rw [← h4]; simp only [vgo, if_neg h9, if_pos hc1]
          · simp only [ei] at h
            simp at h
      · have hc1 : ¬ c.toNat < 128 := by simp at h; omega
        repeat (first
    | refine AOps.op rfl rfl ?_ | refine AOps.load rfl rfl rfl rfl rfl ?_ | refine AOps.nil ?_ | refine AWP.seq ?_ | refine AWP.region ?_ | refine AWP.block ?_ | refine AWP.skip ?_ | refine AWP.exit ?_ | refine AWP.scope ?_ | refine AWP.label ?_)
        refine AOps.and (j := 2) (y := decide ((c.toNat : Int) > 1)) [_, _] rfl rfl rfl rfl rfl rfl rfl (fun hb => ?_) ?_
        · repeat (first | refine AOps.unguard rfl rfl (by assumption) ?_ | refine AOps.op rfl rfl ?_ | refine AOps.load rfl rfl rfl rfl rfl ?_)
          exact AOps.nil (GuardEnd.of 2 rfl rfl rfl rfl rfl)
        repeat (first
    | refine AOps.op rfl rfl ?_ | refine AOps.load rfl rfl rfl rfl rfl ?_ | refine AOps.nil ?_ | refine AWP.seq ?_ | refine AWP.region ?_ | refine AWP.block ?_ | refine AWP.skip ?_ | refine AWP.exit ?_ | refine AWP.scope ?_ | refine AWP.label ?_)
        refine AWP.cond rfl (fun h => ?_) (fun h => ?_)
        · have h9 : i = 9 ∧ 1 < c.toNat := by simp at h; omega
          repeat (first
    | refine AOps.op rfl rfl ?_ | refine AOps.load rfl rfl rfl rfl rfl ?_ | refine AOps.nil ?_ | refine AWP.seq ?_ | refine AWP.region ?_ | refine AWP.block ?_ | refine AWP.skip ?_ | refine AWP.exit ?_ | refine AWP.scope ?_ | refine AWP.label ?_)
          refine AWP.ret ?_
          refine ⟨_, _, rfl, rfl, Heap.le_refl _, ?_, rfl⟩
          rw [← h4]; simp only [vgo, h9.1, h9.2, and_self, if_true]; rfl
        · have h9 : ¬ (i = 9 ∧ 1 < c.toNat) := by simp at h; omega
          have hi9 : i ≠ 9 := fun e => h9 ⟨e, by omega⟩
          obtain ⟨o1, o2⟩ := eor (by omega)
          rw [show c.toNat % 128 = c.toNat - 128 by omega] at o1 o2
          repeat (first
    | refine AOps.op rfl rfl ?_ | refine AOps.load rfl rfl rfl rfl rfl ?_ | refine AOps.nil ?_ | refine AWP.seq ?_ | refine AWP.region ?_ | refine AWP.block ?_ | refine AWP.skip ?_ | refine AWP.exit ?_ | refine AWP.scope ?_ | refine AWP.label ?_)
          refine AOps.op (show ashift .shl .u64 _ _ = _ from if_neg n7) rfl ?_
          refine AOps.op (congrArg (fun x => some (AV.int .u64 x)) o1) rfl ?_
          repeat (first
    | refine AOps.op rfl rfl ?_ | refine AOps.load rfl rfl rfl rfl rfl ?_ | refine AOps.nil ?_ | refine AWP.seq ?_ | refine AWP.region ?_ | refine AWP.block ?_ | refine AWP.skip ?_ | refine AWP.exit ?_ | refine AWP.scope ?_ | refine AWP.label ?_)
          refine AWP.cond rfl (fun h => ?_) (fun _ => ?_)
          · simp at h
          · repeat (first
    | refine AOps.op rfl rfl ?_ | refine AOps.load rfl rfl rfl rfl rfl ?_ | refine AOps.nil ?_ | refine AWP.seq ?_ | refine AWP.region ?_ | refine AWP.block ?_ | refine AWP.skip ?_ | refine AWP.exit ?_ | refine AWP.scope ?_ | refine AWP.label ?_)
            refine ⟨(i + 1, acc + (c.toNat - 128) * 2 ^ (7 * i)), by simp only; omega, ⟨by simp only; omega, by simp only; omega, ?_, ?_⟩, ⟨rfl, rfl, rfl, congrArg (fun x => some (AV.int .i64 x)) ei, rfl, rfl, trivial⟩, rfl, Heap.le_refl _⟩
            · simp only [pow7]
              have : (c.toNat - 128) * 2 ^ (7 * i) ≤ 127 * 2 ^ (7 * i) := Nat.mul_le_mul_right _ (by omega)
              omega
            · simp only; rw [← h4]; simp only [vgo, if_neg h9, if_neg hc1]
    · have h : b.length ≤ i := by simp at h; omega
      repeat (first
    | refine AOps.op rfl rfl ?_ | refine AOps.load rfl rfl rfl rfl rfl ?_ | refine AOps.nil ?_ | refine AWP.seq ?_ | refine AWP.region ?_ | refine AWP.block ?_ | refine AWP.skip ?_ | refine AWP.exit ?_ | refine AWP.scope ?_ | refine AWP.label ?_)
      refine ⟨(acc, 0), .inl ⟨rfl, by omega, ?_⟩, ⟨rfl, rfl, rfl, trivial⟩, rfl, Heap.le_refl _⟩
      rw [← h4, List.drop_of_length_le h]; rfl
  rintro ⟨n, size⟩ hi
  simp only at hi
  repeat (first
    | refine AOps.op rfl rfl ?_ | refine AOps.load rfl rfl rfl rfl rfl ?_ | refine AOps.nil ?_ | refine AWP.seq ?_ | refine AWP.region ?_ | refine AWP.block ?_ | refine AWP.skip ?_ | refine AWP.exit ?_ | refine AWP.scope ?_ | refine AWP.label ?_)
  refine AOps.and (j := 2) (y := decide ((b.length : Int) < 10)) [_, _, _] rfl rfl rfl rfl rfl rfl rfl (fun hb => ?_) ?_
  · refine AOps.unguard rfl rfl hb ?_
    refine AOps.op rfl rfl ?_
    refine AOps.unguard rfl rfl hb ?_
    refine AOps.op (r := .int .i64 b.length) (congrArg (fun n : Nat => some (AV.int .i64 n)) (encB_length b)) rfl ?_
    repeat (first | refine AOps.unguard rfl rfl (by assumption) ?_ | refine AOps.op rfl rfl ?_ | refine AOps.load rfl rfl rfl rfl rfl ?_)
    exact AOps.nil (GuardEnd.of 3 rfl rfl rfl rfl rfl)
  repeat (first
    | refine AOps.op rfl rfl ?_ | refine AOps.load rfl rfl rfl rfl rfl ?_ | refine AOps.nil ?_ | refine AWP.seq ?_ | refine AWP.region ?_ | refine AWP.block ?_ | refine AWP.skip ?_ | refine AWP.exit ?_ | refine AWP.scope ?_ | refine AWP.label ?_)
  rcases hi with ⟨rfl, h2, h3⟩ | ⟨h1, h2, h3, h4⟩
  · refine AWP.cond rfl (fun h => ?_) (fun h => by simp at h; omega)
    repeat (first
    | refine AOps.op rfl rfl ?_ | refine AOps.load rfl rfl rfl rfl rfl ?_ | refine AOps.nil ?_ | refine AWP.seq ?_ | refine AWP.region ?_ | refine AWP.block ?_ | refine AWP.skip ?_ | refine AWP.exit ?_ | refine AWP.scope ?_ | refine AWP.label ?_)
    refine AWP.ret ?_
    refine ⟨_, _, rfl, rfl, Heap.le_refl _, ?_, rfl⟩
    rw [h3]; rfl
  · refine AWP.cond rfl (fun h => by simp at h; omega) (fun h => ?_)
    repeat (first
    | refine AOps.op rfl rfl ?_ | refine AOps.load rfl rfl rfl rfl rfl ?_ | refine AOps.nil ?_ | refine AWP.seq ?_ | refine AWP.region ?_ | refine AWP.block ?_ | refine AWP.skip ?_ | refine AWP.exit ?_ | refine AWP.scope ?_ | refine AWP.label ?_)
    refine AOps.or (j := 2) (y := decide ((size : Int) ≠ vsize n)) [_, _, _, _] rfl rfl rfl rfl rfl rfl rfl (fun hb => ?_) ?_
    · refine AOps.unguard rfl rfl hb ?_
      refine AOps.op rfl rfl ?_
      refine AOps.unguard rfl rfl hb ?_
      refine AOps.op rfl rfl ?_
      refine AOps.unguard rfl rfl hb ?_
      refine AOps.call rfl rfl rfl ((Size_spec n h3 H).mono ?_)
      rintro _ _ ⟨rfl, rfl⟩
      refine AOps.unguard rfl rfl hb ?_
      refine AOps.op (r := .bool (decide ((size : Int) ≠ vsize n))) ?_ rfl ?_
      · refine congrArg (fun x => some (AV.bool x)) ?_
        simp [bne, BEq.beq]
      exact AOps.nil (GuardEnd.of 4 rfl rfl rfl rfl rfl)
    repeat (first
    | refine AOps.op rfl rfl ?_ | refine AOps.load rfl rfl rfl rfl rfl ?_ | refine AOps.nil ?_ | refine AWP.seq ?_ | refine AWP.region ?_ | refine AWP.block ?_ | refine AWP.skip ?_ | refine AWP.exit ?_ | refine AWP.scope ?_ | refine AWP.label ?_)
    refine AWP.cond rfl (fun h => ?_) (fun h => ?_)
    · have : ¬ vsize n = size := by simp at h; omega
      repeat (first
    | refine AOps.op rfl rfl ?_ | refine AOps.load rfl rfl rfl rfl rfl ?_ | refine AOps.nil ?_ | refine AWP.seq ?_ | refine AWP.region ?_ | refine AWP.block ?_ | refine AWP.skip ?_ | refine AWP.exit ?_ | refine AWP.scope ?_ | refine AWP.label ?_)
      refine AWP.ret ?_
      refine ⟨_, _, rfl, rfl, Heap.le_refl _, ?_, rfl⟩
      rw [h4, if_neg this]; rfl
    · have : vsize n = size := by simp at h; omega
      repeat (first
    | refine AOps.op rfl rfl ?_ | refine AOps.load rfl rfl rfl rfl rfl ?_ | refine AOps.nil ?_ | refine AWP.seq ?_ | refine AWP.region ?_ | refine AWP.block ?_ | refine AWP.skip ?_ | refine AWP.exit ?_ | refine AWP.scope ?_ | refine AWP.label ?_)
      refine AWP.ret ?_
      refine ⟨_, _, rfl, rfl, Heap.le_refl _, ?_, rfl⟩
      rw [h4, if_pos this]; rfl
end Go.Proofs.Ytlbnhokhhangdaa

/- The package vint: the rest. -/
namespace Go.Proofs.Ytlbnhokhhangdaa
open Go Go.Am Go.Pk Go.Lib
set_option linter.unusedVariables false
set_option maxRecDepth 10000
attribute [local irreducible] AOps AWP DRun ACalls

theorem Put_spec (n : Nat) (hn : n < 2 ^ 64) (H : Heap) : ACalls Q.prog 43 [.int .u64 n] H (Bs H (uvarint n)) := by
  refine ACalls.body (N := 5) Try.func43 rfl rfl rfl rfl ?_
  repeat (first
    | refine AOps.op rfl rfl ?_ | refine AOps.load rfl rfl rfl rfl rfl ?_ | refine AOps.nil ?_ | refine AWP.seq ?_ | refine AWP.region ?_ | refine AWP.block ?_ | refine AWP.skip ?_ | refine AWP.exit ?_ | refine AWP.scope ?_ | refine AWP.label ?_)
  refine AOps.call rfl rfl rfl ((put_spec [] n hn .full H trivial (by simp)).mono ?_)
  rintro _ H' ⟨tag, rfl, h1, h2⟩
  repeat (first
    | refine AOps.op rfl rfl ?_ | refine AOps.load rfl rfl rfl rfl rfl ?_ | refine AOps.nil ?_ | refine AWP.seq ?_ | refine AWP.region ?_ | refine AWP.block ?_ | refine AWP.skip ?_ | refine AWP.exit ?_ | refine AWP.scope ?_ | refine AWP.label ?_)
  refine AWP.ret ?_
  exact ⟨_, _, rfl, rfl, Heap.le_refl _, tag, rfl, h1, h2⟩

theorem All_spec (ns : List Nat) (tag : Tag) (hn : ∀ n ∈ ns, n < 2 ^ 64) (hl : ns.length ≤ 1000) (H : Heap) :
    ACalls Q.prog 41 [.sl (ns.map fun n => .int .u64 (n : Nat)) tag] H (Bs H (ns.flatMap uvarint)) := by
  refine ACalls.body (N := 17) Try.func41 rfl rfl rfl rfl ?_
  repeat (first
    | refine AOps.op rfl rfl ?_ | refine AOps.load rfl rfl rfl rfl rfl ?_ | refine AOps.nil ?_ | refine AWP.seq ?_ | refine AWP.region ?_ | refine AWP.block ?_ | refine AWP.skip ?_ | refine AWP.exit ?_ | refine AWP.scope ?_ | refine AWP.label ?_)
  refine AWP.loopA (α := Nat × Str × Tag × Heap) (fun a => a.1 ≤ ns.length ∧ a.2.1 = (ns.take a.1).flatMap uvarint ∧ App a.2.2.2 1 a.2.1.length a.2.2.1 ∧ hbase a.2.2.2 a.2.2.1 = H ∧ a.2.1.length ≤ 10 * a.1) (fun a => ns.length - a.1)
    (fun a => [(3, .sl (encB a.2.1) a.2.2.1), (6, .sl (ns.map fun n => .int .u64 (n : Nat)) tag), (7, .int .i64 ns.length), (8, .int .i64 a.1)]) (fun _ => []) (fun a => a.2.2.2) (0, [], .full, H)
    ⟨by simp, by simp, trivial, rfl, by simp⟩ ⟨rfl, rfl, ?_, rfl, trivial⟩ rfl (Heap.le_refl _) ?_
  · exact congrArg (fun n : Nat => some (AV.int .i64 n)) (List.length_map _)
  rintro ⟨i, acc, tg, H1⟩ ⟨h1, h2, h3, h4, h5⟩
  simp only at h1 h2 h3 h4 h5
  repeat (first
    | refine AOps.op rfl rfl ?_ | refine AOps.load rfl rfl rfl rfl rfl ?_ | refine AOps.nil ?_ | refine AWP.seq ?_ | refine AWP.region ?_ | refine AWP.block ?_ | refine AWP.skip ?_ | refine AWP.exit ?_ | refine AWP.scope ?_ | refine AWP.label ?_)
  refine AWP.cond rfl (fun h => ?_) (fun h => ?_)
  · have h : i < ns.length := by simp at h; omega
    obtain ⟨c, hc⟩ : ∃ c, ns[i]? = some c := ⟨ns[i], List.getElem?_eq_getElem h⟩
    have hcn : c < 2 ^ 64 := hn c (List.mem_of_getElem? hc)
    have ei : IntKind.i64.wrap ((i : Int) + 1) = ((i + 1 : Nat) : Int) := wrap_i64 (n := i + 1) (by omega)
    repeat (first
    | refine AOps.op rfl rfl ?_ | refine AOps.load rfl rfl rfl rfl rfl ?_ | refine AOps.nil ?_ | refine AWP.seq ?_ | refine AWP.region ?_ | refine AWP.block ?_ | refine AWP.skip ?_ | refine AWP.exit ?_ | refine AWP.scope ?_ | refine AWP.label ?_)
    refine AOps.indexSl (e := .int .u64 (c : Nat)) rfl rfl rfl rfl rfl rfl (by simp only; omega) (by simp [hc]) rfl rfl ?_
    repeat (first
    | refine AOps.op rfl rfl ?_ | refine AOps.load rfl rfl rfl rfl rfl ?_ | refine AOps.nil ?_ | refine AWP.seq ?_ | refine AWP.region ?_ | refine AWP.block ?_ | refine AWP.skip ?_ | refine AWP.exit ?_ | refine AWP.scope ?_ | refine AWP.label ?_)
    refine AOps.call rfl rfl rfl ((put_spec acc c hcn tg H1 h3 (by omega)).mono ?_)
    rintro _ H' ⟨tag', rfl, k1, k2⟩
    repeat (first
    | refine AOps.op rfl rfl ?_ | refine AOps.load rfl rfl rfl rfl rfl ?_ | refine AOps.nil ?_ | refine AWP.seq ?_ | refine AWP.region ?_ | refine AWP.block ?_ | refine AWP.skip ?_ | refine AWP.exit ?_ | refine AWP.scope ?_ | refine AWP.label ?_)
    refine ⟨(i + 1, acc ++ uvarint c, tag', H'), by simp only; omega, ⟨by simp only; omega, ?_, k1, k2.trans h4, ?_⟩, ⟨rfl, rfl, rfl, congrArg (fun x => some (AV.int .i64 x)) ei, trivial⟩, rfl, Heap.le_refl _⟩
    · simp only [List.take_add_one, hc, h2, List.flatMap_append, Option.toList_some, List.flatMap_cons, List.flatMap_nil, List.append_nil]
    · have := uvarint_length64 hcn
      simp only [List.length_append]; omega
  · have h : ns.length ≤ i := by simp at h; omega
    repeat (first
    | refine AOps.op rfl rfl ?_ | refine AOps.load rfl rfl rfl rfl rfl ?_ | refine AOps.nil ?_ | refine AWP.seq ?_ | refine AWP.region ?_ | refine AWP.block ?_ | refine AWP.skip ?_ | refine AWP.exit ?_ | refine AWP.scope ?_ | refine AWP.label ?_)
    refine AWP.ret ?_
    refine ⟨_, _, rfl, rfl, Heap.le_refl _, tg, ?_, ?_, h4⟩
    · rw [h2, List.take_of_length_le h]
    · rw [h2, List.take_of_length_le h] at h3; exact h3

theorem xor_comm (k : IntKind) (a b : Int) : bits .xor k a b = bits .xor k b a := by
  show k.wrap ((BitVec.ofInt k.bits a ^^^ BitVec.ofInt k.bits b).toNat : Int) = k.wrap ((BitVec.ofInt k.bits b ^^^ BitVec.ofInt k.bits a).toNat : Int)
  rw [BitVec.xor_comm]

theorem xor_zero (k : IntKind) (a : Int) (h : k.wrap ((BitVec.ofInt k.bits a).toNat : Int) = a) : bits .xor k a 0 = a := by
  show k.wrap ((BitVec.ofInt k.bits a ^^^ BitVec.ofInt k.bits 0).toNat : Int) = a
  rw [show BitVec.ofInt k.bits 0 = 0#k.bits by apply BitVec.eq_of_toNat_eq; simp [BitVec.toNat_ofInt], BitVec.xor_zero]
  exact h

theorem Zig_val (n : Int) (h1 : -9223372036854775808 ≤ n) (h2 : n ≤ 9223372036854775807) :
    bits .xor .u64 (IntKind.u64.wrap (IntKind.u64.wrap n * 2 ^ (min (1 : Int).toNat 64))) (IntKind.u64.wrap (n.fdiv (2 ^ (min (63 : Int).toNat 64)))) = ((zigzag n : Nat) : Int) := by
  have e1 : (2 : Int) ^ (min (1 : Int).toNat 64) = 2 := by decide
  have e2 : (2 : Int) ^ (min (63 : Int).toNat 64) = 9223372036854775808 := by decide
  rw [e1, e2]
  by_cases c : 0 ≤ n
  · have : n.fdiv 9223372036854775808 = 0 := by rw [Int.fdiv_eq_ediv_of_nonneg _ (by omega)]; omega
    rw [this, zigzag_nonneg c]
    have e3 : IntKind.u64.wrap (IntKind.u64.wrap n * 2) = n * 2 := by rw [IntKind.wrap_u64, IntKind.wrap_u64]; omega
    have e4 : IntKind.u64.wrap 0 = 0 := by decide
    rw [e3, e4]
    refine xor_zero _ _ ?_
    show IntKind.u64.wrap ((BitVec.ofInt 64 (n * 2)).toNat : Int) = n * 2
    rw [BitVec.toNat_ofInt, IntKind.wrap_u64]
    omega
  · have : n.fdiv 9223372036854775808 = -1 := by rw [Int.fdiv_eq_ediv_of_nonneg _ (by omega)]; omega
    rw [this, xor_comm, ← zigzag_neg h1 (by omega)]
    rfl

theorem Zig_spec (n : Int) (h1 : -9223372036854775808 ≤ n) (h2 : n ≤ 9223372036854775807) (H : Heap) :
    ACalls Q.prog 80 [.int .i64 n] H fun r H' => r = .int .u64 (zigzag n) ∧ H' = H := by
  refine ACalls.body (N := 10) Try.func80 rfl rfl rfl rfl ?_
  repeat (first
    | refine AOps.op rfl rfl ?_ | refine AOps.load rfl rfl rfl rfl rfl ?_ | refine AOps.nil ?_ | refine AWP.seq ?_ | refine AWP.region ?_ | refine AWP.block ?_ | refine AWP.skip ?_ | refine AWP.exit ?_ | refine AWP.scope ?_ | refine AWP.label ?_)
  refine AWP.ret ?_
  exact ⟨_, _, rfl, rfl, Heap.le_refl _, congrArg (AV.int .u64) (Zig_val n h1 h2), rfl⟩

theorem PutSigned_spec (n : Int) (h1 : -9223372036854775808 ≤ n) (h2 : n ≤ 9223372036854775807) (H : Heap) :
    ACalls Q.prog 64 [.int .i64 n] H (Bs H (uvarint (zigzag n))) := by
  refine ACalls.body (N := 6) Try.func64 rfl rfl rfl rfl ?_
  repeat (first
    | refine AOps.op rfl rfl ?_ | refine AOps.load rfl rfl rfl rfl rfl ?_ | refine AOps.nil ?_ | refine AWP.seq ?_ | refine AWP.region ?_ | refine AWP.block ?_ | refine AWP.skip ?_ | refine AWP.exit ?_ | refine AWP.scope ?_ | refine AWP.label ?_)
  refine AOps.call rfl rfl rfl ((Zig_spec n h1 h2 H).mono ?_)
  rintro _ _ ⟨rfl, rfl⟩
  refine AOps.call rfl rfl rfl ((Put_spec _ (zigzag_lt h1 h2) _).mono ?_)
  rintro _ H' ⟨tag, rfl, h1, h2⟩
  repeat (first
    | refine AOps.op rfl rfl ?_ | refine AOps.load rfl rfl rfl rfl rfl ?_ | refine AOps.nil ?_ | refine AWP.seq ?_ | refine AWP.region ?_ | refine AWP.block ?_ | refine AWP.skip ?_ | refine AWP.exit ?_ | refine AWP.scope ?_ | refine AWP.label ?_)
  refine AWP.ret ?_
  exact ⟨_, _, rfl, rfl, Heap.le_refl _, tag, rfl, h1, h2⟩

theorem Zag_val (u : Nat) (h : u < 2 ^ 64) :
    bits .xor .i64 (IntKind.i64.wrap ((u : Int).fdiv (2 ^ (min (1 : Int).toNat 64)))) (IntKind.i64.wrap (0 - IntKind.i64.wrap (bits .and .u64 (u : Int) 1))) = zag u := by
  have e1 : (2 : Int) ^ (min (1 : Int).toNat 64) = ((2 : Nat) : Int) := by decide
  rw [e1, fdiv_nat, wrap_i64 (n := u / 2) (by omega), u64_and1 _ (by omega) (by omega)]
  unfold zag
  by_cases c : u % 2 = 0
  · rw [if_pos c, show (u : Int) % 2 = 0 by omega]
    have e4 : IntKind.i64.wrap (0 - IntKind.i64.wrap 0) = 0 := by decide
    rw [e4]
    refine xor_zero _ _ ?_
    show IntKind.i64.wrap ((BitVec.ofInt 64 ((u / 2 : Nat) : Int)).toNat : Int) = _
    rw [BitVec.toNat_ofInt, IntKind.wrap_i64]
    omega
  · rw [if_neg c, show (u : Int) % 2 = 1 by omega]
    have e4 : IntKind.i64.wrap (0 - IntKind.i64.wrap 1) = -1 := by decide
    rw [e4, xor_comm, i64_not _ (by omega)]

theorem Zag_spec (u : Nat) (h : u < 2 ^ 64) (H : Heap) : ACalls Q.prog 82 [.int .u64 u] H fun r H' => r = .int .i64 (zag u) ∧ H' = H := by
  refine ACalls.body (N := 11) Try.func82 rfl rfl rfl rfl ?_
  repeat (first
    | refine AOps.op rfl rfl ?_ | refine AOps.load rfl rfl rfl rfl rfl ?_ | refine AOps.nil ?_ | refine AWP.seq ?_ | refine AWP.region ?_ | refine AWP.block ?_ | refine AWP.skip ?_ | refine AWP.exit ?_ | refine AWP.scope ?_ | refine AWP.label ?_)
  refine AWP.ret ?_
  exact ⟨_, _, rfl, rfl, Heap.le_refl _, congrArg (AV.int .i64) (Zag_val u h), rfl⟩

theorem TakeSigned_spec (b : Str) (tag : Tag) (H : Heap) (hb : b.length < 2 ^ 40) :
    ACalls Q.prog 70 [.sl (encB b) tag] H fun r H' => r = .tuple [.int .i64 (zag (vtake b).1), .int .i64 (vtake b).2.1, .int .i64 (vtake b).2.2] ∧ H' = H := by
  refine ACalls.body (N := 18) Try.func70 rfl rfl rfl rfl ?_
  repeat (first
    | refine AOps.op rfl rfl ?_ | refine AOps.load rfl rfl rfl rfl rfl ?_ | refine AOps.nil ?_ | refine AWP.seq ?_ | refine AWP.region ?_ | refine AWP.block ?_ | refine AWP.skip ?_ | refine AWP.exit ?_ | refine AWP.scope ?_ | refine AWP.label ?_)
  refine AOps.call rfl rfl rfl ((Take_spec b tag H hb).mono ?_)
  rintro _ _ ⟨rfl, rfl⟩
  repeat (first
    | refine AOps.op rfl rfl ?_ | refine AOps.load rfl rfl rfl rfl rfl ?_ | refine AOps.nil ?_ | refine AWP.seq ?_ | refine AWP.region ?_ | refine AWP.block ?_ | refine AWP.skip ?_ | refine AWP.exit ?_ | refine AWP.scope ?_ | refine AWP.label ?_)
  refine AOps.call rfl rfl rfl ((Zag_spec _ (vtake_le b).2.2.1 _).mono ?_)
  rintro _ _ ⟨rfl, rfl⟩
  repeat (first
    | refine AOps.op rfl rfl ?_ | refine AOps.load rfl rfl rfl rfl rfl ?_ | refine AOps.nil ?_ | refine AWP.seq ?_ | refine AWP.region ?_ | refine AWP.block ?_ | refine AWP.skip ?_ | refine AWP.exit ?_ | refine AWP.scope ?_ | refine AWP.label ?_)
  refine AWP.ret ?_
  exact ⟨_, _, rfl, rfl, Heap.le_refl _, rfl, rfl⟩
end Go.Proofs.Ytlbnhokhhangdaa

/- The package clock. -/
namespace Go.Proofs.Ytlbnhokhhangdaa
open Go Go.Am Go.Pk Go.Lib
set_option linter.unusedVariables false
set_option maxRecDepth 10000
attribute [local irreducible] AOps AWP DRun ACalls

abbrev ck (c : Clk) : AV := .agg [.int .i64 c.a, .int .i64 c.b, .int .i64 c.c]

theorem Right_spec (c : Clk) (H : Heap) : ACalls Q.prog 45 [ck c] H fun r H' => r = .bool c.ok ∧ H' = H := by
  obtain ⟨a, b, c⟩ := c
  refine ACalls.body (N := 16) Try.func45 rfl rfl rfl rfl ?_
  repeat (first | refine AOps.op rfl rfl ?_ | refine AOps.load rfl rfl rfl rfl rfl ?_)
  refine AWP.seq (AWP.region ?_)
  refine AOps.boxL 0 rfl rfl rfl rfl rfl ?_
  repeat (first
    | refine AOps.op rfl rfl ?_ | refine AOps.load rfl rfl rfl rfl rfl ?_ | refine AOps.nil ?_ | refine AWP.seq ?_ | refine AWP.region ?_ | refine AWP.block ?_ | refine AWP.skip ?_ | refine AWP.exit ?_ | refine AWP.scope ?_ | refine AWP.label ?_)
  refine AWP.loopA (α := Nat) (fun i => i ≤ 3 ∧ (1 ≤ i → nok a = true) ∧ (2 ≤ i → nok b = true) ∧ (3 ≤ i → nok c = true)) (fun i => 3 - i)
    (fun i => [(5, ck ⟨a, b, c⟩), (6, .int .i64 i)]) (fun _ => [[.int .i64 a, .int .i64 b, .int .i64 c]]) (fun _ => H) 0 (by simp) ⟨rfl, rfl, trivial⟩ rfl (Heap.le_refl _) ?_
  rintro i ⟨h1, h2, h3, h4⟩
  have ei : IntKind.i64.wrap ((i : Int) + 1) = ((i + 1 : Nat) : Int) := wrap_i64 (n := i + 1) (by omega)
  rcases (by omega : i = 0 ∨ i = 1 ∨ i = 2 ∨ i = 3) with rfl | rfl | rfl | rfl
  · repeat (first
    | refine AOps.op rfl rfl ?_ | refine AOps.load rfl rfl rfl rfl rfl ?_ | refine AOps.nil ?_ | refine AWP.seq ?_ | refine AWP.region ?_ | refine AWP.block ?_ | refine AWP.skip ?_ | refine AWP.exit ?_ | refine AWP.scope ?_ | refine AWP.label ?_)
    refine AWP.cond rfl (fun h => ?_) (fun h => by simp at h)
    repeat (first
    | refine AOps.op rfl rfl ?_ | refine AOps.load rfl rfl rfl rfl rfl ?_ | refine AOps.nil ?_ | refine AWP.seq ?_ | refine AWP.region ?_ | refine AWP.block ?_ | refine AWP.skip ?_ | refine AWP.exit ?_ | refine AWP.scope ?_ | refine AWP.label ?_)
    refine AOps.or (j := 2) (y := decide (a > 4611686018427387903)) [_, _] rfl rfl rfl rfl rfl rfl rfl (fun hb => ?_) ?_
    · repeat (first | refine AOps.unguard rfl rfl (by assumption) ?_ | refine AOps.op rfl rfl ?_ | refine AOps.load rfl rfl rfl rfl rfl ?_)
      exact AOps.nil (GuardEnd.of 2 rfl rfl rfl rfl rfl)
    repeat (first
    | refine AOps.op rfl rfl ?_ | refine AOps.load rfl rfl rfl rfl rfl ?_ | refine AOps.nil ?_ | refine AWP.seq ?_ | refine AWP.region ?_ | refine AWP.block ?_ | refine AWP.skip ?_ | refine AWP.exit ?_ | refine AWP.scope ?_ | refine AWP.label ?_)
    refine AWP.cond rfl (fun h => ?_) (fun h => ?_)
    · repeat (first
    | refine AOps.op rfl rfl ?_ | refine AOps.load rfl rfl rfl rfl rfl ?_ | refine AOps.nil ?_ | refine AWP.seq ?_ | refine AWP.region ?_ | refine AWP.block ?_ | refine AWP.skip ?_ | refine AWP.exit ?_ | refine AWP.scope ?_ | refine AWP.label ?_)
      refine AWP.ret ?_
      refine ⟨_, _, rfl, rfl, Heap.le_refl _, ?_, rfl⟩
      have : nok a = false := nok_not _ (by simp at h; exact h)
      simp [Clk.ok, this, ofConst]
    · have hn : nok a = true := (nok_iff _).2 (by simp at h; exact h)
      repeat (first
    | refine AOps.op rfl rfl ?_ | refine AOps.load rfl rfl rfl rfl rfl ?_ | refine AOps.nil ?_ | refine AWP.seq ?_ | refine AWP.region ?_ | refine AWP.block ?_ | refine AWP.skip ?_ | refine AWP.exit ?_ | refine AWP.scope ?_ | refine AWP.label ?_)
      refine ⟨_, ?_, ?_, ⟨rfl, congrArg (fun x => some (AV.int .i64 x)) ei, trivial⟩, rfl, Heap.le_refl _⟩
      · omega
      · refine ⟨by omega, fun _ => ?_, fun _ => ?_, fun _ => ?_⟩ <;> first | assumption | exact h2 (by omega) | exact h3 (by omega) | exact h4 (by omega)
  · repeat (first
    | refine AOps.op rfl rfl ?_ | refine AOps.load rfl rfl rfl rfl rfl ?_ | refine AOps.nil ?_ | refine AWP.seq ?_ | refine AWP.region ?_ | refine AWP.block ?_ | refine AWP.skip ?_ | refine AWP.exit ?_ | refine AWP.scope ?_ | refine AWP.label ?_)
    refine AWP.cond rfl (fun h => ?_) (fun h => by simp at h)
    repeat (first
    | refine AOps.op rfl rfl ?_ | refine AOps.load rfl rfl rfl rfl rfl ?_ | refine AOps.nil ?_ | refine AWP.seq ?_ | refine AWP.region ?_ | refine AWP.block ?_ | refine AWP.skip ?_ | refine AWP.exit ?_ | refine AWP.scope ?_ | refine AWP.label ?_)
    refine AOps.or (j := 2) (y := decide (b > 4611686018427387903)) [_, _] rfl rfl rfl rfl rfl rfl rfl (fun hb => ?_) ?_
    · repeat (first | refine AOps.unguard rfl rfl (by assumption) ?_ | refine AOps.op rfl rfl ?_ | refine AOps.load rfl rfl rfl rfl rfl ?_)
      exact AOps.nil (GuardEnd.of 2 rfl rfl rfl rfl rfl)
    repeat (first
    | refine AOps.op rfl rfl ?_ | refine AOps.load rfl rfl rfl rfl rfl ?_ | refine AOps.nil ?_ | refine AWP.seq ?_ | refine AWP.region ?_ | refine AWP.block ?_ | refine AWP.skip ?_ | refine AWP.exit ?_ | refine AWP.scope ?_ | refine AWP.label ?_)
    refine AWP.cond rfl (fun h => ?_) (fun h => ?_)
    · repeat (first
    | refine AOps.op rfl rfl ?_ | refine AOps.load rfl rfl rfl rfl rfl ?_ | refine AOps.nil ?_ | refine AWP.seq ?_ | refine AWP.region ?_ | refine AWP.block ?_ | refine AWP.skip ?_ | refine AWP.exit ?_ | refine AWP.scope ?_ | refine AWP.label ?_)
      refine AWP.ret ?_
      refine ⟨_, _, rfl, rfl, Heap.le_refl _, ?_, rfl⟩
      have : nok b = false := nok_not _ (by simp at h; exact h)
      simp [Clk.ok, this, ofConst]
    · have hn : nok b = true := (nok_iff _).2 (by simp at h; exact h)
      repeat (first
    | refine AOps.op rfl rfl ?_ | refine AOps.load rfl rfl rfl rfl rfl ?_ | refine AOps.nil ?_ | refine AWP.seq ?_ | refine AWP.region ?_ | refine AWP.block ?_ | refine AWP.skip ?_ | refine AWP.exit ?_ | refine AWP.scope ?_ | refine AWP.label ?_)
      refine ⟨_, ?_, ?_, ⟨rfl, congrArg (fun x => some (AV.int .i64 x)) ei, trivial⟩, rfl, Heap.le_refl _⟩
      · omega
      · refine ⟨by omega, fun _ => ?_, fun _ => ?_, fun _ => ?_⟩ <;> first | assumption | exact h2 (by omega) | exact h3 (by omega) | exact h4 (by omega)
  · repeat (first
    | refine AOps.op rfl rfl ?_ | refine AOps.load rfl rfl rfl rfl rfl ?_ | refine AOps.nil ?_ | refine AWP.seq ?_ | refine AWP.region ?_ | refine AWP.block ?_ | refine AWP.skip ?_ | refine AWP.exit ?_ | refine AWP.scope ?_ | refine AWP.label ?_)
    refine AWP.cond rfl (fun h => ?_) (fun h => by simp at h)
    repeat (first
    | refine AOps.op rfl rfl ?_ | refine AOps.load rfl rfl rfl rfl rfl ?_ | refine AOps.nil ?_ | refine AWP.seq ?_ | refine AWP.region ?_ | refine AWP.block ?_ | refine AWP.skip ?_ | refine AWP.exit ?_ | refine AWP.scope ?_ | refine AWP.label ?_)
    refine AOps.or (j := 2) (y := decide (c > 4611686018427387903)) [_, _] rfl rfl rfl rfl rfl rfl rfl (fun hb => ?_) ?_
    · repeat (first | refine AOps.unguard rfl rfl (by assumption) ?_ | refine AOps.op rfl rfl ?_ | refine AOps.load rfl rfl rfl rfl rfl ?_)
      exact AOps.nil (GuardEnd.of 2 rfl rfl rfl rfl rfl)
    repeat (first
    | refine AOps.op rfl rfl ?_ | refine AOps.load rfl rfl rfl rfl rfl ?_ | refine AOps.nil ?_ | refine AWP.seq ?_ | refine AWP.region ?_ | refine AWP.block ?_ | refine AWP.skip ?_ | refine AWP.exit ?_ | refine AWP.scope ?_ | refine AWP.label ?_)
    refine AWP.cond rfl (fun h => ?_) (fun h => ?_)
    · repeat (first
    | refine AOps.op rfl rfl ?_ | refine AOps.load rfl rfl rfl rfl rfl ?_ | refine AOps.nil ?_ | refine AWP.seq ?_ | refine AWP.region ?_ | refine AWP.block ?_ | refine AWP.skip ?_ | refine AWP.exit ?_ | refine AWP.scope ?_ | refine AWP.label ?_)
      refine AWP.ret ?_
      refine ⟨_, _, rfl, rfl, Heap.le_refl _, ?_, rfl⟩
      have : nok c = false := nok_not _ (by simp at h; exact h)
      simp [Clk.ok, this, ofConst]
    · have hn : nok c = true := (nok_iff _).2 (by simp at h; exact h)
      repeat (first
    | refine AOps.op rfl rfl ?_ | refine AOps.load rfl rfl rfl rfl rfl ?_ | refine AOps.nil ?_ | refine AWP.seq ?_ | refine AWP.region ?_ | refine AWP.block ?_ | refine AWP.skip ?_ | refine AWP.exit ?_ | refine AWP.scope ?_ | refine AWP.label ?_)
      refine ⟨_, ?_, ?_, ⟨rfl, congrArg (fun x => some (AV.int .i64 x)) ei, trivial⟩, rfl, Heap.le_refl _⟩
      · omega
      · refine ⟨by omega, fun _ => ?_, fun _ => ?_, fun _ => ?_⟩ <;> first | assumption | exact h2 (by omega) | exact h3 (by omega) | exact h4 (by omega)
  · repeat (first
    | refine AOps.op rfl rfl ?_ | refine AOps.load rfl rfl rfl rfl rfl ?_ | refine AOps.nil ?_ | refine AWP.seq ?_ | refine AWP.region ?_ | refine AWP.block ?_ | refine AWP.skip ?_ | refine AWP.exit ?_ | refine AWP.scope ?_ | refine AWP.label ?_)
    refine AWP.cond rfl (fun h => by simp at h) (fun h => ?_)
    repeat (first
    | refine AOps.op rfl rfl ?_ | refine AOps.load rfl rfl rfl rfl rfl ?_ | refine AOps.nil ?_ | refine AWP.seq ?_ | refine AWP.region ?_ | refine AWP.block ?_ | refine AWP.skip ?_ | refine AWP.exit ?_ | refine AWP.scope ?_ | refine AWP.label ?_)
    refine AWP.ret ?_
    refine ⟨_, _, rfl, rfl, Heap.le_refl _, ?_, rfl⟩
    simp [Clk.ok, h2, h3, h4, ofConst]
end Go.Proofs.Ytlbnhokhhangdaa

/- The package clock: told. -/
namespace Go.Proofs.Ytlbnhokhhangdaa
open Go Go.Am Go.Pk Go.Lib
set_option linter.unusedVariables false
set_option maxRecDepth 10000
attribute [local irreducible] AOps AWP DRun ACalls

def cpre (p c : Clk) : Nat → Str
  | 0 => []
  | 1 => uvarint (zigzag (c.a - p.a))
  | 2 => uvarint (zigzag (c.a - p.a)) ++ uvarint (zigzag (c.b - p.b))
  | _ => uvarint (zigzag (c.a - p.a)) ++ uvarint (zigzag (c.b - p.b)) ++ uvarint (zigzag (c.c - p.c))

theorem ok_iff (c : Clk) : c.ok = true ↔ (0 ≤ c.a ∧ c.a ≤ 4611686018427387903) ∧ (0 ≤ c.b ∧ c.b ≤ 4611686018427387903) ∧ (0 ≤ c.c ∧ c.c ≤ 4611686018427387903) := by
  simp only [Clk.ok, Bool.and_eq_true, nok_iff]

theorem cPut_spec (p c : Clk) (hp : p.ok = true) (hc : c.ok = true) (H : Heap) :
    ACalls Q.prog 42 [ck p, ck c] H fun r H' => ∃ x, r = .tuple [x, .int .i64 0] ∧ Bs H (cput p c) x H' := by
  obtain ⟨p1, p2, p3⟩ := (ok_iff p).1 hp
  obtain ⟨c1, c2, c3⟩ := (ok_iff c).1 hc
  refine ACalls.body (N := 32) Try.func42 rfl rfl rfl rfl ?_
  repeat (first | refine AOps.op rfl rfl ?_ | refine AOps.load rfl rfl rfl rfl rfl ?_)
  refine AWP.seq (AWP.region ?_)
  refine AOps.boxL 0 rfl rfl rfl rfl rfl ?_
  refine AOps.boxL 1 rfl rfl rfl rfl rfl ?_
  repeat (first
    | refine AOps.op rfl rfl ?_ | refine AOps.load rfl rfl rfl rfl rfl ?_ | refine AOps.nil ?_ | refine AWP.seq ?_ | refine AWP.region ?_ | refine AWP.block ?_ | refine AWP.skip ?_ | refine AWP.exit ?_ | refine AWP.scope ?_ | refine AWP.label ?_)
  refine AOps.call rfl rfl rfl ((Right_spec p H).mono ?_)
  rintro _ H ⟨rfl, rfl⟩
  rw [hp]
  repeat (first
    | refine AOps.op rfl rfl ?_ | refine AOps.load rfl rfl rfl rfl rfl ?_ | refine AOps.nil ?_ | refine AWP.seq ?_ | refine AWP.region ?_ | refine AWP.block ?_ | refine AWP.skip ?_ | refine AWP.exit ?_ | refine AWP.scope ?_ | refine AWP.label ?_)
  refine AOps.or (j := 3) (y := false) [_, _, _] rfl rfl rfl rfl rfl rfl rfl (fun hb => ?_) ?_
  · refine AOps.unguard rfl rfl hb ?_
    refine AOps.load rfl rfl rfl rfl rfl ?_
    refine AOps.unguard rfl rfl hb ?_
    refine AOps.call rfl rfl rfl ((Right_spec c _).mono ?_)
    rintro _ H ⟨rfl, rfl⟩
    rw [hc]
    repeat (first | refine AOps.unguard rfl rfl (by assumption) ?_ | refine AOps.op rfl rfl ?_ | refine AOps.load rfl rfl rfl rfl rfl ?_)
    exact AOps.nil (GuardEnd.of 3 rfl rfl rfl rfl rfl)
  repeat (first
    | refine AOps.op rfl rfl ?_ | refine AOps.load rfl rfl rfl rfl rfl ?_ | refine AOps.nil ?_ | refine AWP.seq ?_ | refine AWP.region ?_ | refine AWP.block ?_ | refine AWP.skip ?_ | refine AWP.exit ?_ | refine AWP.scope ?_ | refine AWP.label ?_)
  refine AWP.cond rfl (fun h => by simp at h) (fun _ => ?_)
  repeat (first
    | refine AOps.op rfl rfl ?_ | refine AOps.load rfl rfl rfl rfl rfl ?_ | refine AOps.nil ?_ | refine AWP.seq ?_ | refine AWP.region ?_ | refine AWP.block ?_ | refine AWP.skip ?_ | refine AWP.exit ?_ | refine AWP.scope ?_ | refine AWP.label ?_)
  refine AWP.loopA (α := Nat × Str × Tag × Heap) (fun a => a.1 ≤ 3 ∧ a.2.1 = cpre p c a.1 ∧ App a.2.2.2 1 a.2.1.length a.2.2.1 ∧ hbase a.2.2.2 a.2.2.1 = H ∧ a.2.1.length ≤ 10 * a.1) (fun a => 3 - a.1)
    (fun a => [(2, .lptr 0 0), (17, ck c), (18, .int .i64 a.1), (6, .sl (encB a.2.1) a.2.2.1)]) (fun _ => [(ck p).cells, (ck c).cells]) (fun a => a.2.2.2) (0, [], .full, H)
    ⟨by simp, rfl, trivial, rfl, by simp⟩ ⟨rfl, rfl, rfl, rfl, trivial⟩ rfl (Heap.le_refl _) ?_
  rintro ⟨i, acc, tg, H1⟩ ⟨h1, h2, h3, h4, h5⟩
  simp only at h1 h2 h3 h4 h5
  have ei : IntKind.i64.wrap ((i : Int) + 1) = ((i + 1 : Nat) : Int) := wrap_i64 (n := i + 1) (by omega)
  rcases (by omega : i = 0 ∨ i = 1 ∨ i = 2 ∨ i = 3) with rfl | rfl | rfl | rfl
  · repeat (first
    | refine AOps.op rfl rfl ?_ | refine AOps.load rfl rfl rfl rfl rfl ?_ | refine AOps.nil ?_ | refine AWP.seq ?_ | refine AWP.region ?_ | refine AWP.block ?_ | refine AWP.skip ?_ | refine AWP.exit ?_ | refine AWP.scope ?_ | refine AWP.label ?_)
    refine AWP.cond rfl (fun h => ?_) (fun h => by simp at h)
    repeat (first
    | refine AOps.op rfl rfl ?_ | refine AOps.load rfl rfl rfl rfl rfl ?_ | refine AOps.nil ?_ | refine AWP.seq ?_ | refine AWP.region ?_ | refine AWP.block ?_ | refine AWP.skip ?_ | refine AWP.exit ?_ | refine AWP.scope ?_ | refine AWP.label ?_)
    have e : IntKind.i64.wrap (c.a - p.a) = c.a - p.a := wrap_i64' (by omega) (by omega)
    refine AOps.call (vs := [.int .i64 (c.a - p.a)]) (congrArg (fun x => some [AV.int .i64 x]) e) rfl rfl ((PutSigned_spec _ (by omega) (by omega) H1).mono ?_)
    rintro _ H2 ⟨t2, rfl, k1, k2⟩
    have hz := uvarint_length64 (zigzag_lt (x := c.a - p.a) (by omega) (by omega))
    have hd : App (hbase H2 t2) 1 acc.length tg := by rw [k2]; exact h3
    refine appB (hbase H2 t2) (hbase_le _ _) rfl rfl rfl rfl rfl hd (by ((try dsimp only); omega)) fun tag' H' q1 q2 => ?_
    rw [k2, h4] at q2
    repeat (first
    | refine AOps.op rfl rfl ?_ | refine AOps.load rfl rfl rfl rfl rfl ?_ | refine AOps.nil ?_ | refine AWP.seq ?_ | refine AWP.region ?_ | refine AWP.block ?_ | refine AWP.skip ?_ | refine AWP.exit ?_ | refine AWP.scope ?_ | refine AWP.label ?_)
    refine ⟨(_, acc ++ uvarint (zigzag (c.a - p.a)), tag', H'), ?_, ?_, ⟨rfl, rfl, congrArg (fun x => some (AV.int .i64 x)) ei, rfl, trivial⟩, rfl, Heap.le_refl _⟩
    · simp
    · refine ⟨by simp, by simp only [h2]; rfl, q1, q2, by simp only [List.length_append]; omega⟩
  · repeat (first
    | refine AOps.op rfl rfl ?_ | refine AOps.load rfl rfl rfl rfl rfl ?_ | refine AOps.nil ?_ | refine AWP.seq ?_ | refine AWP.region ?_ | refine AWP.block ?_ | refine AWP.skip ?_ | refine AWP.exit ?_ | refine AWP.scope ?_ | refine AWP.label ?_)
    refine AWP.cond rfl (fun h => ?_) (fun h => by simp at h)
    repeat (first
    | refine AOps.op rfl rfl ?_ | refine AOps.load rfl rfl rfl rfl rfl ?_ | refine AOps.nil ?_ | refine AWP.seq ?_ | refine AWP.region ?_ | refine AWP.block ?_ | refine AWP.skip ?_ | refine AWP.exit ?_ | refine AWP.scope ?_ | refine AWP.label ?_)
    have e : IntKind.i64.wrap (c.b - p.b) = c.b - p.b := wrap_i64' (by omega) (by omega)
    refine AOps.call (vs := [.int .i64 (c.b - p.b)]) (congrArg (fun x => some [AV.int .i64 x]) e) rfl rfl ((PutSigned_spec _ (by omega) (by omega) H1).mono ?_)
    rintro _ H2 ⟨t2, rfl, k1, k2⟩
    have hz := uvarint_length64 (zigzag_lt (x := c.b - p.b) (by omega) (by omega))
    have hd : App (hbase H2 t2) 1 acc.length tg := by rw [k2]; exact h3
    refine appB (hbase H2 t2) (hbase_le _ _) rfl rfl rfl rfl rfl hd (by ((try dsimp only); omega)) fun tag' H' q1 q2 => ?_
    rw [k2, h4] at q2
    repeat (first
    | refine AOps.op rfl rfl ?_ | refine AOps.load rfl rfl rfl rfl rfl ?_ | refine AOps.nil ?_ | refine AWP.seq ?_ | refine AWP.region ?_ | refine AWP.block ?_ | refine AWP.skip ?_ | refine AWP.exit ?_ | refine AWP.scope ?_ | refine AWP.label ?_)
    refine ⟨(_, acc ++ uvarint (zigzag (c.b - p.b)), tag', H'), ?_, ?_, ⟨rfl, rfl, congrArg (fun x => some (AV.int .i64 x)) ei, rfl, trivial⟩, rfl, Heap.le_refl _⟩
    · simp
    · refine ⟨by simp, by simp only [h2]; rfl, q1, q2, by simp only [List.length_append]; omega⟩
  · repeat (first
    | refine AOps.op rfl rfl ?_ | refine AOps.load rfl rfl rfl rfl rfl ?_ | refine AOps.nil ?_ | refine AWP.seq ?_ | refine AWP.region ?_ | refine AWP.block ?_ | refine AWP.skip ?_ | refine AWP.exit ?_ | refine AWP.scope ?_ | refine AWP.label ?_)
    refine AWP.cond rfl (fun h => ?_) (fun h => by simp at h)
    repeat (first
    | refine AOps.op rfl rfl ?_ | refine AOps.load rfl rfl rfl rfl rfl ?_ | refine AOps.nil ?_ | refine AWP.seq ?_ | refine AWP.region ?_ | refine AWP.block ?_ | refine AWP.skip ?_ | refine AWP.exit ?_ | refine AWP.scope ?_ | refine AWP.label ?_)
    have e : IntKind.i64.wrap (c.c - p.c) = c.c - p.c := wrap_i64' (by omega) (by omega)
    refine AOps.call (vs := [.int .i64 (c.c - p.c)]) (congrArg (fun x => some [AV.int .i64 x]) e) rfl rfl ((PutSigned_spec _ (by omega) (by omega) H1).mono ?_)
    rintro _ H2 ⟨t2, rfl, k1, k2⟩
    have hz := uvarint_length64 (zigzag_lt (x := c.c - p.c) (by omega) (by omega))
    have hd : App (hbase H2 t2) 1 acc.length tg := by rw [k2]; exact h3
    refine appB (hbase H2 t2) (hbase_le _ _) rfl rfl rfl rfl rfl hd (by ((try dsimp only); omega)) fun tag' H' q1 q2 => ?_
    rw [k2, h4] at q2
    repeat (first
    | refine AOps.op rfl rfl ?_ | refine AOps.load rfl rfl rfl rfl rfl ?_ | refine AOps.nil ?_ | refine AWP.seq ?_ | refine AWP.region ?_ | refine AWP.block ?_ | refine AWP.skip ?_ | refine AWP.exit ?_ | refine AWP.scope ?_ | refine AWP.label ?_)
    refine ⟨(_, acc ++ uvarint (zigzag (c.c - p.c)), tag', H'), ?_, ?_, ⟨rfl, rfl, congrArg (fun x => some (AV.int .i64 x)) ei, rfl, trivial⟩, rfl, Heap.le_refl _⟩
    · simp
    · refine ⟨by simp, by simp only [h2]; rfl, q1, q2, by simp only [List.length_append]; omega⟩
  · repeat (first
    | refine AOps.op rfl rfl ?_ | refine AOps.load rfl rfl rfl rfl rfl ?_ | refine AOps.nil ?_ | refine AWP.seq ?_ | refine AWP.region ?_ | refine AWP.block ?_ | refine AWP.skip ?_ | refine AWP.exit ?_ | refine AWP.scope ?_ | refine AWP.label ?_)
    refine AWP.cond rfl (fun h => by simp at h) (fun h => ?_)
    repeat (first
    | refine AOps.op rfl rfl ?_ | refine AOps.load rfl rfl rfl rfl rfl ?_ | refine AOps.nil ?_ | refine AWP.seq ?_ | refine AWP.region ?_ | refine AWP.block ?_ | refine AWP.skip ?_ | refine AWP.exit ?_ | refine AWP.scope ?_ | refine AWP.label ?_)
    refine AWP.ret ?_
    refine ⟨_, _, rfl, rfl, Heap.le_refl _, _, rfl, tg, ?_, ?_, h4⟩
    · rw [h2]; simp [cpre, cput]
    · rw [h2] at h3; simpa [cpre, cput] using h3
end Go.Proofs.Ytlbnhokhhangdaa

/- The package clock: read. -/
namespace Go.Proofs.Ytlbnhokhhangdaa
open Go Go.Am Go.Pk Go.Lib
set_option linter.unusedVariables false
set_option maxRecDepth 10000
attribute [local irreducible] AOps AWP DRun ACalls

def cInv (p : Clk) (b : Str) : Nat → Clk → Nat → Prop
  | 0, c, u => c = p ∧ u = 0
  | 1, c, u => (ctake1 p.a b).2.2 = 0 ∧ c = ⟨(ctake1 p.a b).1, p.b, p.c⟩ ∧ u = (ctake1 p.a b).2.1
  | 2, c, u => (ctake1 p.a b).2.2 = 0 ∧ (ctake1 p.b (b.drop (ctake1 p.a b).2.1)).2.2 = 0 ∧ c = ⟨(ctake1 p.a b).1, (ctake1 p.b (b.drop (ctake1 p.a b).2.1)).1, p.c⟩ ∧
      u = (ctake1 p.a b).2.1 + (ctake1 p.b (b.drop (ctake1 p.a b).2.1)).2.1
  | _, c, u => ctake p b = (c, u, 0)

def cn (p : Clk) : Nat → Int
  | 0 => p.a
  | 1 => p.b
  | _ => p.c

def cset (c : Clk) (i : Nat) (n : Int) : Clk :=
  match i with
  | 0 => { c with a := n }
  | 1 => { c with b := n }
  | _ => { c with c := n }

theorem cInv_step {p : Clk} {b : Str} (hp : p.ok = true) {i : Nat} (hi : i < 3) {c : Clk} {u : Nat} (h : cInv p b i c u) (he : (ctake1 (cn p i) (b.drop u)).2.2 = 0) :
    cInv p b (i + 1) (cset c i (ctake1 (cn p i) (b.drop u)).1) (u + (ctake1 (cn p i) (b.drop u)).2.1) := by
  rcases (by omega : i = 0 ∨ i = 1 ∨ i = 2) with rfl | rfl | rfl
  · obtain ⟨rfl, rfl⟩ := h
    exact ⟨he, rfl, by simp [cn]⟩
  · obtain ⟨h1, rfl, rfl⟩ := h
    exact ⟨h1, he, rfl, rfl⟩
  · obtain ⟨h1, h2, rfl, rfl⟩ := h
    simp only [cn] at he
    show ctake p b = _
    simp [ctake, hp, h1, h2, he, cn, cset]

theorem cInv_err {p : Clk} {b : Str} (hp : p.ok = true) {i : Nat} (hi : i < 3) {c : Clk} {u : Nat} (h : cInv p b i c u) (he : (ctake1 (cn p i) (b.drop u)).2.2 ≠ 0) :
    ctake p b = (Clk.zero, 0, (ctake1 (cn p i) (b.drop u)).2.2) := by
  rcases (by omega : i = 0 ∨ i = 1 ∨ i = 2) with rfl | rfl | rfl
  · obtain ⟨rfl, rfl⟩ := h
    simp only [cn, List.drop_zero] at he
    simp [ctake, hp, he, cn]
  · obtain ⟨h1, rfl, rfl⟩ := h
    simp only [cn] at he
    simp [ctake, hp, h1, he, cn]
  · obtain ⟨h1, h2, rfl, rfl⟩ := h
    simp only [cn] at he
    simp [ctake, hp, h1, h2, he, cn]

theorem zag_range {u : Nat} (h : u < 2 ^ 64) : -9223372036854775808 ≤ zag u ∧ zag u ≤ 9223372036854775807 := by
  unfold zag; split <;> omega

attribute [local irreducible] vtake zag IntKind.wrap bits zigzag

set_option maxHeartbeats 4000000 in
theorem cTake_spec (p : Clk) (b : Str) (tag : Tag) (hp : p.ok = true) (hb : b.length < 2 ^ 40) (H : Heap) :
    ACalls Q.prog 51 [ck p, .sl (encB b) tag] H fun r H' => r = .tuple [ck (ctake p b).1, .int .i64 (ctake p b).2.1, .int .i64 (ctake p b).2.2] ∧ H' = H := by
  obtain ⟨p1, p2, p3⟩ := (ok_iff p).1 hp
  refine ACalls.body (N := 60) Try.func51 rfl rfl rfl rfl ?_
  repeat (first | refine AOps.op rfl rfl ?_ | refine AOps.load rfl rfl rfl rfl rfl ?_)
  refine AWP.seq (AWP.region ?_)
  refine AOps.boxL 0 rfl rfl rfl rfl rfl ?_
  refine AOps.allocL 1 rfl rfl rfl rfl ?_
  repeat (first
    | refine AOps.op rfl rfl ?_ | refine AOps.load rfl rfl rfl rfl rfl ?_ | refine AOps.nil ?_ | refine AWP.seq ?_ | refine AWP.region ?_ | refine AWP.block ?_ | refine AWP.skip ?_ | refine AWP.exit ?_ | refine AWP.scope ?_ | refine AWP.label ?_)
  refine AOps.call rfl rfl rfl ((Right_spec p H).mono ?_)
  rintro _ H ⟨rfl, rfl⟩
  rw [hp]
  repeat (first
    | refine AOps.op rfl rfl ?_ | refine AOps.load rfl rfl rfl rfl rfl ?_ | refine AOps.nil ?_ | refine AWP.seq ?_ | refine AWP.region ?_ | refine AWP.block ?_ | refine AWP.skip ?_ | refine AWP.exit ?_ | refine AWP.scope ?_ | refine AWP.label ?_)
  refine AWP.cond rfl (fun h => by simp at h) (fun _ => ?_)
  repeat (first
    | refine AOps.op rfl rfl ?_ | refine AOps.load rfl rfl rfl rfl rfl ?_ | refine AOps.nil ?_ | refine AWP.seq ?_ | refine AWP.region ?_ | refine AWP.block ?_ | refine AWP.skip ?_ | refine AWP.exit ?_ | refine AWP.scope ?_ | refine AWP.label ?_)
  refine AOps.allocL 2 rfl rfl rfl rfl ?_
  refine AOps.storeL rfl rfl rfl rfl ?_
  repeat (first
    | refine AOps.op rfl rfl ?_ | refine AOps.load rfl rfl rfl rfl rfl ?_ | refine AOps.nil ?_ | refine AWP.seq ?_ | refine AWP.region ?_ | refine AWP.block ?_ | refine AWP.skip ?_ | refine AWP.exit ?_ | refine AWP.scope ?_ | refine AWP.label ?_)
  refine AWP.loopA (α := Nat × Clk × Nat) (fun a => a.1 ≤ 3 ∧ cInv p b a.1 a.2.1 a.2.2 ∧ a.2.2 ≤ b.length) (fun a => 3 - a.1)
    (fun a => [(1, .sl (encB b) tag), (4, .lptr 1 0), (7, .lptr 2 0), (8, .int .i64 a.2.2), (19, ck p), (20, .int .i64 a.1)]) (fun a => [(ck p).cells, (ck Clk.zero).cells, (ck a.2.1).cells]) (fun _ => H) (0, p, 0)
    ⟨by simp, ⟨rfl, rfl⟩, by simp⟩ ⟨rfl, rfl, rfl, rfl, rfl, rfl, trivial⟩ rfl (Heap.le_refl _) ?_
  rintro ⟨i, c, u⟩ ⟨h1, h2, h3⟩
  simp only at h1 h2 h3
  have ei : IntKind.i64.wrap ((i : Int) + 1) = ((i + 1 : Nat) : Int) := wrap_i64 (n := i + 1) (by omega)
  have hz := zag_range (vtake_le (b.drop u)).2.2.1
  have hle := (vtake_le (b.drop u)).1
  rw [List.length_drop] at hle
  have eu : IntKind.i64.wrap ((u : Int) + ((vtake (b.drop u)).2.1 : Nat)) = ((u + (vtake (b.drop u)).2.1 : Nat) : Int) := wrap_i64 (n := u + (vtake (b.drop u)).2.1) (by omega)
  rcases (by omega : i = 0 ∨ i = 1 ∨ i = 2 ∨ i = 3) with rfl | rfl | rfl | rfl
  · repeat (first
    | refine AOps.op rfl rfl ?_ | refine AOps.load rfl rfl rfl rfl rfl ?_ | refine AOps.nil ?_ | refine AWP.seq ?_ | refine AWP.region ?_ | refine AWP.block ?_ | refine AWP.skip ?_ | refine AWP.exit ?_ | refine AWP.scope ?_ | refine AWP.label ?_)
    refine AWP.cond rfl (fun h => ?_) (fun h => by simp at h)
    repeat (first
    | refine AOps.op rfl rfl ?_ | refine AOps.load rfl rfl rfl rfl rfl ?_ | refine AOps.nil ?_ | refine AWP.seq ?_ | refine AWP.region ?_ | refine AWP.block ?_ | refine AWP.skip ?_ | refine AWP.exit ?_ | refine AWP.scope ?_ | refine AWP.label ?_)
    refine AOps.step rfl rfl (cutFrom u rfl rfl h3 ?_)
    refine AOps.call rfl rfl rfl ((TakeSigned_spec (b.drop u) .no H (by rw [List.length_drop]; omega)).mono ?_)
    rintro _ H ⟨rfl, rfl⟩
    repeat (first
    | refine AOps.op rfl rfl ?_ | refine AOps.load rfl rfl rfl rfl rfl ?_ | refine AOps.nil ?_ | refine AWP.seq ?_ | refine AWP.region ?_ | refine AWP.block ?_ | refine AWP.skip ?_ | refine AWP.exit ?_ | refine AWP.scope ?_ | refine AWP.label ?_)
    refine AWP.cond rfl (fun h => ?_) (fun h => ?_)
    · have he : (vtake (b.drop u)).2.2 ≠ 0 := by simp at h; omega
      repeat (first
    | refine AOps.op rfl rfl ?_ | refine AOps.load rfl rfl rfl rfl rfl ?_ | refine AOps.nil ?_ | refine AWP.seq ?_ | refine AWP.region ?_ | refine AWP.block ?_ | refine AWP.skip ?_ | refine AWP.exit ?_ | refine AWP.scope ?_ | refine AWP.label ?_)
      refine AOps.storeL rfl rfl rfl rfl ?_
      repeat (first
    | refine AOps.op rfl rfl ?_ | refine AOps.load rfl rfl rfl rfl rfl ?_ | refine AOps.nil ?_ | refine AWP.seq ?_ | refine AWP.region ?_ | refine AWP.block ?_ | refine AWP.skip ?_ | refine AWP.exit ?_ | refine AWP.scope ?_ | refine AWP.label ?_)
      refine AWP.ret ?_
      refine ⟨_, _, rfl, rfl, Heap.le_refl _, ?_, rfl⟩
      have e3 : ctake1 p.a (b.drop u) = (0, 0, (vtake (b.drop u)).2.2) := by simp only [ctake1]; rw [if_pos he]
      rw [cInv_err hp (by omega) h2 (by show (ctake1 p.a (b.drop u)).2.2 ≠ 0; rw [e3]; exact he)]
      show _ = AV.tuple [ck Clk.zero, .int .i64 ((0 : Nat) : Int), .int .i64 ((ctake1 p.a (b.drop u)).2.2 : Nat)]
      rw [e3]; rfl
    · have he : (vtake (b.drop u)).2.2 = 0 := by simp at h; omega
      have en : IntKind.i64.wrap (0 - p.a) = -p.a := by rw [wrap_i64' (by omega) (by omega)]; omega
      have et : IntKind.i64.wrap (4611686018427387903 - p.a) = 4611686018427387903 - p.a := wrap_i64' (by omega) (by omega)
      repeat (first
    | refine AOps.op rfl rfl ?_ | refine AOps.load rfl rfl rfl rfl rfl ?_ | refine AOps.nil ?_ | refine AWP.seq ?_ | refine AWP.region ?_ | refine AWP.block ?_ | refine AWP.skip ?_ | refine AWP.exit ?_ | refine AWP.scope ?_ | refine AWP.label ?_)
      refine AOps.or (j := 4) (y := decide (zag (vtake (b.drop u)).1 > IntKind.i64.wrap (4611686018427387903 - p.a))) [_, _, _, _] rfl rfl rfl rfl rfl rfl rfl (fun hb => ?_) ?_
      · repeat (first | refine AOps.unguard rfl rfl (by assumption) ?_ | refine AOps.op rfl rfl ?_ | refine AOps.load rfl rfl rfl rfl rfl ?_)
        exact AOps.nil (GuardEnd.of 4 rfl rfl rfl rfl rfl)
      repeat (first
    | refine AOps.op rfl rfl ?_ | refine AOps.load rfl rfl rfl rfl rfl ?_ | refine AOps.nil ?_ | refine AWP.seq ?_ | refine AWP.region ?_ | refine AWP.block ?_ | refine AWP.skip ?_ | refine AWP.exit ?_ | refine AWP.scope ?_ | refine AWP.label ?_)
      refine AWP.cond rfl (fun h => ?_) (fun h => ?_)
      · have hg : zag (vtake (b.drop u)).1 < -p.a ∨ zag (vtake (b.drop u)).1 > top - p.a := by
          simp only [en, et] at h; simp at h; unfold top; omega
        repeat (first
    | refine AOps.op rfl rfl ?_ | refine AOps.load rfl rfl rfl rfl rfl ?_ | refine AOps.nil ?_ | refine AWP.seq ?_ | refine AWP.region ?_ | refine AWP.block ?_ | refine AWP.skip ?_ | refine AWP.exit ?_ | refine AWP.scope ?_ | refine AWP.label ?_)
        refine AOps.storeL rfl rfl rfl rfl ?_
        repeat (first
    | refine AOps.op rfl rfl ?_ | refine AOps.load rfl rfl rfl rfl rfl ?_ | refine AOps.nil ?_ | refine AWP.seq ?_ | refine AWP.region ?_ | refine AWP.block ?_ | refine AWP.skip ?_ | refine AWP.exit ?_ | refine AWP.scope ?_ | refine AWP.label ?_)
        refine AWP.ret ?_
        refine ⟨_, _, rfl, rfl, Heap.le_refl _, ?_, rfl⟩
        have e3 : ctake1 p.a (b.drop u) = (0, 0, 3) := by simp only [ctake1]; rw [if_neg (by simp [he]), if_pos hg]
        rw [cInv_err hp (by omega) h2 (by show (ctake1 p.a (b.drop u)).2.2 ≠ 0; rw [e3]; decide)]
        show _ = AV.tuple [ck Clk.zero, .int .i64 ((0 : Nat) : Int), .int .i64 ((ctake1 p.a (b.drop u)).2.2 : Nat)]
        rw [e3]; rfl
      · have hg : ¬ (zag (vtake (b.drop u)).1 < -p.a ∨ zag (vtake (b.drop u)).1 > top - p.a) := by
          simp only [en, et] at h; simp at h; unfold top; omega
        have e3 : ctake1 p.a (b.drop u) = (p.a + zag (vtake (b.drop u)).1, (vtake (b.drop u)).2.1, 0) := by simp only [ctake1]; rw [if_neg (by simp [he]), if_neg hg]
        have es : IntKind.i64.wrap (p.a + zag (vtake (b.drop u)).1) = p.a + zag (vtake (b.drop u)).1 := by unfold top at hg; exact wrap_i64' (by omega) (by omega)
        repeat (first
    | refine AOps.op rfl rfl ?_ | refine AOps.load rfl rfl rfl rfl rfl ?_ | refine AOps.nil ?_ | refine AWP.seq ?_ | refine AWP.region ?_ | refine AWP.block ?_ | refine AWP.skip ?_ | refine AWP.exit ?_ | refine AWP.scope ?_ | refine AWP.label ?_)
        refine AOps.storeL rfl rfl rfl rfl ?_
        repeat (first
    | refine AOps.op rfl rfl ?_ | refine AOps.load rfl rfl rfl rfl rfl ?_ | refine AOps.nil ?_ | refine AWP.seq ?_ | refine AWP.region ?_ | refine AWP.block ?_ | refine AWP.skip ?_ | refine AWP.exit ?_ | refine AWP.scope ?_ | refine AWP.label ?_)
        refine ⟨(_, cset c 0 (p.a + zag (vtake (b.drop u)).1), u + (vtake (b.drop u)).2.1), ?_, ?_, ⟨rfl, rfl, rfl, congrArg (fun x => some (AV.int .i64 x)) eu, rfl, congrArg (fun x => some (AV.int .i64 x)) ei, trivial⟩, ?_, Heap.le_refl _⟩
        · simp
        · have := cInv_step hp (by omega) h2 (by show (ctake1 p.a (b.drop u)).2.2 = 0; rw [e3])
          simp only [cn, e3] at this
          exact ⟨by simp, this, by ((try dsimp only); omega)⟩
        · rw [es]; rfl
  · repeat (first
    | refine AOps.op rfl rfl ?_ | refine AOps.load rfl rfl rfl rfl rfl ?_ | refine AOps.nil ?_ | refine AWP.seq ?_ | refine AWP.region ?_ | refine AWP.block ?_ | refine AWP.skip ?_ | refine AWP.exit ?_ | refine AWP.scope ?_ | refine AWP.label ?_)
    refine AWP.cond rfl (fun h => ?_) (fun h => by simp at h)
    repeat (first
    | refine AOps.op rfl rfl ?_ | refine AOps.load rfl rfl rfl rfl rfl ?_ | refine AOps.nil ?_ | refine AWP.seq ?_ | refine AWP.region ?_ | refine AWP.block ?_ | refine AWP.skip ?_ | refine AWP.exit ?_ | refine AWP.scope ?_ | refine AWP.label ?_)
    refine AOps.step rfl rfl (cutFrom u rfl rfl h3 ?_)
    refine AOps.call rfl rfl rfl ((TakeSigned_spec (b.drop u) .no H (by rw [List.length_drop]; omega)).mono ?_)
    rintro _ H ⟨rfl, rfl⟩
    repeat (first
    | refine AOps.op rfl rfl ?_ | refine AOps.load rfl rfl rfl rfl rfl ?_ | refine AOps.nil ?_ | refine AWP.seq ?_ | refine AWP.region ?_ | refine AWP.block ?_ | refine AWP.skip ?_ | refine AWP.exit ?_ | refine AWP.scope ?_ | refine AWP.label ?_)
    refine AWP.cond rfl (fun h => ?_) (fun h => ?_)
    · have he : (vtake (b.drop u)).2.2 ≠ 0 := by simp at h; omega
      repeat (first
    | refine AOps.op rfl rfl ?_ | refine AOps.load rfl rfl rfl rfl rfl ?_ | refine AOps.nil ?_ | refine AWP.seq ?_ | refine AWP.region ?_ | refine AWP.block ?_ | refine AWP.skip ?_ | refine AWP.exit ?_ | refine AWP.scope ?_ | refine AWP.label ?_)
      refine AOps.storeL rfl rfl rfl rfl ?_
      repeat (first
    | refine AOps.op rfl rfl ?_ | refine AOps.load rfl rfl rfl rfl rfl ?_ | refine AOps.nil ?_ | refine AWP.seq ?_ | refine AWP.region ?_ | refine AWP.block ?_ | refine AWP.skip ?_ | refine AWP.exit ?_ | refine AWP.scope ?_ | refine AWP.label ?_)
      refine AWP.ret ?_
      refine ⟨_, _, rfl, rfl, Heap.le_refl _, ?_, rfl⟩
      have e3 : ctake1 p.b (b.drop u) = (0, 0, (vtake (b.drop u)).2.2) := by simp only [ctake1]; rw [if_pos he]
      rw [cInv_err hp (by omega) h2 (by show (ctake1 p.b (b.drop u)).2.2 ≠ 0; rw [e3]; exact he)]
      show _ = AV.tuple [ck Clk.zero, .int .i64 ((0 : Nat) : Int), .int .i64 ((ctake1 p.b (b.drop u)).2.2 : Nat)]
      rw [e3]; rfl
    · have he : (vtake (b.drop u)).2.2 = 0 := by simp at h; omega
      have en : IntKind.i64.wrap (0 - p.b) = -p.b := by rw [wrap_i64' (by omega) (by omega)]; omega
      have et : IntKind.i64.wrap (4611686018427387903 - p.b) = 4611686018427387903 - p.b := wrap_i64' (by omega) (by omega)
      repeat (first
    | refine AOps.op rfl rfl ?_ | refine AOps.load rfl rfl rfl rfl rfl ?_ | refine AOps.nil ?_ | refine AWP.seq ?_ | refine AWP.region ?_ | refine AWP.block ?_ | refine AWP.skip ?_ | refine AWP.exit ?_ | refine AWP.scope ?_ | refine AWP.label ?_)
      refine AOps.or (j := 4) (y := decide (zag (vtake (b.drop u)).1 > IntKind.i64.wrap (4611686018427387903 - p.b))) [_, _, _, _] rfl rfl rfl rfl rfl rfl rfl (fun hb => ?_) ?_
      · repeat (first | refine AOps.unguard rfl rfl (by assumption) ?_ | refine AOps.op rfl rfl ?_ | refine AOps.load rfl rfl rfl rfl rfl ?_)
        exact AOps.nil (GuardEnd.of 4 rfl rfl rfl rfl rfl)
      repeat (first
    | refine AOps.op rfl rfl ?_ | refine AOps.load rfl rfl rfl rfl rfl ?_ | refine AOps.nil ?_ | refine AWP.seq ?_ | refine AWP.region ?_ | refine AWP.block ?_ | refine AWP.skip ?_ | refine AWP.exit ?_ | refine AWP.scope ?_ | refine AWP.label ?_)
      refine AWP.cond rfl (fun h => ?_) (fun h => ?_)
      · have hg : zag (vtake (b.drop u)).1 < -p.b ∨ zag (vtake (b.drop u)).1 > top - p.b := by
          simp only [en, et] at h; simp at h; unfold top; omega
        repeat (first
    | refine AOps.op rfl rfl ?_ | refine AOps.load rfl rfl rfl rfl rfl ?_ | refine AOps.nil ?_ | refine AWP.seq ?_ | refine AWP.region ?_ | refine AWP.block ?_ | refine AWP.skip ?_ | refine AWP.exit ?_ | refine AWP.scope ?_ | refine AWP.label ?_)
        refine AOps.storeL rfl rfl rfl rfl ?_
        repeat (first
    | refine AOps.op rfl rfl ?_ | refine AOps.load rfl rfl rfl rfl rfl ?_ | refine AOps.nil ?_ | refine AWP.seq ?_ | refine AWP.region ?_ | refine AWP.block ?_ | refine AWP.skip ?_ | refine AWP.exit ?_ | refine AWP.scope ?_ | refine AWP.label ?_)
        refine AWP.ret ?_
        refine ⟨_, _, rfl, rfl, Heap.le_refl _, ?_, rfl⟩
        have e3 : ctake1 p.b (b.drop u) = (0, 0, 3) := by simp only [ctake1]; rw [if_neg (by simp [he]), if_pos hg]
        rw [cInv_err hp (by omega) h2 (by show (ctake1 p.b (b.drop u)).2.2 ≠ 0; rw [e3]; decide)]
        show _ = AV.tuple [ck Clk.zero, .int .i64 ((0 : Nat) : Int), .int .i64 ((ctake1 p.b (b.drop u)).2.2 : Nat)]
        rw [e3]; rfl
      · have hg : ¬ (zag (vtake (b.drop u)).1 < -p.b ∨ zag (vtake (b.drop u)).1 > top - p.b) := by
          simp only [en, et] at h; simp at h; unfold top; omega
        have e3 : ctake1 p.b (b.drop u) = (p.b + zag (vtake (b.drop u)).1, (vtake (b.drop u)).2.1, 0) := by simp only [ctake1]; rw [if_neg (by simp [he]), if_neg hg]
        have es : IntKind.i64.wrap (p.b + zag (vtake (b.drop u)).1) = p.b + zag (vtake (b.drop u)).1 := by unfold top at hg; exact wrap_i64' (by omega) (by omega)
        repeat (first
    | refine AOps.op rfl rfl ?_ | refine AOps.load rfl rfl rfl rfl rfl ?_ | refine AOps.nil ?_ | refine AWP.seq ?_ | refine AWP.region ?_ | refine AWP.block ?_ | refine AWP.skip ?_ | refine AWP.exit ?_ | refine AWP.scope ?_ | refine AWP.label ?_)
        refine AOps.storeL rfl rfl rfl rfl ?_
        repeat (first
    | refine AOps.op rfl rfl ?_ | refine AOps.load rfl rfl rfl rfl rfl ?_ | refine AOps.nil ?_ | refine AWP.seq ?_ | refine AWP.region ?_ | refine AWP.block ?_ | refine AWP.skip ?_ | refine AWP.exit ?_ | refine AWP.scope ?_ | refine AWP.label ?_)
        refine ⟨(_, cset c 1 (p.b + zag (vtake (b.drop u)).1), u + (vtake (b.drop u)).2.1), ?_, ?_, ⟨rfl, rfl, rfl, congrArg (fun x => some (AV.int .i64 x)) eu, rfl, congrArg (fun x => some (AV.int .i64 x)) ei, trivial⟩, ?_, Heap.le_refl _⟩
        · simp
        · have := cInv_step hp (by omega) h2 (by show (ctake1 p.b (b.drop u)).2.2 = 0; rw [e3])
          simp only [cn, e3] at this
          exact ⟨by simp, this, by ((try dsimp only); omega)⟩
        · rw [es]; rfl
  · repeat (first
    | refine AOps.op rfl rfl ?_ | refine AOps.load rfl rfl rfl rfl rfl ?_ | refine AOps.nil ?_ | refine AWP.seq ?_ | refine AWP.region ?_ | refine AWP.block ?_ | refine AWP.skip ?_ | refine AWP.exit ?_ | refine AWP.scope ?_ | refine AWP.label ?_)
    refine AWP.cond rfl (fun h => ?_) (fun h => by simp at h)
    repeat (first
    | refine AOps.op rfl rfl ?_ | refine AOps.load rfl rfl rfl rfl rfl ?_ | refine AOps.nil ?_ | refine AWP.seq ?_ | refine AWP.region ?_ | refine AWP.block ?_ | refine AWP.skip ?_ | refine AWP.exit ?_ | refine AWP.scope ?_ | refine AWP.label ?_)
    refine AOps.step rfl rfl (cutFrom u rfl rfl h3 ?_)
    refine AOps.call rfl rfl rfl ((TakeSigned_spec (b.drop u) .no H (by rw [List.length_drop]; omega)).mono ?_)
    rintro _ H ⟨rfl, rfl⟩
    repeat (first
    | refine AOps.op rfl rfl ?_ | refine AOps.load rfl rfl rfl rfl rfl ?_ | refine AOps.nil ?_ | refine AWP.seq ?_ | refine AWP.region ?_ | refine AWP.block ?_ | refine AWP.skip ?_ | refine AWP.exit ?_ | refine AWP.scope ?_ | refine AWP.label ?_)
    refine AWP.cond rfl (fun h => ?_) (fun h => ?_)
    · have he : (vtake (b.drop u)).2.2 ≠ 0 := by simp at h; omega
      repeat (first
    | refine AOps.op rfl rfl ?_ | refine AOps.load rfl rfl rfl rfl rfl ?_ | refine AOps.nil ?_ | refine AWP.seq ?_ | refine AWP.region ?_ | refine AWP.block ?_ | refine AWP.skip ?_ | refine AWP.exit ?_ | refine AWP.scope ?_ | refine AWP.label ?_)
      refine AOps.storeL rfl rfl rfl rfl ?_
      repeat (first
    | refine AOps.op rfl rfl ?_ | refine AOps.load rfl rfl rfl rfl rfl ?_ | refine AOps.nil ?_ | refine AWP.seq ?_ | refine AWP.region ?_ | refine AWP.block ?_ | refine AWP.skip ?_ | refine AWP.exit ?_ | refine AWP.scope ?_ | refine AWP.label ?_)
      refine AWP.ret ?_
      refine ⟨_, _, rfl, rfl, Heap.le_refl _, ?_, rfl⟩
      have e3 : ctake1 p.c (b.drop u) = (0, 0, (vtake (b.drop u)).2.2) := by simp only [ctake1]; rw [if_pos he]
      rw [cInv_err hp (by omega) h2 (by show (ctake1 p.c (b.drop u)).2.2 ≠ 0; rw [e3]; exact he)]
      show _ = AV.tuple [ck Clk.zero, .int .i64 ((0 : Nat) : Int), .int .i64 ((ctake1 p.c (b.drop u)).2.2 : Nat)]
      rw [e3]; rfl
    · have he : (vtake (b.drop u)).2.2 = 0 := by simp at h; omega
      have en : IntKind.i64.wrap (0 - p.c) = -p.c := by rw [wrap_i64' (by omega) (by omega)]; omega
      have et : IntKind.i64.wrap (4611686018427387903 - p.c) = 4611686018427387903 - p.c := wrap_i64' (by omega) (by omega)
      repeat (first
    | refine AOps.op rfl rfl ?_ | refine AOps.load rfl rfl rfl rfl rfl ?_ | refine AOps.nil ?_ | refine AWP.seq ?_ | refine AWP.region ?_ | refine AWP.block ?_ | refine AWP.skip ?_ | refine AWP.exit ?_ | refine AWP.scope ?_ | refine AWP.label ?_)
      refine AOps.or (j := 4) (y := decide (zag (vtake (b.drop u)).1 > IntKind.i64.wrap (4611686018427387903 - p.c))) [_, _, _, _] rfl rfl rfl rfl rfl rfl rfl (fun hb => ?_) ?_
      · repeat (first | refine AOps.unguard rfl rfl (by assumption) ?_ | refine AOps.op rfl rfl ?_ | refine AOps.load rfl rfl rfl rfl rfl ?_)
        exact AOps.nil (GuardEnd.of 4 rfl rfl rfl rfl rfl)
      repeat (first
    | refine AOps.op rfl rfl ?_ | refine AOps.load rfl rfl rfl rfl rfl ?_ | refine AOps.nil ?_ | refine AWP.seq ?_ | refine AWP.region ?_ | refine AWP.block ?_ | refine AWP.skip ?_ | refine AWP.exit ?_ | refine AWP.scope ?_ | refine AWP.label ?_)
      refine AWP.cond rfl (fun h => ?_) (fun h => ?_)
      · have hg : zag (vtake (b.drop u)).1 < -p.c ∨ zag (vtake (b.drop u)).1 > top - p.c := by
          simp only [en, et] at h; simp at h; unfold top; omega
        repeat (first
    | refine AOps.op rfl rfl ?_ | refine AOps.load rfl rfl rfl rfl rfl ?_ | refine AOps.nil ?_ | refine AWP.seq ?_ | refine AWP.region ?_ | refine AWP.block ?_ | refine AWP.skip ?_ | refine AWP.exit ?_ | refine AWP.scope ?_ | refine AWP.label ?_)
        refine AOps.storeL rfl rfl rfl rfl ?_
        repeat (first
    | refine AOps.op rfl rfl ?_ | refine AOps.load rfl rfl rfl rfl rfl ?_ | refine AOps.nil ?_ | refine AWP.seq ?_ | refine AWP.region ?_ | refine AWP.block ?_ | refine AWP.skip ?_ | refine AWP.exit ?_ | refine AWP.scope ?_ | refine AWP.label ?_)
        refine AWP.ret ?_
        refine ⟨_, _, rfl, rfl, Heap.le_refl _, ?_, rfl⟩
        have e3 : ctake1 p.c (b.drop u) = (0, 0, 3) := by simp only [ctake1]; rw [if_neg (by simp [he]), if_pos hg]
        rw [cInv_err hp (by omega) h2 (by show (ctake1 p.c (b.drop u)).2.2 ≠ 0; rw [e3]; decide)]
        show _ = AV.tuple [ck Clk.zero, .int .i64 ((0 : Nat) : Int), .int .i64 ((ctake1 p.c (b.drop u)).2.2 : Nat)]
        rw [e3]; rfl
      · have hg : ¬ (zag (vtake (b.drop u)).1 < -p.c ∨ zag (vtake (b.drop u)).1 > top - p.c) := by
          simp only [en, et] at h; simp at h; unfold top; omega
        have e3 : ctake1 p.c (b.drop u) = (p.c + zag (vtake (b.drop u)).1, (vtake (b.drop u)).2.1, 0) := by simp only [ctake1]; rw [if_neg (by simp [he]), if_neg hg]
        have es : IntKind.i64.wrap (p.c + zag (vtake (b.drop u)).1) = p.c + zag (vtake (b.drop u)).1 := by unfold top at hg; exact wrap_i64' (by omega) (by omega)
        repeat (first
    | refine AOps.op rfl rfl ?_ | refine AOps.load rfl rfl rfl rfl rfl ?_ | refine AOps.nil ?_ | refine AWP.seq ?_ | refine AWP.region ?_ | refine AWP.block ?_ | refine AWP.skip ?_ | refine AWP.exit ?_ | refine AWP.scope ?_ | refine AWP.label ?_)
        refine AOps.storeL rfl rfl rfl rfl ?_
        repeat (first
    | refine AOps.op rfl rfl ?_ | refine AOps.load rfl rfl rfl rfl rfl ?_ | refine AOps.nil ?_ | refine AWP.seq ?_ | refine AWP.region ?_ | refine AWP.block ?_ | refine AWP.skip ?_ | refine AWP.exit ?_ | refine AWP.scope ?_ | refine AWP.label ?_)
        refine ⟨(_, cset c 2 (p.c + zag (vtake (b.drop u)).1), u + (vtake (b.drop u)).2.1), ?_, ?_, ⟨rfl, rfl, rfl, congrArg (fun x => some (AV.int .i64 x)) eu, rfl, congrArg (fun x => some (AV.int .i64 x)) ei, trivial⟩, ?_, Heap.le_refl _⟩
        · simp
        · have := cInv_step hp (by omega) h2 (by show (ctake1 p.c (b.drop u)).2.2 = 0; rw [e3])
          simp only [cn, e3] at this
          exact ⟨by simp, this, by ((try dsimp only); omega)⟩
        · rw [es]; rfl
  · repeat (first
    | refine AOps.op rfl rfl ?_ | refine AOps.load rfl rfl rfl rfl rfl ?_ | refine AOps.nil ?_ | refine AWP.seq ?_ | refine AWP.region ?_ | refine AWP.block ?_ | refine AWP.skip ?_ | refine AWP.exit ?_ | refine AWP.scope ?_ | refine AWP.label ?_)
    refine AWP.cond rfl (fun h => by simp at h) (fun h => ?_)
    repeat (first
    | refine AOps.op rfl rfl ?_ | refine AOps.load rfl rfl rfl rfl rfl ?_ | refine AOps.nil ?_ | refine AWP.seq ?_ | refine AWP.region ?_ | refine AWP.block ?_ | refine AWP.skip ?_ | refine AWP.exit ?_ | refine AWP.scope ?_ | refine AWP.label ?_)
    refine AOps.storeL rfl rfl rfl rfl ?_
    repeat (first
    | refine AOps.op rfl rfl ?_ | refine AOps.load rfl rfl rfl rfl rfl ?_ | refine AOps.nil ?_ | refine AWP.seq ?_ | refine AWP.region ?_ | refine AWP.block ?_ | refine AWP.skip ?_ | refine AWP.exit ?_ | refine AWP.scope ?_ | refine AWP.label ?_)
    refine AWP.ret ?_
    refine ⟨_, _, rfl, rfl, Heap.le_refl _, ?_, rfl⟩
    have : ctake p b = (c, u, 0) := h2
    rw [this]; rfl
end Go.Proofs.Ytlbnhokhhangdaa

/- The package dict: how a dictionary lies in memory; a key's place. -/
namespace Go.Proofs.Ytlbnhokhhangdaa
open Go Go.Am Go.Pk Go.Lib
set_option linter.unusedVariables false
set_option maxRecDepth 10000
attribute [local irreducible] AOps AWP DRun ACalls

def mEnt (l : List (Str × Nat × Nat)) : Ents := l.map fun e => (.str e.1, .int .i64 (e.2.1 : Nat), e.2.2)

def MapIs (l : List (Str × Nat × Nat)) (keys : List Str) (clock : Nat) : Prop :=
  (l.map (·.1)).Nodup ∧ (∀ e ∈ l, e.2.2 < clock) ∧ (l.map (·.2.2)).Nodup ∧ ∀ k i, (∃ b, (k, i, b) ∈ l) ↔ keys[i]? = some k

def KS (H : Heap) (ks : List Str) (v : AV) : Prop := (ks = [] ∧ v = .sl [] .full) ∨ ∃ g, v = .msl g ks.length 1 ∧ H g = some (.box (ks.map .str))

def DictAt (H : Heap) (d : Nat) (D : Dic) : Prop :=
  D.ok ∧ ∃ m ks l clock, H d = some (.box [ks, .map m, .int .i64 (D.eldest : Nat)]) ∧ H m = some (.map (mEnt l) clock) ∧ MapIs l D.keys clock ∧ KS H D.keys ks

theorem mfind_mEnt (k : Str) : ∀ (l : List (Str × Nat × Nat)) (i : Nat), mfind (.str k) (mEnt l) i = some ((l.findIdx? fun e => k == e.1).map (· + i))
  | [], i => rfl
  | e :: l, i => by
    simp only [mEnt, List.map_cons, mfind, keyEq, List.findIdx?_cons]
    cases h : (k == e.1) with
    | true => simp
    | false =>
      have := mfind_mEnt k l (i + 1)
      simp only [mEnt] at this
      simp only [this]
      cases l.findIdx? fun e => k == e.1 with
      | none => simp
      | some j => simp; omega

theorem MapIs.find {l : List (Str × Nat × Nat)} {D : Dic} {clock : Nat} (hd : D.ok) (h : MapIs l D.keys clock) (k : Str) :
    (∃ j e, (l.findIdx? fun e => k == e.1) = some j ∧ l[j]? = some e ∧ e.1 = k ∧ D.at k = some e.2.1) ∨ ((l.findIdx? fun e => k == e.1) = none ∧ D.at k = none ∧ ∀ e ∈ l, e.1 ≠ k) := by
  cases e : (l.findIdx? fun e => k == e.1) with
  | some j =>
    obtain ⟨h1, h2, -⟩ := List.findIdx?_eq_some_iff_getElem.1 e
    have h3 : l[j].1 = k := by simpa using (eq_of_beq h2).symm
    refine .inl ⟨j, l[j], rfl, List.getElem?_eq_getElem h1, h3, Dic.at_of hd ?_⟩
    refine (h.2.2.2 k l[j].2.1).1 ⟨l[j].2.2, ?_⟩
    have : (k, l[j].2.1, l[j].2.2) = l[j] := by rw [← h3]
    rw [this]; exact List.getElem_mem h1
  | none =>
    have hn := List.findIdx?_eq_none_iff.1 e
    refine .inr ⟨rfl, ?_, fun x hx e => ?_⟩
    · cases c : D.at k with
      | none => rfl
      | some i =>
        obtain ⟨b, hb⟩ := (h.2.2.2 k i).2 (Dic.at_some c)
        have := hn _ hb
        simp at this
    · have := hn x hx
      rw [e] at this; simp at this

def atN (D : Dic) (k : Str) : Int := match D.at k with | some i => (i : Int) | none => -1

theorem At_spec (d : Nat) (D : Dic) (k : Str) (H : Heap) (h : DictAt H d D) : ACalls Q.prog 65 [.ptr d 0, .str k] H fun r H' => r = .int .i64 (atN D k) ∧ H' = H := by
  obtain ⟨hok, m, ks, l, clock, h1, h2, h3, h4⟩ := h
  refine ACalls.body (N := 18) Try.func65 rfl rfl rfl rfl ?_
  repeat (first
    | refine AOps.op rfl rfl ?_ | refine AOps.load rfl rfl rfl rfl rfl ?_ | refine AOps.nil ?_ | refine AWP.seq ?_ | refine AWP.region ?_ | refine AWP.block ?_ | refine AWP.skip ?_ | refine AWP.exit ?_ | refine AWP.scope ?_ | refine AWP.label ?_)
  refine AOps.load rfl (cellsAt_ptr h1) rfl rfl rfl ?_
  repeat (first
    | refine AOps.op rfl rfl ?_ | refine AOps.load rfl rfl rfl rfl rfl ?_ | refine AOps.nil ?_ | refine AWP.seq ?_ | refine AWP.region ?_ | refine AWP.block ?_ | refine AWP.skip ?_ | refine AWP.exit ?_ | refine AWP.scope ?_ | refine AWP.label ?_)
  refine AOps.step rfl rfl (OpT.lookup rfl rfl rfl rfl rfl rfl h2 (mfind_mEnt k l 0) (zv := .int .i64 0) (by kernel_rfl) rfl ?_)
  rcases h3.find hok k with ⟨j, e, e1, e2, e3, e4⟩ | ⟨e1, e2, e3⟩
  · rw [e1]
    have ev : ((mEnt l).getD j (.any, .any, 0)).2.1 = .int .i64 (e.2.1 : Nat) := by simp [mEnt, List.getD_eq_getElem?_getD, e2]
    simp only [Option.map_some, Nat.add_zero, Option.elim_some, ev, Option.isSome_some, cond_true, fput]
    repeat (first
    | refine AOps.op rfl rfl ?_ | refine AOps.load rfl rfl rfl rfl rfl ?_ | refine AOps.nil ?_ | refine AWP.seq ?_ | refine AWP.region ?_ | refine AWP.block ?_ | refine AWP.skip ?_ | refine AWP.exit ?_ | refine AWP.scope ?_ | refine AWP.label ?_)
    refine AWP.cond rfl (fun h => ?_) (fun h => by simp at h)
    repeat (first
    | refine AOps.op rfl rfl ?_ | refine AOps.load rfl rfl rfl rfl rfl ?_ | refine AOps.nil ?_ | refine AWP.seq ?_ | refine AWP.region ?_ | refine AWP.block ?_ | refine AWP.skip ?_ | refine AWP.exit ?_ | refine AWP.scope ?_ | refine AWP.label ?_)
    refine AWP.ret ?_
    refine ⟨_, _, rfl, rfl, Heap.le_refl _, ?_, rfl⟩
    simp [atN, e4]
  · rw [e1]
    simp only [Option.map_none, Option.elim_none, Option.isSome_none, cond_true, fput]
    repeat (first
    | refine AOps.op rfl rfl ?_ | refine AOps.load rfl rfl rfl rfl rfl ?_ | refine AOps.nil ?_ | refine AWP.seq ?_ | refine AWP.region ?_ | refine AWP.block ?_ | refine AWP.skip ?_ | refine AWP.exit ?_ | refine AWP.scope ?_ | refine AWP.label ?_)
    refine AWP.cond rfl (fun h => by simp at h) (fun h => ?_)
    repeat (first
    | refine AOps.op rfl rfl ?_ | refine AOps.load rfl rfl rfl rfl rfl ?_ | refine AOps.nil ?_ | refine AWP.seq ?_ | refine AWP.region ?_ | refine AWP.block ?_ | refine AWP.skip ?_ | refine AWP.exit ?_ | refine AWP.scope ?_ | refine AWP.label ?_)
    refine AWP.ret ?_
    refine ⟨_, _, rfl, rfl, Heap.le_refl _, ?_, rfl⟩
    simp [atN, e2]; rfl
end Go.Proofs.Ytlbnhokhhangdaa

/- The package dict: a key comes. -/
namespace Go.Proofs.Ytlbnhokhhangdaa
open Go Go.Am Go.Pk Go.Lib
set_option linter.unusedVariables false
set_option maxRecDepth 10000
attribute [local irreducible] AOps AWP DRun ACalls

theorem flat_str (ks : List Str) : (ks.map AV.str).flatMap AV.cells = ks.map AV.str := by
  induction ks with
  | nil => rfl
  | cons a s ih => simpa [AV.cells] using ih

theorem els_str (ks : List Str) : Els 1 (ks.map AV.str) := Els.map (f := AV.str) (fun _ => ⟨rfl, rfl⟩) ks

theorem KS.len {H ks v} (h : KS H ks v) : alen Q (evo [(0, v)]) [.tmp 0] [46] = some (.int .i64 ks.length) := by
  rcases h with ⟨rfl, rfl⟩ | ⟨g, rfl, -⟩ <;> rfl

theorem DictAt.lens {H : Heap} {d : Nat} {D : Dic} (h : D.ok) : D.keys.length ≤ 8 := by have := h.1; omega

theorem MapIs.push {l keys clock} (h : MapIs l keys clock) {k : Str} (hk : ∀ e ∈ l, e.1 ≠ k) (hn : k ∉ keys) : MapIs (l ++ [(k, keys.length, clock)]) (keys ++ [k]) (clock + 1) := by
  obtain ⟨h1, h2, h3, h4⟩ := h
  refine ⟨?_, ?_, ?_, ?_⟩
  · rw [List.map_append, List.nodup_append]
    refine ⟨h1, by simp, ?_⟩
    intro x hx y hy
    obtain ⟨e, he, rfl⟩ := List.mem_map.1 hx
    simp at hy; subst hy; exact hk e he
  · intro e he
    rcases List.mem_append.1 he with c | c
    · have := h2 e c; omega
    · simp at c; subst c; simp
  · rw [List.map_append, List.nodup_append]
    refine ⟨h3, by simp, ?_⟩
    intro x hx y hy
    obtain ⟨e, he, rfl⟩ := List.mem_map.1 hx
    simp at hy; subst hy
    have := h2 e he; omega
  · intro q i
    constructor
    · rintro ⟨b, hb⟩
      rcases List.mem_append.1 hb with c | c
      · have := (h4 q i).1 ⟨b, c⟩
        rw [List.getElem?_append_left (List.getElem?_eq_some_iff.1 this).1]; exact this
      · simp at c
        obtain ⟨rfl, rfl, rfl⟩ := c
        simp
    · intro hq
      by_cases c : i < keys.length
      · rw [List.getElem?_append_left c] at hq
        obtain ⟨b, hb⟩ := (h4 q i).2 hq
        exact ⟨b, by simp [hb]⟩
      · rw [List.getElem?_append_right (by omega)] at hq
        have hi := (List.getElem?_eq_some_iff.1 hq).1
        simp at hi
        have : i = keys.length := by omega
        subst this
        simp at hq
        subst hq
        exact ⟨clock, by simp⟩

theorem erase_map {α β : Type} (f : α → β) : ∀ (l : List α) (j : Nat), (l.map f).eraseIdx j = (l.eraseIdx j).map f
  | [], j => by simp
  | a :: l, 0 => rfl
  | a :: l, j + 1 => by simp [erase_map f l j]

theorem splice_str (ks : List Str) (e : Nat) (k : Str) (h : e < ks.length) : splice (ks.map AV.str) e [.str k] = (ks.set e k).map .str := by
  simp only [splice, List.length_cons, List.length_nil]
  rw [List.set_eq_take_append_cons_drop, if_pos h]
  simp

theorem store_str (ks : List Str) (e : Nat) (k : Str) (h : e < ks.length) : Am.stored ⟨.str, 1, 16, [.str []]⟩ e (.str k) (ks.map .str) = some ((ks.set e k).map .str) := by
  have : Nat.ble (e + 1) (ks.map AV.str).length = true := by rw [List.length_map]; exact Nat.ble_eq_true_of_le h
  simp only [Am.stored, AV.known, AV.cells, AV.ones, AV.one, List.length_cons, List.length_nil, this, forceL_eq, splice_str ks e k h]
  rfl

theorem mem_erase : ∀ (l : List (Str × Nat × Nat)) (j : Nat) (x : Str × Nat × Nat), (l.map (·.1)).Nodup → l[j]? = some x → ∀ y, y ∈ l.eraseIdx j ↔ y ∈ l ∧ y.1 ≠ x.1
  | a :: l, 0, x, hn, h, y => by
    simp at h; subst h
    simp only [List.map_cons, List.nodup_cons] at hn
    simp only [List.eraseIdx_cons_zero, List.mem_cons]
    constructor
    · intro hy
      exact ⟨.inr hy, fun e => hn.1 (by rw [← e]; exact List.mem_map.2 ⟨y, hy, rfl⟩)⟩
    · rintro ⟨rfl | hy, hne⟩
      · exact absurd rfl hne
      · exact hy
  | a :: l, j + 1, x, hn, h, y => by
    simp only [List.map_cons, List.nodup_cons] at hn
    have hx : l[j]? = some x := by simpa using h
    have ih := mem_erase l j x hn.2 hx y
    simp only [List.eraseIdx_cons_succ, List.mem_cons, ih]
    constructor
    · rintro (rfl | ⟨hy, hne⟩)
      · exact ⟨.inl rfl, fun e => hn.1 (by rw [e]; exact List.mem_map.2 ⟨x, List.mem_of_getElem? hx, rfl⟩)⟩
      · exact ⟨.inr hy, hne⟩
    · rintro ⟨rfl | hy, hne⟩
      · exact .inl rfl
      · exact .inr ⟨hy, hne⟩

theorem MapIs.swap {l keys clock} (h : MapIs l keys clock) (hnd : keys.Nodup) {k ke : Str} {j e : Nat} {x : Str × Nat × Nat} (hj : l[j]? = some x) (hx : x.1 = ke) (he : keys[e]? = some ke) (hk : ∀ e ∈ l, e.1 ≠ k) :
    MapIs (l.eraseIdx j ++ [(k, e, clock)]) (keys.set e k) (clock + 1) := by
  obtain ⟨h1, h2, h3, h4⟩ := h
  have hsub : (l.eraseIdx j).Sublist l := List.eraseIdx_sublist _ _
  have hlt := (List.getElem?_eq_some_iff.1 he).1
  refine ⟨?_, ?_, ?_, ?_⟩
  · rw [List.map_append, List.nodup_append]
    refine ⟨(hsub.map _).nodup h1, by simp, ?_⟩
    intro y hy z hz
    obtain ⟨e, he, rfl⟩ := List.mem_map.1 hy
    simp at hz; subst hz; exact hk e (hsub.subset he)
  · intro y hy
    rcases List.mem_append.1 hy with c | c
    · have := h2 y (hsub.subset c); omega
    · simp at c; subst c; simp
  · rw [List.map_append, List.nodup_append]
    refine ⟨(hsub.map _).nodup h3, by simp, ?_⟩
    intro y hy z hz
    obtain ⟨e, he, rfl⟩ := List.mem_map.1 hy
    simp at hz; subst hz
    have := h2 e (hsub.subset he); omega
  · intro q i
    have hnd' := List.pairwise_iff_getElem.1 hnd
    constructor
    · rintro ⟨b, hb⟩
      rcases List.mem_append.1 hb with c | c
      · have := (mem_erase l j x h1 hj _).1 c
        have hq := (h4 q i).1 ⟨b, this.1⟩
        have hne : i ≠ e := by rintro rfl; rw [he] at hq; cases hq; exact this.2 hx.symm
        rw [List.getElem?_set_ne (Ne.symm hne)]; exact hq
      · simp at c
        obtain ⟨rfl, rfl, rfl⟩ := c
        simp [hlt]
    · intro hq
      by_cases c : i = e
      · subst c
        simp [hlt] at hq
        subst hq
        exact ⟨clock, by simp⟩
      · rw [List.getElem?_set_ne (Ne.symm c)] at hq
        obtain ⟨b, hb⟩ := (h4 q i).2 hq
        refine ⟨b, List.mem_append.2 (.inl ((mem_erase l j x h1 hj _).2 ⟨hb, ?_⟩))⟩
        rw [hx]
        rintro (rfl : q = ke)
        obtain ⟨a1, a2⟩ := List.getElem?_eq_some_iff.1 hq
        obtain ⟨b1, b2⟩ := List.getElem?_eq_some_iff.1 he
        rcases Nat.lt_or_gt_of_ne c with d | d
        · exact hnd' i e a1 b1 d (a2.trans b2.symm)
        · exact hnd' e i b1 a1 d (b2.trans a2.symm)

theorem comes_spec (d : Nat) (D : Dic) (k : Str) (H : Heap) (h : DictAt H d D) (hk : D.at k = none) : ACalls Q.prog 66 [.ptr d 0, .str k] H fun r H' => DictAt H' d (D.comes k) := by
  obtain ⟨hok, m, ks, l, clock, h1, h2, h3, h4⟩ := h
  have hl8 : D.keys.length ≤ 8 := by have := hok.1; omega
  refine ACalls.body (N := 74) Try.func66 rfl rfl rfl rfl ?_
  repeat (first
    | refine AOps.op rfl rfl ?_ | refine AOps.load rfl rfl rfl rfl rfl ?_ | refine AOps.nil ?_ | refine AWP.seq ?_ | refine AWP.region ?_ | refine AWP.block ?_ | refine AWP.skip ?_ | refine AWP.exit ?_ | refine AWP.scope ?_ | refine AWP.label ?_)
  refine AOps.load rfl (cellsAt_ptr h1) rfl rfl rfl ?_
  refine AOps.op (r := .int .i64 D.keys.length) h4.len rfl ?_
  repeat (first
    | refine AOps.op rfl rfl ?_ | refine AOps.load rfl rfl rfl rfl rfl ?_ | refine AOps.nil ?_ | refine AWP.seq ?_ | refine AWP.region ?_ | refine AWP.block ?_ | refine AWP.skip ?_ | refine AWP.exit ?_ | refine AWP.scope ?_ | refine AWP.label ?_)
  refine AWP.cond rfl (fun h => ?_) (fun h => ?_)
  · have h : D.keys.length < 8 := by simp at h; omega
    repeat (first
    | refine AOps.op rfl rfl ?_ | refine AOps.load rfl rfl rfl rfl rfl ?_ | refine AOps.nil ?_ | refine AWP.seq ?_ | refine AWP.region ?_ | refine AWP.block ?_ | refine AWP.skip ?_ | refine AWP.exit ?_ | refine AWP.scope ?_ | refine AWP.label ?_)
    refine AWP.draw [[], [0], [0, 1], [0, 1, 2], [], [], [5], [5, 6], [5, 6, 7], [5, 6, 7, 8], [0, 1, 2, 3, 4, 5, 6, 7, 8, 9]] [(0, .pure), (1, .pure), (2, .pure), (3, .read), (4, .pure), (5, .pure), (6, .pure), (7, .pure), (8, .read), (9, .pure), (10, .eff)] rfl ?_
    repeat (first | refine DRun.op rfl rfl rfl ?_ | refine DRun.loadI rfl rfl rfl rfl rfl ?_ | refine DRun.load rfl rfl rfl rfl rfl rfl ?_ | refine DRun.nil ?_)
    refine DRun.load rfl rfl rfl (cellsAt_ptr h1) rfl rfl ?_
    repeat (first | refine DRun.op rfl rfl rfl ?_ | refine DRun.loadI rfl rfl rfl rfl rfl ?_ | refine DRun.load rfl rfl rfl rfl rfl rfl ?_ | refine DRun.nil ?_)
    refine DRun.load rfl rfl rfl (cellsAt_ptr h1) rfl rfl ?_
    refine DRun.op rfl rfl (r := .int .i64 D.keys.length) h4.len ?_
    rcases h3.find hok k with ⟨j, e, e1, e2, e3, e4⟩ | ⟨e1, e2, e3⟩
    · rw [hk] at e4; cases e4
    refine DRun.eff rfl rfl rfl (OpT.mapUpdate rfl rfl rfl rfl rfl rfl rfl rfl h2 (mfind_mEnt k l 0) ⟨?_, ?_⟩)
    · repeat (first | exact Chk.nil | refine Chk.pre rfl ?_ | refine Chk.load rfl rfl rfl rfl ?_)
    refine DRun.nil ?_
    rw [e1]
    simp only [Option.map_none, mput]
    have hmd : m ≠ d := by rintro rfl; rw [h1] at h2; cases h2
    have hnk := Dic.at_none hk
    have hm1 : ∀ x, (H.set m x) d = some (.box [ks, .map m, .int .i64 (D.eldest : Nat)]) := fun x => by rw [Heap.set_ne _ _ (Ne.symm hmd)]; exact h1
    have hks : KS (H.set m (.map (mEnt l ++ [(.str k, .int .i64 (D.keys.length : Nat), clock)]) (clock + 1))) D.keys ks := by
      rcases h4 with h4 | ⟨g, rfl, hg⟩
      · exact .inl h4
      · refine .inr ⟨g, rfl, ?_⟩
        rw [Heap.set_ne]
        · exact hg
        · rintro rfl; rw [h2] at hg; cases hg
    have hpush := h3.push e3 hnk
    have hme : mEnt l ++ [(.str k, .int .i64 (D.keys.length : Nat), clock)] = mEnt (l ++ [(k, D.keys.length, clock)]) := by simp [mEnt]
    rw [hme] at hks ⊢
    have hmm : (H.set m (.map (mEnt (l ++ [(k, D.keys.length, clock)])) (clock + 1))) m = some (.map (mEnt (l ++ [(k, D.keys.length, clock)])) (clock + 1)) := Heap.set_same _ _ _
    have hdd := hm1 (.map (mEnt (l ++ [(k, D.keys.length, clock)])) (clock + 1))
    generalize H.set m (.map (mEnt (l ++ [(k, D.keys.length, clock)])) (clock + 1)) = H1 at *
    repeat (first
    | refine AOps.op rfl rfl ?_ | refine AOps.load rfl rfl rfl rfl rfl ?_ | refine AOps.nil ?_ | refine AWP.seq ?_ | refine AWP.region ?_ | refine AWP.block ?_ | refine AWP.skip ?_ | refine AWP.exit ?_ | refine AWP.scope ?_ | refine AWP.label ?_)
    refine AOps.load rfl (cellsAt_ptr hdd) rfl rfl rfl ?_
    repeat (first
    | refine AOps.op rfl rfl ?_ | refine AOps.load rfl rfl rfl rfl rfl ?_ | refine AOps.nil ?_ | refine AWP.seq ?_ | refine AWP.region ?_ | refine AWP.block ?_ | refine AWP.skip ?_ | refine AWP.exit ?_ | refine AWP.scope ?_ | refine AWP.label ?_)
    refine AOps.buildSlice (els := [k].map AV.str) rfl rfl rfl ?_
    have hcase : ∃ H0 : Heap, ((ks = .sl [] .full ∧ D.keys.map AV.str = [] ∧ H0 = H1) ∨ ∃ b, ks = .msl b (D.keys.map AV.str).length 1 ∧ H1 b = some (.box ((D.keys.map AV.str).flatMap AV.cells)) ∧ H0 = H1.del b) ∧
        H0 m = H1 m ∧ H0 d = H1 d := by
      rcases hks with ⟨q1, q2⟩ | ⟨g, q1, q2⟩
      · exact ⟨H1, .inl ⟨q2, by rw [q1]; rfl, rfl⟩, rfl, rfl⟩
      · refine ⟨H1.del g, .inr ⟨g, by simpa using q1, by rw [flat_str]; exact q2, rfl⟩, ?_, ?_⟩
        · simp only [Heap.del]; rw [if_neg]; rintro rfl; rw [hmm] at q2; cases q2
        · simp only [Heap.del]; rw [if_neg]; rintro rfl; rw [hdd] at q2
          subst q1
          have := Option.some.inj q2
          injection this with this
          cases hkk : D.keys with
          | nil => rw [hkk] at this; simp at this
          | cons x r => rw [hkk] at this; simp at this
    obtain ⟨H0, hold, hm0, hd0⟩ := hcase
    refine AOps.step rfl rfl (OpT.appendM (old := D.keys.map AV.str) (new := [k].map AV.str) (H0 := H0) rfl rfl rfl rfl rfl rfl rfl rfl hold (els_str _) (els_str _) (SrcOk.of rfl (els_str _)) ?_ ?_ ?_ ?_)
    · simp [maxLen]; omega
    · simp; omega
    · intro e _; cases e
    intro b hb
    rw [← List.map_append, flat_str]
    have hbd : b ≠ d := by rintro rfl; rw [hd0, hdd] at hb; cases hb
    have hbm : b ≠ m := by rintro rfl; rw [hm0, hmm] at hb; cases hb
    have hdd' : (H0.set b (.box ((D.keys ++ [k]).map AV.str))) d = some (.box [ks, .map m, .int .i64 (D.eldest : Nat)]) := by rw [Heap.set_ne _ _ (Ne.symm hbd), hd0]; exact hdd
    repeat (first
    | refine AOps.op rfl rfl ?_ | refine AOps.load rfl rfl rfl rfl rfl ?_ | refine AOps.nil ?_ | refine AWP.seq ?_ | refine AWP.region ?_ | refine AWP.block ?_ | refine AWP.skip ?_ | refine AWP.exit ?_ | refine AWP.scope ?_ | refine AWP.label ?_)
    refine AOps.storeH rfl rfl rfl hdd' rfl rfl ?_
    repeat (first
    | refine AOps.op rfl rfl ?_ | refine AOps.load rfl rfl rfl rfl rfl ?_ | refine AOps.nil ?_ | refine AWP.seq ?_ | refine AWP.region ?_ | refine AWP.block ?_ | refine AWP.skip ?_ | refine AWP.exit ?_ | refine AWP.scope ?_ | refine AWP.label ?_)
    refine AWP.ret ?_
    have hcomes : D.comes k = ⟨D.keys ++ [k], D.now + 1⟩ := by unfold Dic.comes; rw [if_pos h]
    have hel : (D.comes k).eldest = D.eldest := by rw [hcomes]; have := hok.1; simp only [Dic.eldest]; split <;> split <;> omega
    refine ⟨_, _, rfl, rfl, Heap.le_refl _, Dic.comes_ok hok hk, m, .msl b (D.keys ++ [k]).length 1, l ++ [(k, D.keys.length, clock)], clock + 1, ?_, ?_, ?_, ?_⟩
    · rw [Heap.set_same, hel]; simp
    · rw [Heap.set_ne _ _ hmd, Heap.set_ne _ _ (Ne.symm hbm), hm0]; exact hmm
    · rw [hcomes]; exact hpush
    · rw [hcomes]; exact .inr ⟨b, rfl, by rw [Heap.set_ne _ _ hbd, Heap.set_same]⟩
  · have h : 8 ≤ D.keys.length := by simp at h; omega
    have hlen : D.keys.length = 8 := by omega
    have hnow : 8 ≤ D.now := by have := hok.1; omega
    have hel : D.eldest = D.now % 8 := by unfold Dic.eldest; rw [if_neg (by omega)]
    have hmd : m ≠ d := by rintro rfl; rw [h1] at h2; cases h2
    have hnk := Dic.at_none hk
    obtain ⟨g, rfl, hg⟩ : ∃ g, ks = .msl g D.keys.length 1 ∧ H g = some (.box (D.keys.map .str)) := by
      rcases h4 with ⟨q, -⟩ | q
      · rw [q] at hlen; simp at hlen
      · exact q
    have hgm : g ≠ m := by rintro rfl; rw [h2] at hg; cases hg
    have hgd : g ≠ d := by
      rintro rfl
      rw [h1] at hg
      have := Option.some.inj hg
      injection this with this
      cases hkk : D.keys with
      | nil => rw [hkk] at this; simp at this
      | cons x r => rw [hkk] at this; simp at this
    obtain ⟨ke, hke⟩ : ∃ ke, D.keys[D.eldest]? = some ke := ⟨D.keys[D.eldest]'(by omega), List.getElem?_eq_getElem _⟩
    have hcell : ofCells ⟨.str, 1, 16, [.str []]⟩ ((D.keys.map AV.str).drop D.eldest) = some (.str ke) := by simp [ofCells, TK.isAgg, List.head?_drop, hke]
    repeat (first
    | refine AOps.op rfl rfl ?_ | refine AOps.load rfl rfl rfl rfl rfl ?_ | refine AOps.nil ?_ | refine AWP.seq ?_ | refine AWP.region ?_ | refine AWP.block ?_ | refine AWP.skip ?_ | refine AWP.exit ?_ | refine AWP.scope ?_ | refine AWP.label ?_)
    refine AWP.draw [[], [0], [0, 1], [0, 1, 2], [], [4], [4, 5], [4, 5, 6], [], [8], [8, 9], [8, 9, 10], [4, 5, 6, 7, 8, 9, 10, 11], [4, 5, 6, 7, 8, 9, 10, 11, 12], [0, 1, 2, 3, 4, 5, 6, 7, 8, 9, 10, 11, 12, 13]] [(0, .pure), (1, .pure), (2, .pure), (3, .read), (4, .pure), (5, .pure), (6, .pure), (7, .read), (8, .pure), (9, .pure), (10, .pure), (11, .read), (12, .pure), (13, .read), (14, .eff)] rfl ?_
    repeat (first | refine DRun.op rfl rfl rfl ?_ | refine DRun.loadI rfl rfl rfl rfl rfl ?_ | refine DRun.load rfl rfl rfl rfl rfl rfl ?_ | refine DRun.nil ?_)
    refine DRun.load rfl rfl rfl (cellsAt_ptr h1) rfl rfl ?_
    repeat (first | refine DRun.op rfl rfl rfl ?_ | refine DRun.loadI rfl rfl rfl rfl rfl ?_ | refine DRun.load rfl rfl rfl rfl rfl rfl ?_ | refine DRun.nil ?_)
    refine DRun.load rfl rfl rfl (cellsAt_ptr h1) rfl rfl ?_
    repeat (first | refine DRun.op rfl rfl rfl ?_ | refine DRun.loadI rfl rfl rfl rfl rfl ?_ | refine DRun.load rfl rfl rfl rfl rfl rfl ?_ | refine DRun.nil ?_)
    refine DRun.load rfl rfl rfl (cellsAt_ptr h1) rfl rfl ?_
    refine DRun.pureT rfl rfl rfl (fun loc H => OpT.indexM rfl rfl rfl rfl rfl (by omega) (by omega) (o := D.eldest) (by simp) ⟨rfl, rfl, rfl⟩) ?_
    refine DRun.load rfl rfl rfl (cellsAt_ptr hg) rfl hcell ?_
    obtain ⟨j, e, e1, e2, e3, e4⟩ : ∃ j e, (l.findIdx? fun e => ke == e.1) = some j ∧ l[j]? = some e ∧ e.1 = ke ∧ D.at ke = some e.2.1 := by
      rcases h3.find hok ke with q | ⟨-, e2, -⟩
      · exact q
      · rw [Dic.at_of hok hke] at e2; cases e2
    refine DRun.eff rfl rfl rfl (OpT.delete rfl rfl rfl rfl rfl rfl h2 (mfind_mEnt ke l 0) ⟨?_, ?_⟩)
    · repeat (first | exact Chk.nil | refine Chk.pre rfl ?_ | refine Chk.load rfl rfl rfl rfl ?_)
    refine DRun.nil ?_
    rw [e1]
    simp only [Option.map_some, Option.elim_some, Nat.add_zero]
    have her : (mEnt l).eraseIdx j = mEnt (l.eraseIdx j) := erase_map _ _ _
    rw [her]
    have hk3 : ∀ e ∈ l, e.1 ≠ k := by
      rcases h3.find hok k with ⟨_, _, _, _, _, q⟩ | ⟨-, -, q⟩
      · rw [hk] at q; cases q
      · exact q
    have hsw := h3.swap hok.2 e2 e3 hke hk3
    have hfk : (l.eraseIdx j).findIdx? (fun e => k == e.1) = none := by
      rw [List.findIdx?_eq_none_iff]
      intro x hx
      have := hk3 x ((List.eraseIdx_sublist _ _).subset hx)
      simpa using fun e => this e.symm
    have hborn : ∀ x ∈ l.eraseIdx j, x.2.2 ≠ clock := fun x hx => by have := h3.2.1 x ((List.eraseIdx_sublist _ _).subset hx); omega
    generalize l.eraseIdx j = l' at *
    have d1 : (H.set m (.map (mEnt l') clock)) d = some (.box [.msl g D.keys.length 1, .map m, .int .i64 (D.eldest : Nat)]) := by rw [Heap.set_ne _ _ (Ne.symm hmd)]; exact h1
    have g1 : (H.set m (.map (mEnt l') clock)) g = some (.box (D.keys.map .str)) := by rw [Heap.set_ne _ _ hgm]; exact hg
    have m1 : (H.set m (.map (mEnt l') clock)) m = some (.map (mEnt l') clock) := Heap.set_same _ _ _
    generalize H.set m (.map (mEnt l') clock) = H1 at *
    repeat (first
    | refine AOps.op rfl rfl ?_ | refine AOps.load rfl rfl rfl rfl rfl ?_ | refine AOps.nil ?_ | refine AWP.seq ?_ | refine AWP.region ?_ | refine AWP.block ?_ | refine AWP.skip ?_ | refine AWP.exit ?_ | refine AWP.scope ?_ | refine AWP.label ?_)
    refine AWP.draw [[], [0], [0, 1], [0, 1, 2], [], [], [5], [5, 6], [5, 6, 7], [], [9], [9, 10], [9, 10, 11], [], [13], [13, 14], [13, 14, 15], [], [0, 1, 2, 3, 4, 5, 6, 7, 8, 9, 10, 11, 12], [0, 1, 2, 3, 4, 5, 6, 7, 8, 9, 10, 11, 12, 18], [0, 1, 2, 3, 4, 5, 6, 7, 8, 9, 10, 11, 12, 13, 14, 15, 16, 18, 19], [0, 1, 2, 3, 4, 5, 6, 7, 8, 9, 10, 11, 12, 13, 14, 15, 16, 17, 18, 19, 20], [0, 1, 2, 3, 4, 5, 6, 7, 8, 9, 10, 11, 12, 13, 14, 15, 16, 17, 18, 19, 20, 21]] [(0, .pure), (1, .pure), (2, .pure), (3, .read), (4, .pure), (5, .pure), (6, .pure), (7, .pure), (8, .read), (9, .pure), (10, .pure), (11, .pure), (12, .read), (13, .pure), (14, .pure), (15, .pure), (16, .read), (17, .pure), (18, .eff), (19, .pure), (20, .eff), (21, .pure), (22, .eff)] rfl ?_
    repeat (first | refine DRun.op rfl rfl rfl ?_ | refine DRun.loadI rfl rfl rfl rfl rfl ?_ | refine DRun.load rfl rfl rfl rfl rfl rfl ?_ | refine DRun.nil ?_)
    refine DRun.load rfl rfl rfl (cellsAt_ptr d1) rfl rfl ?_
    repeat (first | refine DRun.op rfl rfl rfl ?_ | refine DRun.loadI rfl rfl rfl rfl rfl ?_ | refine DRun.load rfl rfl rfl rfl rfl rfl ?_ | refine DRun.nil ?_)
    refine DRun.load rfl rfl rfl (cellsAt_ptr d1) rfl rfl ?_
    repeat (first | refine DRun.op rfl rfl rfl ?_ | refine DRun.loadI rfl rfl rfl rfl rfl ?_ | refine DRun.load rfl rfl rfl rfl rfl rfl ?_ | refine DRun.nil ?_)
    refine DRun.load rfl rfl rfl (cellsAt_ptr d1) rfl rfl ?_
    repeat (first | refine DRun.op rfl rfl rfl ?_ | refine DRun.loadI rfl rfl rfl rfl rfl ?_ | refine DRun.load rfl rfl rfl rfl rfl rfl ?_ | refine DRun.nil ?_)
    refine DRun.load rfl rfl rfl (cellsAt_ptr d1) rfl rfl ?_
    repeat (first | refine DRun.op rfl rfl rfl ?_ | refine DRun.loadI rfl rfl rfl rfl rfl ?_ | refine DRun.load rfl rfl rfl rfl rfl rfl ?_ | refine DRun.nil ?_)
    refine DRun.eff rfl rfl rfl (OpT.mapEntry rfl rfl rfl rfl rfl rfl m1 (mfind_mEnt k l' 0) (zv := .int .i64 0) (by kernel_rfl) rfl ⟨?_, ?_⟩)
    · repeat (first | exact Chk.nil | refine Chk.pre rfl ?_ | refine Chk.load rfl (cellsAt_ptr (by rw [Heap.set_ne _ _ (Ne.symm hmd)]; exact d1)) rfl rfl ?_)
    rw [hfk]
    simp only [Option.map_none, Option.elim_none, mput]
    have m2 : (H1.set m (.map (mEnt l' ++ [(.str k, ofConst (.int .i64 0), clock)]) (clock + 1))) m = some (.map (mEnt l' ++ [(.str k, ofConst (.int .i64 0), clock)]) (clock + 1)) := Heap.set_same _ _ _
    have d2 : (H1.set m (.map (mEnt l' ++ [(.str k, ofConst (.int .i64 0), clock)]) (clock + 1))) d = some (.box [.msl g D.keys.length 1, .map m, .int .i64 (D.eldest : Nat)]) := by rw [Heap.set_ne _ _ (Ne.symm hmd)]; exact d1
    have g2 : (H1.set m (.map (mEnt l' ++ [(.str k, ofConst (.int .i64 0), clock)]) (clock + 1))) g = some (.box (D.keys.map .str)) := by rw [Heap.set_ne _ _ hgm]; exact g1
    generalize H1.set m (.map (mEnt l' ++ [(.str k, ofConst (.int .i64 0), clock)]) (clock + 1)) = H2 at *
    repeat (first | refine DRun.op rfl rfl rfl ?_ | refine DRun.loadI rfl rfl rfl rfl rfl ?_ | refine DRun.load rfl rfl rfl rfl rfl rfl ?_ | refine DRun.nil ?_)
    have hfb : (mEnt l' ++ [((AV.str k, ofConst (.int .i64 0), clock) : AV × AV × Nat)]).findIdx? (fun e => e.2.2 == clock) = some l'.length := by
      rw [List.findIdx?_append]
      have : (mEnt l').findIdx? (fun e => e.2.2 == clock) = none := by
        rw [List.findIdx?_eq_none_iff]
        intro x hx
        obtain ⟨y, hy, rfl⟩ := List.mem_map.1 hx
        simpa using hborn y hy
      rw [this]
      simp [mEnt]
    refine DRun.eff rfl rfl rfl (OpT.entryStore rfl rfl rfl rfl m2 hfb ⟨?_, ?_⟩)
    · repeat (first | exact Chk.nil | refine Chk.pre rfl ?_ | refine Chk.load rfl rfl rfl rfl ?_)
    have hset : (mEnt l' ++ [((AV.str k, ofConst (.int .i64 0), clock) : AV × AV × Nat)]).set l'.length (((mEnt l' ++ [((AV.str k, ofConst (.int .i64 0), clock) : AV × AV × Nat)]).getD l'.length (.any, .any, 0)).1, .int .i64 (D.eldest : Nat),
        ((mEnt l' ++ [((AV.str k, ofConst (.int .i64 0), clock) : AV × AV × Nat)]).getD l'.length (.any, .any, 0)).2.2) = mEnt (l' ++ [(k, D.eldest, clock)]) := by
      have hl : l'.length = (mEnt l').length := by simp [mEnt]
      rw [hl]
      simp [mEnt, List.getD_eq_getElem?_getD]
    rw [hset]
    have m3 : (H2.set m (.map (mEnt (l' ++ [(k, D.eldest, clock)])) (clock + 1))) m = some (.map (mEnt (l' ++ [(k, D.eldest, clock)])) (clock + 1)) := Heap.set_same _ _ _
    have d3 : (H2.set m (.map (mEnt (l' ++ [(k, D.eldest, clock)])) (clock + 1))) d = some (.box [.msl g D.keys.length 1, .map m, .int .i64 (D.eldest : Nat)]) := by rw [Heap.set_ne _ _ (Ne.symm hmd)]; exact d2
    have g3 : (H2.set m (.map (mEnt (l' ++ [(k, D.eldest, clock)])) (clock + 1))) g = some (.box (D.keys.map .str)) := by rw [Heap.set_ne _ _ hgm]; exact g2
    generalize H2.set m (.map (mEnt (l' ++ [(k, D.eldest, clock)])) (clock + 1)) = H3 at *
    refine DRun.pureT rfl rfl rfl (fun loc H => OpT.indexM rfl rfl rfl rfl rfl (by omega) (by omega) (o := D.eldest) (by simp) ⟨rfl, rfl, rfl⟩) ?_
    refine DRun.eff rfl rfl rfl (OpT.storeH rfl rfl rfl g3 rfl (store_str D.keys D.eldest k (by omega)) ⟨?_, ?_⟩)
    · repeat (first | exact Chk.nil | refine Chk.pre rfl ?_ | refine Chk.load rfl rfl rfl rfl ?_)
    refine DRun.nil ?_
    have m4 : (H3.set g (.box ((D.keys.set D.eldest k).map .str))) m = some (.map (mEnt (l' ++ [(k, D.eldest, clock)])) (clock + 1)) := by rw [Heap.set_ne _ _ (Ne.symm hgm)]; exact m3
    have d4 : (H3.set g (.box ((D.keys.set D.eldest k).map .str))) d = some (.box [.msl g D.keys.length 1, .map m, .int .i64 (D.eldest : Nat)]) := by rw [Heap.set_ne _ _ (Ne.symm hgd)]; exact d3
    have g4 : (H3.set g (.box ((D.keys.set D.eldest k).map .str))) g = some (.box ((D.keys.set D.eldest k).map .str)) := Heap.set_same _ _ _
    generalize H3.set g (.box ((D.keys.set D.eldest k).map .str)) = H4 at *
    repeat (first
    | refine AOps.op rfl rfl ?_ | refine AOps.load rfl rfl rfl rfl rfl ?_ | refine AOps.nil ?_ | refine AWP.seq ?_ | refine AWP.region ?_ | refine AWP.block ?_ | refine AWP.skip ?_ | refine AWP.exit ?_ | refine AWP.scope ?_ | refine AWP.label ?_)
    refine AOps.load rfl (cellsAt_ptr d4) rfl rfl rfl ?_
    repeat (first
    | refine AOps.op rfl rfl ?_ | refine AOps.load rfl rfl rfl rfl rfl ?_ | refine AOps.nil ?_ | refine AWP.seq ?_ | refine AWP.region ?_ | refine AWP.block ?_ | refine AWP.skip ?_ | refine AWP.exit ?_ | refine AWP.scope ?_ | refine AWP.label ?_)
    refine AOps.storeH rfl rfl rfl d4 rfl rfl ?_
    repeat (first
    | refine AOps.op rfl rfl ?_ | refine AOps.load rfl rfl rfl rfl rfl ?_ | refine AOps.nil ?_ | refine AWP.seq ?_ | refine AWP.region ?_ | refine AWP.block ?_ | refine AWP.skip ?_ | refine AWP.exit ?_ | refine AWP.scope ?_ | refine AWP.label ?_)
    have hcomes : D.comes k = ⟨D.keys.set D.eldest k, D.now + 1⟩ := by unfold Dic.comes; rw [if_neg (by omega), hel]
    have hel2 : (D.comes k).eldest = (D.now + 1) % 8 := by rw [hcomes]; simp only [Dic.eldest]; rw [if_neg (by omega)]
    refine ⟨_, _, rfl, rfl, Heap.le_refl _, Dic.comes_ok hok hk, m, .msl g D.keys.length 1, l' ++ [(k, D.eldest, clock)], clock + 1, ?_, ?_, ?_, ?_⟩
    · rw [Heap.set_same, hel2]
      refine congrArg (fun x => some (AObj.box [_, _, AV.int .i64 x])) ?_
      show (IntKind.i64.wrap ((D.eldest : Int) + 1)).tmod 8 = _
      have e8 : IntKind.i64.wrap ((D.eldest : Int) + 1) = ((D.eldest + 1 : Nat) : Int) := wrap_i64 (n := D.eldest + 1) (by omega)
      rw [e8, show ((D.eldest + 1 : Nat) : Int).tmod 8 = (((D.eldest + 1) % 8 : Nat) : Int) from rfl, hel]
      omega
    · rw [Heap.set_ne _ _ hmd]; exact m4
    · rw [hcomes]; exact hsw
    · rw [hcomes]; exact .inr ⟨g, by simp, by rw [Heap.set_ne _ _ hgd]; exact g4⟩
end Go.Proofs.Ytlbnhokhhangdaa

/- The package dict: keys told and read. -/
namespace Go.Proofs.Ytlbnhokhhangdaa
open Go Go.Am Go.Pk Go.Lib
set_option linter.unusedVariables false
set_option maxRecDepth 10000
attribute [local irreducible] AOps AWP DRun ACalls

theorem dPut_spec (d : Nat) (D : Dic) (k : Str) (H : Heap) (h : DictAt H d D) (hk : k.length ≤ 64) :
    ACalls Q.prog 44 [.ptr d 0, .str k] H fun r H' => ∃ x tag, r = .tuple [.sl (encB x) tag, .int .i64 0] ∧ x = (dput D k).1 ∧ DictAt H' d (dput D k).2.2 := by
  refine ACalls.body (N := 29) Try.func44 rfl rfl rfl rfl ?_
  repeat (first
    | refine AOps.op rfl rfl ?_ | refine AOps.load rfl rfl rfl rfl rfl ?_ | refine AOps.nil ?_ | refine AWP.seq ?_ | refine AWP.region ?_ | refine AWP.block ?_ | refine AWP.skip ?_ | refine AWP.exit ?_ | refine AWP.scope ?_ | refine AWP.label ?_)
  refine AWP.cond rfl (fun h => by simp at h; omega) (fun _ => ?_)
  repeat (first
    | refine AOps.op rfl rfl ?_ | refine AOps.load rfl rfl rfl rfl rfl ?_ | refine AOps.nil ?_ | refine AWP.seq ?_ | refine AWP.region ?_ | refine AWP.block ?_ | refine AWP.skip ?_ | refine AWP.exit ?_ | refine AWP.scope ?_ | refine AWP.label ?_)
  refine AOps.call rfl rfl rfl ((At_spec d D k H h).mono ?_)
  rintro _ H ⟨rfl, rfl⟩
  repeat (first
    | refine AOps.op rfl rfl ?_ | refine AOps.load rfl rfl rfl rfl rfl ?_ | refine AOps.nil ?_ | refine AWP.seq ?_ | refine AWP.region ?_ | refine AWP.block ?_ | refine AWP.skip ?_ | refine AWP.exit ?_ | refine AWP.scope ?_ | refine AWP.label ?_)
  have h64 : ¬ 64 < k.length := by omega
  cases e : D.at k with
  | some i =>
    have ei : atN D k = (i : Int) := by simp [atN, e]
    have hi : i < D.keys.length := (List.getElem?_eq_some_iff.1 (Dic.at_some e)).1
    have hl8 : D.keys.length ≤ 8 := by have := h.1.1; omega
    rw [ei]
    refine AWP.cond rfl (fun _ => ?_) (fun h => by simp at h)
    have e1 : IntKind.u64.wrap (IntKind.u64.wrap (i : Int) + 1) = ((i + 1 : Nat) : Int) := by rw [wrap_u64 (n := i) (by omega)]; exact wrap_u64 (n := i + 1) (by omega)
    repeat (first
    | refine AOps.op rfl rfl ?_ | refine AOps.load rfl rfl rfl rfl rfl ?_ | refine AOps.nil ?_ | refine AWP.seq ?_ | refine AWP.region ?_ | refine AWP.block ?_ | refine AWP.skip ?_ | refine AWP.exit ?_ | refine AWP.scope ?_ | refine AWP.label ?_)
    refine AOps.call (vs := [.int .u64 (i + 1 : Nat)]) (congrArg (fun x => some [AV.int .u64 x]) e1) rfl rfl ((Put_spec (i + 1) (by omega) H).mono ?_)
    rintro _ H2 ⟨tag, rfl, k1, k2⟩
    repeat (first
    | refine AOps.op rfl rfl ?_ | refine AOps.load rfl rfl rfl rfl rfl ?_ | refine AOps.nil ?_ | refine AWP.seq ?_ | refine AWP.region ?_ | refine AWP.block ?_ | refine AWP.skip ?_ | refine AWP.exit ?_ | refine AWP.scope ?_ | refine AWP.label ?_)
    refine AWP.ret ?_
    refine ⟨_, H, rfl, rfl, by rw [← k2]; exact hbase_le _ _, _, tag, rfl, ?_, ?_⟩
    · simp [dput, h64, e]
    · simp only [dput, h64, e, if_false]; exact h
  | none =>
    have ei : atN D k = -1 := by simp [atN, e]
    rw [ei]
    refine AWP.cond rfl (fun h => by simp at h) (fun _ => ?_)
    repeat (first
    | refine AOps.op rfl rfl ?_ | refine AOps.load rfl rfl rfl rfl rfl ?_ | refine AOps.nil ?_ | refine AWP.seq ?_ | refine AWP.region ?_ | refine AWP.block ?_ | refine AWP.skip ?_ | refine AWP.exit ?_ | refine AWP.scope ?_ | refine AWP.label ?_)
    refine AOps.call rfl rfl rfl ((comes_spec d D k H h e).mono ?_)
    intro r H2 h2
    repeat (first
    | refine AOps.op rfl rfl ?_ | refine AOps.load rfl rfl rfl rfl rfl ?_ | refine AOps.nil ?_ | refine AWP.seq ?_ | refine AWP.region ?_ | refine AWP.block ?_ | refine AWP.skip ?_ | refine AWP.exit ?_ | refine AWP.scope ?_ | refine AWP.label ?_)
    have e1 : IntKind.u64.wrap ((k.length : Nat) : Int) = ((k.length : Nat) : Int) := wrap_u64 (by omega)
    refine AOps.buildSlice (els := [0, k.length].map fun n => AV.int .u64 (n : Nat)) rfl (by rw [e1]; rfl) rfl ?_
    refine AOps.call rfl rfl rfl ((All_spec [0, k.length] .full (by intro n hn; simp at hn; omega) (by simp) H2).mono ?_)
    rintro _ H3 ⟨tag, rfl, k1, k2⟩
    repeat (first
    | refine AOps.op rfl rfl ?_ | refine AOps.load rfl rfl rfl rfl rfl ?_ | refine AOps.nil ?_ | refine AWP.seq ?_ | refine AWP.region ?_ | refine AWP.block ?_ | refine AWP.skip ?_ | refine AWP.exit ?_ | refine AWP.scope ?_ | refine AWP.label ?_)
    refine appB H3 (Heap.le_refl _) rfl rfl rfl rfl rfl k1 ?_ fun tag' H' q1 q2 => ?_
    · have := uvarint_length64 (x := 0) (by decide)
      have := uvarint_length64 (x := k.length) (by omega)
      simp; omega
    repeat (first
    | refine AOps.op rfl rfl ?_ | refine AOps.load rfl rfl rfl rfl rfl ?_ | refine AOps.nil ?_ | refine AWP.seq ?_ | refine AWP.region ?_ | refine AWP.block ?_ | refine AWP.skip ?_ | refine AWP.exit ?_ | refine AWP.scope ?_ | refine AWP.label ?_)
    refine AWP.ret ?_
    refine ⟨_, H2, rfl, rfl, by rw [← k2, ← q2]; exact hbase_le _ _, _, tag', rfl, ?_, ?_⟩
    · simp [dput, h64, e]
    · simp only [dput, h64, e, if_false]; exact h2
end Go.Proofs.Ytlbnhokhhangdaa

/- The package dict: keys read. -/
namespace Go.Proofs.Ytlbnhokhhangdaa
open Go Go.Am Go.Pk Go.Lib
set_option linter.unusedVariables false
set_option maxRecDepth 10000
attribute [local irreducible] AOps AWP DRun ACalls

set_option maxHeartbeats 1000000 in
theorem dTake_spec (d : Nat) (D : Dic) (b : Str) (tag : Tag) (H : Heap) (h : DictAt H d D) (hb : b.length < 2 ^ 40) :
    ACalls Q.prog 71 [.ptr d 0, .sl (encB b) tag] H fun r H' =>
      r = .tuple [.str (dtake D b).1, .int .i64 (dtake D b).2.1, .int .i64 (dtake D b).2.2.1] ∧ DictAt H' d (dtake D b).2.2.2 := by
  have hl8 : D.keys.length ≤ 8 := by have := h.1.1; omega
  obtain ⟨v1, v2, v3, v4⟩ := vtake_le b
  refine ACalls.body (N := 90) Try.func71 rfl rfl rfl rfl ?_
  repeat (first
    | refine AOps.op rfl rfl ?_ | refine AOps.load rfl rfl rfl rfl rfl ?_ | refine AOps.nil ?_ | refine AWP.seq ?_ | refine AWP.region ?_ | refine AWP.block ?_ | refine AWP.skip ?_ | refine AWP.exit ?_ | refine AWP.scope ?_ | refine AWP.label ?_)
  refine AOps.call rfl rfl rfl ((Take_spec b tag H hb).mono ?_)
  rintro _ H ⟨rfl, rfl⟩
  have hh := h
  obtain ⟨hok, m, ks, l, clock, h1, h2, h3, h4⟩ := h
  repeat (first
    | refine AOps.op rfl rfl ?_ | refine AOps.load rfl rfl rfl rfl rfl ?_ | refine AOps.nil ?_ | refine AWP.seq ?_ | refine AWP.region ?_ | refine AWP.block ?_ | refine AWP.skip ?_ | refine AWP.exit ?_ | refine AWP.scope ?_ | refine AWP.label ?_)
  refine AWP.cond rfl (fun h => ?_) (fun h => ?_)
  · have he : (vtake b).2.2 ≠ 0 := by simp at h; omega
    repeat (first
    | refine AOps.op rfl rfl ?_ | refine AOps.load rfl rfl rfl rfl rfl ?_ | refine AOps.nil ?_ | refine AWP.seq ?_ | refine AWP.region ?_ | refine AWP.block ?_ | refine AWP.skip ?_ | refine AWP.exit ?_ | refine AWP.scope ?_ | refine AWP.label ?_)
    refine AWP.ret ?_
    refine ⟨_, _, rfl, rfl, Heap.le_refl _, ?_, ?_⟩
    · simp only [dtake, if_pos he]; rfl
    · simp only [dtake, if_pos he]; exact hh
  have he : ¬ (vtake b).2.2 ≠ 0 := by simp at h; omega
  have el : IntKind.u64.wrap ((D.keys.length : Nat) : Int) = ((D.keys.length : Nat) : Int) := wrap_u64 (by omega)
  repeat (first
    | refine AOps.op rfl rfl ?_ | refine AOps.load rfl rfl rfl rfl rfl ?_ | refine AOps.nil ?_ | refine AWP.seq ?_ | refine AWP.region ?_ | refine AWP.block ?_ | refine AWP.skip ?_ | refine AWP.exit ?_ | refine AWP.scope ?_ | refine AWP.label ?_)
  refine AOps.load rfl (cellsAt_ptr h1) rfl rfl rfl ?_
  refine AOps.op (r := .int .i64 D.keys.length) h4.len rfl ?_
  repeat (first
    | refine AOps.op rfl rfl ?_ | refine AOps.load rfl rfl rfl rfl rfl ?_ | refine AOps.nil ?_ | refine AWP.seq ?_ | refine AWP.region ?_ | refine AWP.block ?_ | refine AWP.skip ?_ | refine AWP.exit ?_ | refine AWP.scope ?_ | refine AWP.label ?_)
  refine AWP.cond rfl (fun h => ?_) (fun h => ?_)
  · have hp : (vtake b).1 > D.keys.length := by rw [el] at h; simp at h; omega
    repeat (first
    | refine AOps.op rfl rfl ?_ | refine AOps.load rfl rfl rfl rfl rfl ?_ | refine AOps.nil ?_ | refine AWP.seq ?_ | refine AWP.region ?_ | refine AWP.block ?_ | refine AWP.skip ?_ | refine AWP.exit ?_ | refine AWP.scope ?_ | refine AWP.label ?_)
    refine AWP.ret ?_
    refine ⟨_, _, rfl, rfl, Heap.le_refl _, ?_, ?_⟩
    · simp only [dtake, if_neg he, if_pos hp]; rfl
    · simp only [dtake, if_neg he, if_pos hp]; exact hh
  have hp : ¬ (vtake b).1 > D.keys.length := by rw [el] at h; simp at h; omega
  repeat (first
    | refine AOps.op rfl rfl ?_ | refine AOps.load rfl rfl rfl rfl rfl ?_ | refine AOps.nil ?_ | refine AWP.seq ?_ | refine AWP.region ?_ | refine AWP.block ?_ | refine AWP.skip ?_ | refine AWP.exit ?_ | refine AWP.scope ?_ | refine AWP.label ?_)
  refine AWP.cond rfl (fun h => ?_) (fun h => ?_)
  · have h0 : 0 < (vtake b).1 := by simp at h; omega
    obtain ⟨g, rfl, hg⟩ : ∃ g, ks = .msl g D.keys.length 1 ∧ H g = some (.box (D.keys.map .str)) := by
      rcases h4 with ⟨q, -⟩ | q
      · rw [q] at hp; simp at hp; omega
      · exact q
    have ep : IntKind.u64.wrap (((vtake b).1 : Nat) - 1 : Int) = (((vtake b).1 - 1 : Nat) : Int) := by rw [show (((vtake b).1 : Nat) - 1 : Int) = (((vtake b).1 - 1 : Nat) : Int) by omega]; exact wrap_u64 (by omega)
    obtain ⟨ke, hke⟩ : ∃ ke, D.keys[(vtake b).1 - 1]? = some ke := ⟨D.keys[(vtake b).1 - 1]'(by omega), List.getElem?_eq_getElem _⟩
    have hcell : ofCells ⟨.str, 1, 16, [.str []]⟩ ((D.keys.map AV.str).drop ((vtake b).1 - 1)) = some (.str ke) := by simp [ofCells, TK.isAgg, List.head?_drop, hke]
    repeat (first
    | refine AOps.op rfl rfl ?_ | refine AOps.load rfl rfl rfl rfl rfl ?_ | refine AOps.nil ?_ | refine AWP.seq ?_ | refine AWP.region ?_ | refine AWP.block ?_ | refine AWP.skip ?_ | refine AWP.exit ?_ | refine AWP.scope ?_ | refine AWP.label ?_)
    refine AOps.load rfl (cellsAt_ptr h1) rfl rfl rfl ?_
    repeat (first
    | refine AOps.op rfl rfl ?_ | refine AOps.load rfl rfl rfl rfl rfl ?_ | refine AOps.nil ?_ | refine AWP.seq ?_ | refine AWP.region ?_ | refine AWP.block ?_ | refine AWP.skip ?_ | refine AWP.exit ?_ | refine AWP.scope ?_ | refine AWP.label ?_)
    refine AOps.step rfl rfl (OpT.indexM (i := (((vtake b).1 - 1 : Nat) : Int)) rfl (congrArg (fun x => some (AV.int .u64 x)) ep) rfl rfl rfl (by omega) (by omega) (o := (vtake b).1 - 1) (by simp) ?_)
    refine AOps.load rfl (cellsAt_ptr hg) rfl hcell rfl ?_
    repeat (first
    | refine AOps.op rfl rfl ?_ | refine AOps.load rfl rfl rfl rfl rfl ?_ | refine AOps.nil ?_ | refine AWP.seq ?_ | refine AWP.region ?_ | refine AWP.block ?_ | refine AWP.skip ?_ | refine AWP.exit ?_ | refine AWP.scope ?_ | refine AWP.label ?_)
    refine AWP.ret ?_
    refine ⟨_, _, rfl, rfl, Heap.le_refl _, ?_, ?_⟩
    · simp only [dtake, if_neg he, if_neg hp, if_pos h0, List.getD_eq_getElem?_getD, hke]; rfl
    · simp only [dtake, if_neg he, if_neg hp, if_pos h0]; exact hh
  have h0 : ¬ 0 < (vtake b).1 := by simp at h; omega
  obtain ⟨y1, y2, y3, y4⟩ := vtake_le (b.drop (vtake b).2.1)
  rw [List.length_drop] at y1
  have hD : dtake D b = (let u := (vtake b).2.1
    let y := vtake (b.drop u)
    if y.2.2 ≠ 0 then ([], 0, y.2.2, D)
    else if y.1 > 64 then ([], 0, 4, D)
    else if b.length - (u + y.2.1) < y.1 then ([], 0, 2, D)
    else
      let k := (b.take (u + y.2.1 + y.1)).drop (u + y.2.1)
      if (D.at k).isSome then ([], 0, 3, D) else (k, u + y.2.1 + y.1, 0, D.comes k)) := by
    simp only [dtake, if_neg he, if_neg hp, if_neg h0]
  rw [hD]
  clear hD
  generalize hu : (vtake b).2.1 = u at *
  generalize hy : vtake (b.drop u) = y at *
  obtain ⟨n, s, e⟩ := y
  simp only at y1 y2 y3 y4
  dsimp only
  repeat (first
    | refine AOps.op rfl rfl ?_ | refine AOps.load rfl rfl rfl rfl rfl ?_ | refine AOps.nil ?_ | refine AWP.seq ?_ | refine AWP.region ?_ | refine AWP.block ?_ | refine AWP.skip ?_ | refine AWP.exit ?_ | refine AWP.scope ?_ | refine AWP.label ?_)
  refine AOps.step rfl rfl (cutFrom u rfl rfl v1 ?_)
  refine AOps.call rfl rfl rfl ((Take_spec (b.drop u) .no H (by rw [List.length_drop]; omega)).mono ?_)
  rintro _ H ⟨rfl, rfl⟩
  rw [hy]
  have es : IntKind.i64.wrap ((u : Int) + (s : Nat)) = ((u + s : Nat) : Int) := wrap_i64 (n := u + s) (by omega)
  repeat (first
    | refine AOps.op rfl rfl ?_ | refine AOps.load rfl rfl rfl rfl rfl ?_ | refine AOps.nil ?_ | refine AWP.seq ?_ | refine AWP.region ?_ | refine AWP.block ?_ | refine AWP.skip ?_ | refine AWP.exit ?_ | refine AWP.scope ?_ | refine AWP.label ?_)
  refine AWP.cond rfl (fun h => ?_) (fun h => ?_)
  · have he : e ≠ 0 := by simp at h; omega
    repeat (first
    | refine AOps.op rfl rfl ?_ | refine AOps.load rfl rfl rfl rfl rfl ?_ | refine AOps.nil ?_ | refine AWP.seq ?_ | refine AWP.region ?_ | refine AWP.block ?_ | refine AWP.skip ?_ | refine AWP.exit ?_ | refine AWP.scope ?_ | refine AWP.label ?_)
    refine AWP.ret ?_
    refine ⟨_, _, rfl, rfl, Heap.le_refl _, ?_, ?_⟩
    · rw [if_pos he]; rfl
    · rw [if_pos he]; exact hh
  have he : ¬ e ≠ 0 := by simp at h; omega
  rw [if_neg he]
  repeat (first
    | refine AOps.op rfl rfl ?_ | refine AOps.load rfl rfl rfl rfl rfl ?_ | refine AOps.nil ?_ | refine AWP.seq ?_ | refine AWP.region ?_ | refine AWP.block ?_ | refine AWP.skip ?_ | refine AWP.exit ?_ | refine AWP.scope ?_ | refine AWP.label ?_)
  refine AWP.cond rfl (fun h => ?_) (fun h => ?_)
  · have h64 : n > 64 := by simp at h; omega
    repeat (first
    | refine AOps.op rfl rfl ?_ | refine AOps.load rfl rfl rfl rfl rfl ?_ | refine AOps.nil ?_ | refine AWP.seq ?_ | refine AWP.region ?_ | refine AWP.block ?_ | refine AWP.skip ?_ | refine AWP.exit ?_ | refine AWP.scope ?_ | refine AWP.label ?_)
    refine AWP.ret ?_
    refine ⟨_, _, rfl, rfl, Heap.le_refl _, ?_, ?_⟩
    · rw [if_pos h64]; rfl
    · rw [if_pos h64]; exact hh
  have h64 : ¬ n > 64 := by simp at h; omega
  rw [if_neg h64]
  have en : IntKind.i64.wrap (n : Int) = (n : Int) := wrap_i64 (by omega)
  have elen := encB_length b
  have ed : IntKind.i64.wrap (((encB b).length : Int) - IntKind.i64.wrap ((u : Int) + (s : Nat))) = (b.length : Int) - (u + s : Nat) := by rw [es, elen]; exact wrap_i64' (by omega) (by omega)
  repeat (first
    | refine AOps.op rfl rfl ?_ | refine AOps.load rfl rfl rfl rfl rfl ?_ | refine AOps.nil ?_ | refine AWP.seq ?_ | refine AWP.region ?_ | refine AWP.block ?_ | refine AWP.skip ?_ | refine AWP.exit ?_ | refine AWP.scope ?_ | refine AWP.label ?_)
  refine AWP.cond rfl (fun h => ?_) (fun h => ?_)
  · have hs : b.length - (u + s) < n := by rw [ed, en] at h; simp at h; omega
    repeat (first
    | refine AOps.op rfl rfl ?_ | refine AOps.load rfl rfl rfl rfl rfl ?_ | refine AOps.nil ?_ | refine AWP.seq ?_ | refine AWP.region ?_ | refine AWP.block ?_ | refine AWP.skip ?_ | refine AWP.exit ?_ | refine AWP.scope ?_ | refine AWP.label ?_)
    refine AWP.ret ?_
    refine ⟨_, _, rfl, rfl, Heap.le_refl _, ?_, ?_⟩
    · rw [if_pos hs]; rfl
    · rw [if_pos hs]; exact hh
  have hs : ¬ b.length - (u + s) < n := by rw [ed, en] at h; simp at h; omega
  rw [if_neg hs]
  have e9 : IntKind.i64.wrap (IntKind.i64.wrap ((u : Int) + (s : Nat)) + IntKind.i64.wrap (n : Int)) = ((u + s + n : Nat) : Int) := by rw [es, en]; exact wrap_i64 (n := u + s + n) (by omega)
  repeat (first
    | refine AOps.op rfl rfl ?_ | refine AOps.load rfl rfl rfl rfl rfl ?_ | refine AOps.nil ?_ | refine AWP.seq ?_ | refine AWP.region ?_ | refine AWP.block ?_ | refine AWP.skip ?_ | refine AWP.exit ?_ | refine AWP.scope ?_ | refine AWP.label ?_)
  refine AOps.step rfl rfl (cutB (u + s) (u + s + n) rfl (congrArg (fun x => some (AV.int .i64 x)) es) (congrArg (fun x => some (AV.int .i64 x)) e9) (by omega) (by omega) ?_)
  refine AOps.toStr rfl rfl rfl rfl rfl rfl rfl rfl ?_
  generalize hk : (b.take (u + s + n)).drop (u + s) = k at *
  repeat (first
    | refine AOps.op rfl rfl ?_ | refine AOps.load rfl rfl rfl rfl rfl ?_ | refine AOps.nil ?_ | refine AWP.seq ?_ | refine AWP.region ?_ | refine AWP.block ?_ | refine AWP.skip ?_ | refine AWP.exit ?_ | refine AWP.scope ?_ | refine AWP.label ?_)
  refine AOps.call rfl rfl rfl ((At_spec d D k H hh).mono ?_)
  rintro _ H ⟨rfl, rfl⟩
  repeat (first
    | refine AOps.op rfl rfl ?_ | refine AOps.load rfl rfl rfl rfl rfl ?_ | refine AOps.nil ?_ | refine AWP.seq ?_ | refine AWP.region ?_ | refine AWP.block ?_ | refine AWP.skip ?_ | refine AWP.exit ?_ | refine AWP.scope ?_ | refine AWP.label ?_)
  cases ek : D.at k with
  | some i =>
    have ei : atN D k = (i : Int) := by simp [atN, ek]
    rw [ei]
    refine AWP.cond rfl (fun _ => ?_) (fun h => by simp at h)
    repeat (first
    | refine AOps.op rfl rfl ?_ | refine AOps.load rfl rfl rfl rfl rfl ?_ | refine AOps.nil ?_ | refine AWP.seq ?_ | refine AWP.region ?_ | refine AWP.block ?_ | refine AWP.skip ?_ | refine AWP.exit ?_ | refine AWP.scope ?_ | refine AWP.label ?_)
    refine AWP.ret ?_
    exact ⟨_, _, rfl, rfl, Heap.le_refl _, rfl, hh⟩
  | none =>
    have ei : atN D k = -1 := by simp [atN, ek]
    rw [ei]
    refine AWP.cond rfl (fun h => by simp at h) (fun _ => ?_)
    repeat (first
    | refine AOps.op rfl rfl ?_ | refine AOps.load rfl rfl rfl rfl rfl ?_ | refine AOps.nil ?_ | refine AWP.seq ?_ | refine AWP.region ?_ | refine AWP.block ?_ | refine AWP.skip ?_ | refine AWP.exit ?_ | refine AWP.scope ?_ | refine AWP.label ?_)
    refine AOps.call rfl rfl rfl ((comes_spec d D k H hh ek).mono ?_)
    intro r H2 hc
    repeat (first
    | refine AOps.op rfl rfl ?_ | refine AOps.load rfl rfl rfl rfl rfl ?_ | refine AOps.nil ?_ | refine AWP.seq ?_ | refine AWP.region ?_ | refine AWP.block ?_ | refine AWP.skip ?_ | refine AWP.exit ?_ | refine AWP.scope ?_ | refine AWP.label ?_)
    refine AWP.ret ?_
    refine ⟨_, _, rfl, rfl, Heap.le_refl _, ?_, hc⟩
    show AV.tuple [_, .int .i64 (IntKind.i64.wrap (IntKind.i64.wrap ((u : Int) + (s : Nat)) + IntKind.i64.wrap (n : Int))), _] = _
    rw [e9]; rfl
end Go.Proofs.Ytlbnhokhhangdaa

/- The package dict: new ones, copies. -/
namespace Go.Proofs.Ytlbnhokhhangdaa
open Go Go.Am Go.Pk Go.Lib
set_option linter.unusedVariables false
set_option maxRecDepth 10000
attribute [local irreducible] AOps AWP DRun ACalls

theorem dNew_spec (H : Heap) : ACalls Q.prog 40 [] H fun r H' => ∃ d, r = .ptr d 0 ∧ H d = none ∧ H.le H' ∧ DictAt (H'.minus H) d Dic.nil := by
  refine ACalls.body (N := 4) Try.func40 rfl rfl rfl rfl ?_
  repeat (first
    | refine AOps.op rfl rfl ?_ | refine AOps.load rfl rfl rfl rfl rfl ?_ | refine AOps.nil ?_ | refine AWP.seq ?_ | refine AWP.region ?_ | refine AWP.block ?_ | refine AWP.skip ?_ | refine AWP.exit ?_ | refine AWP.scope ?_ | refine AWP.label ?_)
  refine AOps.step rfl rfl (OpT.makeMap fun m hm => ?_)
  repeat (first
    | refine AOps.op rfl rfl ?_ | refine AOps.load rfl rfl rfl rfl rfl ?_ | refine AOps.nil ?_ | refine AWP.seq ?_ | refine AWP.region ?_ | refine AWP.block ?_ | refine AWP.skip ?_ | refine AWP.exit ?_ | refine AWP.scope ?_ | refine AWP.label ?_)
  refine AOps.boxH rfl rfl rfl rfl fun d hd => ?_
  have hdm : d ≠ m := by rintro rfl; rw [Heap.set_same] at hd; cases hd
  have hd0 : H d = none := by rwa [Heap.set_ne _ _ hdm] at hd
  repeat (first
    | refine AOps.op rfl rfl ?_ | refine AOps.load rfl rfl rfl rfl rfl ?_ | refine AOps.nil ?_ | refine AWP.seq ?_ | refine AWP.region ?_ | refine AWP.block ?_ | refine AWP.skip ?_ | refine AWP.exit ?_ | refine AWP.scope ?_ | refine AWP.label ?_)
  refine AWP.ret ?_
  refine ⟨_, _, rfl, rfl, Heap.le_refl _, d, rfl, hd0, (Heap.le_set hm).trans (Heap.le_set hd), Dic.nil_ok, m, .sl [] .full, [], 0, ?_, ?_, ?_, .inl ⟨rfl, rfl⟩⟩
  · simp only [Heap.minus, hd0, Heap.set_same]; rfl
  · simp only [Heap.minus, hm]; rw [Heap.set_ne _ _ (Ne.symm hdm), Heap.set_same]; rfl
  · refine ⟨List.nodup_nil, by simp, List.nodup_nil, ?_⟩
    intro k i
    simp [Dic.nil]

theorem sClone_spec (ks : List Str) (v : AV) (H : Heap) (h : KS H ks v) (hl : ks.length ≤ 8) :
    ACalls Q.prog 68 [v] H fun r H' => H.le H' ∧ KS (H'.minus H) ks r := by
  refine ACalls.body (N := 8) Try.func68 rfl rfl rfl rfl ?_
  repeat (first
    | refine AOps.op rfl rfl ?_ | refine AOps.load rfl rfl rfl rfl rfl ?_ | refine AOps.nil ?_ | refine AWP.seq ?_ | refine AWP.region ?_ | refine AWP.block ?_ | refine AWP.skip ?_ | refine AWP.exit ?_ | refine AWP.scope ?_ | refine AWP.label ?_)
  refine AOps.step rfl rfl (OpT.nilSl rfl rfl rfl (.inl rfl) ?_ fun r q1 q2 => ?_)
  · rcases h with ⟨-, rfl⟩ | ⟨g, rfl, -⟩
    · exact .inl ⟨_, _, rfl⟩
    · exact .inr ⟨_, _, _, rfl⟩
  repeat (first
    | refine AOps.op rfl rfl ?_ | refine AOps.load rfl rfl rfl rfl rfl ?_ | refine AOps.nil ?_ | refine AWP.seq ?_ | refine AWP.region ?_ | refine AWP.block ?_ | refine AWP.skip ?_ | refine AWP.exit ?_ | refine AWP.scope ?_ | refine AWP.label ?_)
  refine AWP.cond rfl (fun hr => ?_) (fun hr => ?_)
  · have hr : r = true := by simpa using hr
    subst hr
    repeat (first
    | refine AOps.op rfl rfl ?_ | refine AOps.load rfl rfl rfl rfl rfl ?_ | refine AOps.nil ?_ | refine AWP.seq ?_ | refine AWP.region ?_ | refine AWP.block ?_ | refine AWP.skip ?_ | refine AWP.exit ?_ | refine AWP.scope ?_ | refine AWP.label ?_)
    refine AWP.ret ?_
    refine ⟨_, _, rfl, rfl, Heap.le_refl _, Heap.le_refl _, ?_⟩
    rcases h with ⟨rfl, rfl⟩ | ⟨g, rfl, -⟩
    · exact .inl ⟨rfl, rfl⟩
    · have := q2 _ _ _ rfl; cases this
  · repeat (first
    | refine AOps.op rfl rfl ?_ | refine AOps.load rfl rfl rfl rfl rfl ?_ | refine AOps.nil ?_ | refine AWP.seq ?_ | refine AWP.region ?_ | refine AWP.block ?_ | refine AWP.skip ?_ | refine AWP.exit ?_ | refine AWP.scope ?_ | refine AWP.label ?_)
    refine AOps.buildSlice (els := []) rfl rfl rfl ?_
    repeat (first
    | refine AOps.op rfl rfl ?_ | refine AOps.load rfl rfl rfl rfl rfl ?_ | refine AOps.nil ?_ | refine AWP.seq ?_ | refine AWP.region ?_ | refine AWP.block ?_ | refine AWP.skip ?_ | refine AWP.exit ?_ | refine AWP.scope ?_ | refine AWP.label ?_)
    refine AOps.step rfl rfl (OpT.appendM (sv := .sl [] .full) (old := []) (new := ks.map .str) (H0 := H) rfl rfl rfl rfl rfl rfl rfl rfl (.inl ⟨rfl, rfl, rfl⟩) (Els.nil _) (els_str _) ?_ ?_ ?_ ?_ ?_)
    · rcases h with ⟨rfl, rfl⟩ | ⟨g, rfl, hg⟩
      · exact SrcOk.of rfl (els_str _)
      · exact SrcOk.msl hg (by simp) (by rw [flat_str, List.take_of_length_le (by simp)]) (els_str _) (by simp)
    · simp [maxLen]; omega
    · simp; omega
    · intro e _
      have e : ks = [] := by simpa using e
      subst e
      repeat (first
    | refine AOps.op rfl rfl ?_ | refine AOps.load rfl rfl rfl rfl rfl ?_ | refine AOps.nil ?_ | refine AWP.seq ?_ | refine AWP.region ?_ | refine AWP.block ?_ | refine AWP.skip ?_ | refine AWP.exit ?_ | refine AWP.scope ?_ | refine AWP.label ?_)
      refine AWP.ret ?_
      exact ⟨_, _, rfl, rfl, Heap.le_refl _, Heap.le_refl _, .inl ⟨rfl, rfl⟩⟩
    · intro b hb
      rw [List.nil_append, flat_str]
      repeat (first
    | refine AOps.op rfl rfl ?_ | refine AOps.load rfl rfl rfl rfl rfl ?_ | refine AOps.nil ?_ | refine AWP.seq ?_ | refine AWP.region ?_ | refine AWP.block ?_ | refine AWP.skip ?_ | refine AWP.exit ?_ | refine AWP.scope ?_ | refine AWP.label ?_)
      refine AWP.ret ?_
      refine ⟨_, _, rfl, rfl, Heap.le_refl _, Heap.le_set hb, .inr ⟨b, by simp, ?_⟩⟩
      simp only [Heap.minus, hb, Heap.set_same]
theorem mClone_spec (m : Nat) (es : Ents) (clock : Nat) (H : Heap) (h : H m = some (.map es clock)) :
    ACalls Q.prog 69 [.map m] H fun r H' => ∃ b, r = .map b ∧ H b = none ∧ H' = H.set b (.map es clock) := by
  refine ACalls.body (N := 9) Try.func69 rfl rfl rfl rfl ?_
  repeat (first
    | refine AOps.op rfl rfl ?_ | refine AOps.load rfl rfl rfl rfl rfl ?_ | refine AOps.nil ?_ | refine AWP.seq ?_ | refine AWP.region ?_ | refine AWP.block ?_ | refine AWP.skip ?_ | refine AWP.exit ?_ | refine AWP.scope ?_ | refine AWP.label ?_)
  refine AOps.step rfl rfl (OpT.nilMap (r := false) rfl rfl rfl (.inl rfl) (.inr ⟨rfl, _, rfl⟩) ?_)
  repeat (first
    | refine AOps.op rfl rfl ?_ | refine AOps.load rfl rfl rfl rfl rfl ?_ | refine AOps.nil ?_ | refine AWP.seq ?_ | refine AWP.region ?_ | refine AWP.block ?_ | refine AWP.skip ?_ | refine AWP.exit ?_ | refine AWP.scope ?_ | refine AWP.label ?_)
  refine AWP.cond rfl (fun hr => by simp at hr) (fun hr => ?_)
  repeat (first
    | refine AOps.op rfl rfl ?_ | refine AOps.load rfl rfl rfl rfl rfl ?_ | refine AOps.nil ?_ | refine AWP.seq ?_ | refine AWP.region ?_ | refine AWP.block ?_ | refine AWP.skip ?_ | refine AWP.exit ?_ | refine AWP.scope ?_ | refine AWP.label ?_)
  refine AOps.step rfl rfl (OpT.makeInterface rfl (by kernel_rfl) ?_)
  refine AOps.step rfl rfl (OpT.mapsClone (fn := Try.f81) (by kernel_rfl) (by kernel_rfl) (by kernel_rfl) (by kernel_rfl) (by kernel_rfl) rfl h fun b hb => ?_)
  refine AOps.step rfl rfl (OpT.typeAssertMap rfl rfl rfl ?_)
  repeat (first
    | refine AOps.op rfl rfl ?_ | refine AOps.load rfl rfl rfl rfl rfl ?_ | refine AOps.nil ?_ | refine AWP.seq ?_ | refine AWP.region ?_ | refine AWP.block ?_ | refine AWP.skip ?_ | refine AWP.exit ?_ | refine AWP.scope ?_ | refine AWP.label ?_)
  refine AWP.ret ?_
  exact ⟨_, _, rfl, rfl, Heap.le_refl _, b, rfl, hb, rfl⟩
end Go.Proofs.Ytlbnhokhhangdaa

/- The package dict: copies; as at first. -/
namespace Go.Proofs.Ytlbnhokhhangdaa
open Go Go.Am Go.Pk Go.Lib
set_option linter.unusedVariables false
set_option maxRecDepth 10000
attribute [local irreducible] AOps AWP DRun ACalls

theorem minus_mono {H A B : Heap} (h : A.le B) : (A.minus H).le (B.minus H) := by
  intro b x e
  simp only [Heap.minus] at e ⊢
  cases q : H b with
  | some y => rw [q] at e; cases e
  | none => rw [q] at e; exact h b x e

theorem KS.mono {H H' : Heap} {ks v} (h : KS H ks v) (hl : H.le H') : KS H' ks v := by
  rcases h with h | ⟨g, h1, h2⟩
  · exact .inl h
  · exact .inr ⟨g, h1, hl _ _ h2⟩

theorem KS.free {H : Heap} {ks v} (h : KS H ks v) : v.free = true ∧ v.known = true ∧ v.one = true := by
  rcases h with ⟨-, rfl⟩ | ⟨g, rfl, -⟩ <;> exact ⟨rfl, rfl, rfl⟩

theorem dCopy_spec (d : Nat) (D : Dic) (H : Heap) (h : DictAt H d D) : ACalls Q.prog 49 [.ptr d 0] H fun r H' => ∃ d2, r = .ptr d2 0 ∧ H.le H' ∧ DictAt (H'.minus H) d2 D := by
  have hl8 : D.keys.length ≤ 8 := by have := h.1.1; omega
  obtain ⟨hok, m, ks, l, clock, h1, h2, h3, h4⟩ := h
  refine ACalls.body (N := 19) Try.func49 rfl rfl rfl rfl ?_
  repeat (first
    | refine AOps.op rfl rfl ?_ | refine AOps.load rfl rfl rfl rfl rfl ?_ | refine AOps.nil ?_ | refine AWP.seq ?_ | refine AWP.region ?_ | refine AWP.block ?_ | refine AWP.skip ?_ | refine AWP.exit ?_ | refine AWP.scope ?_ | refine AWP.label ?_)
  refine AWP.draw [[], [0], [0, 1], [0, 1, 2], [0, 1, 2, 3], [], [5], [5, 6], [5, 6, 7], [0, 1, 2, 3, 4, 5, 6, 7, 8], [], [10], [10, 11], [10, 11, 12], [0, 1, 2, 3, 4, 5, 6, 7, 8, 9, 10, 11, 12, 13], [0, 1, 2, 3, 4, 5, 6, 7, 8, 9, 10, 11, 12, 13, 14], [0, 1, 2, 3, 4, 5, 6, 7, 8, 9, 10, 11, 12, 13, 14, 15]] [(0, .pure), (1, .pure), (2, .pure), (3, .read), (5, .pure), (6, .pure), (7, .pure), (8, .read), (10, .pure), (11, .pure), (12, .pure), (13, .read), (4, .eff), (9, .eff), (14, .pure), (15, .eff), (16, .pure)] rfl ?_
  repeat (first | refine DRun.op rfl rfl rfl ?_ | refine DRun.loadI rfl rfl rfl rfl rfl ?_ | refine DRun.load rfl rfl rfl rfl rfl rfl ?_ | refine DRun.nil ?_)
  refine DRun.load rfl rfl rfl (cellsAt_ptr h1) rfl rfl ?_
  repeat (first | refine DRun.op rfl rfl rfl ?_ | refine DRun.loadI rfl rfl rfl rfl rfl ?_ | refine DRun.load rfl rfl rfl rfl rfl rfl ?_ | refine DRun.nil ?_)
  refine DRun.load rfl rfl rfl (cellsAt_ptr h1) rfl rfl ?_
  repeat (first | refine DRun.op rfl rfl rfl ?_ | refine DRun.loadI rfl rfl rfl rfl rfl ?_ | refine DRun.load rfl rfl rfl rfl rfl rfl ?_ | refine DRun.nil ?_)
  refine DRun.load rfl rfl rfl (cellsAt_ptr h1) rfl rfl ?_
  refine DRun.eff rfl rfl rfl (OpT.callF rfl (by simp [AV.frees, h4.free.1]) ((sClone_spec D.keys ks H h4 hl8).mono ?_))
  rintro v H2 ⟨k1, k2⟩
  refine ⟨?_, ?_⟩
  · repeat (first | exact Chk.nil | refine Chk.pre rfl ?_ | refine Chk.load rfl (cellsAt_ptr (k1 _ _ h1)) rfl rfl ?_)
  refine DRun.eff rfl rfl rfl (OpT.callF rfl rfl ((mClone_spec m _ _ H2 (k1 _ _ h2)).mono ?_))
  rintro _ H3 ⟨m2, rfl, k3, rfl⟩
  have hle3 : H2.le (H2.set m2 (.map (mEnt l) clock)) := Heap.le_set k3
  refine ⟨?_, ?_⟩
  · repeat (first | exact Chk.nil | refine Chk.pre rfl ?_ | refine Chk.load rfl (cellsAt_ptr (hle3 _ _ (k1 _ _ h1))) rfl rfl ?_)
  have hm2 : H m2 = none := by
    cases e : H m2 with
    | none => rfl
    | some x => rw [k1 _ _ e] at k3; cases k3
  have fin : ∀ b, (H2.set m2 (.map (mEnt l) clock)) b = none → H.le ((H2.set m2 (.map (mEnt l) clock)).set b (.box [v, .map m2, .int .i64 (D.eldest : Nat)])) ∧
      DictAt (((H2.set m2 (.map (mEnt l) clock)).set b (.box [v, .map m2, .int .i64 (D.eldest : Nat)])).minus H) b D := by
    intro b hb
    have hbm : b ≠ m2 := by rintro rfl; rw [Heap.set_same] at hb; cases hb
    have hb2 : H2 b = none := by rwa [Heap.set_ne _ _ hbm] at hb
    have hb0 : H b = none := by
      cases e : H b with
      | none => rfl
      | some x => rw [k1 _ _ e] at hb2; cases hb2
    refine ⟨k1.trans (hle3.trans (Heap.le_set hb)), hok, m2, v, l, clock, ?_, ?_, h3, k2.mono (minus_mono (hle3.trans (Heap.le_set hb)))⟩
    · simp only [Heap.minus, hb0, Heap.set_same]
    · simp only [Heap.minus, hm2]; rw [Heap.set_ne _ _ (Ne.symm hbm), Heap.set_same]
  rcases k2 with ⟨e, rfl⟩ | ⟨g, rfl, hg⟩
  · repeat (first | refine DRun.op rfl rfl rfl ?_ | refine DRun.loadI rfl rfl rfl rfl rfl ?_ | refine DRun.load rfl rfl rfl rfl rfl rfl ?_ | refine DRun.nil ?_)
    refine DRun.eff rfl rfl rfl (OpT.boxH rfl rfl rfl fun b hb => ⟨?_, ?_⟩)
    · repeat (first | exact Chk.nil | refine Chk.pre rfl ?_)
    repeat (first | refine DRun.op rfl rfl rfl ?_ | refine DRun.loadI rfl rfl rfl rfl rfl ?_ | refine DRun.load rfl rfl rfl rfl rfl rfl ?_ | refine DRun.nil ?_)
    repeat (first
    | refine AOps.op rfl rfl ?_ | refine AOps.load rfl rfl rfl rfl rfl ?_ | refine AOps.nil ?_ | refine AWP.seq ?_ | refine AWP.region ?_ | refine AWP.block ?_ | refine AWP.skip ?_ | refine AWP.exit ?_ | refine AWP.scope ?_ | refine AWP.label ?_)
    refine AWP.ret ?_
    exact ⟨_, _, rfl, rfl, Heap.le_refl _, b, rfl, fin b hb⟩
  · repeat (first | refine DRun.op rfl rfl rfl ?_ | refine DRun.loadI rfl rfl rfl rfl rfl ?_ | refine DRun.load rfl rfl rfl rfl rfl rfl ?_ | refine DRun.nil ?_)
    refine DRun.eff rfl rfl rfl (OpT.boxH rfl rfl rfl fun b hb => ⟨?_, ?_⟩)
    · repeat (first | exact Chk.nil | refine Chk.pre rfl ?_)
    repeat (first | refine DRun.op rfl rfl rfl ?_ | refine DRun.loadI rfl rfl rfl rfl rfl ?_ | refine DRun.load rfl rfl rfl rfl rfl rfl ?_ | refine DRun.nil ?_)
    repeat (first
    | refine AOps.op rfl rfl ?_ | refine AOps.load rfl rfl rfl rfl rfl ?_ | refine AOps.nil ?_ | refine AWP.seq ?_ | refine AWP.region ?_ | refine AWP.block ?_ | refine AWP.skip ?_ | refine AWP.exit ?_ | refine AWP.scope ?_ | refine AWP.label ?_)
    refine AWP.ret ?_
    exact ⟨_, _, rfl, rfl, Heap.le_refl _, b, rfl, fin b hb⟩
end Go.Proofs.Ytlbnhokhhangdaa

/- The package dict: as at first. -/
namespace Go.Proofs.Ytlbnhokhhangdaa
open Go Go.Am Go.Pk Go.Lib
set_option linter.unusedVariables false
set_option maxRecDepth 10000
attribute [local irreducible] AOps AWP DRun ACalls

theorem dReset_spec (d : Nat) (D : Dic) (H : Heap) (h : DictAt H d D) : ACalls Q.prog 58 [.ptr d 0] H fun r H' => DictAt H' d Dic.nil := by
  obtain ⟨hok, m, ks, l, clock, h1, h2, h3, h4⟩ := h
  refine ACalls.body (N := 7) Try.func58 rfl rfl rfl rfl ?_
  repeat (first
    | refine AOps.op rfl rfl ?_ | refine AOps.load rfl rfl rfl rfl rfl ?_ | refine AOps.nil ?_ | refine AWP.seq ?_ | refine AWP.region ?_ | refine AWP.block ?_ | refine AWP.skip ?_ | refine AWP.exit ?_ | refine AWP.scope ?_ | refine AWP.label ?_)
  refine AOps.call rfl rfl rfl ((dNew_spec H).mono ?_)
  rintro _ H2 ⟨d2, rfl, hd2, hle, hok2, m2, ks2, l2, clock2, q1, q2, q3, q4⟩
  have hmin : (H2.minus H).le H2 := fun b x e => by
    simp only [Heap.minus] at e
    cases c : H b with
    | some y => rw [c] at e; cases e
    | none => rw [c] at e; exact e
  have hm2 : H m2 = none := by
    cases c : H m2 with
    | none => rfl
    | some y => simp only [Heap.minus, c] at q2; cases q2
  have q1' := hmin _ _ q1
  have q2' := hmin _ _ q2
  rcases q4 with ⟨-, rfl⟩ | ⟨g, rfl, hg⟩
  · repeat (first
    | refine AOps.op rfl rfl ?_ | refine AOps.load rfl rfl rfl rfl rfl ?_ | refine AOps.nil ?_ | refine AWP.seq ?_ | refine AWP.region ?_ | refine AWP.block ?_ | refine AWP.skip ?_ | refine AWP.exit ?_ | refine AWP.scope ?_ | refine AWP.label ?_)
    refine AOps.load rfl (cellsAt_ptr q1') rfl rfl rfl ?_
    repeat (first
    | refine AOps.op rfl rfl ?_ | refine AOps.load rfl rfl rfl rfl rfl ?_ | refine AOps.nil ?_ | refine AWP.seq ?_ | refine AWP.region ?_ | refine AWP.block ?_ | refine AWP.skip ?_ | refine AWP.exit ?_ | refine AWP.scope ?_ | refine AWP.label ?_)
    refine AOps.storeH rfl rfl rfl (hle _ _ h1) rfl rfl ?_
    repeat (first
    | refine AOps.op rfl rfl ?_ | refine AOps.load rfl rfl rfl rfl rfl ?_ | refine AOps.nil ?_ | refine AWP.seq ?_ | refine AWP.region ?_ | refine AWP.block ?_ | refine AWP.skip ?_ | refine AWP.exit ?_ | refine AWP.scope ?_ | refine AWP.label ?_)
    refine ⟨_, _, rfl, rfl, Heap.le_refl _, Dic.nil_ok, m2, _, l2, clock2, Heap.set_same _ _ _, ?_, q3, .inl ⟨rfl, rfl⟩⟩
    rw [Heap.set_ne]
    · exact q2'
    · rintro rfl; rw [h1] at hm2; cases hm2
  · have hg2 : H g = none := by
      cases c : H g with
      | none => rfl
      | some y => simp only [Heap.minus, c] at hg; cases hg
    repeat (first
    | refine AOps.op rfl rfl ?_ | refine AOps.load rfl rfl rfl rfl rfl ?_ | refine AOps.nil ?_ | refine AWP.seq ?_ | refine AWP.region ?_ | refine AWP.block ?_ | refine AWP.skip ?_ | refine AWP.exit ?_ | refine AWP.scope ?_ | refine AWP.label ?_)
    refine AOps.load rfl (cellsAt_ptr q1') rfl rfl rfl ?_
    repeat (first
    | refine AOps.op rfl rfl ?_ | refine AOps.load rfl rfl rfl rfl rfl ?_ | refine AOps.nil ?_ | refine AWP.seq ?_ | refine AWP.region ?_ | refine AWP.block ?_ | refine AWP.skip ?_ | refine AWP.exit ?_ | refine AWP.scope ?_ | refine AWP.label ?_)
    refine AOps.storeH rfl rfl rfl (hle _ _ h1) rfl rfl ?_
    repeat (first
    | refine AOps.op rfl rfl ?_ | refine AOps.load rfl rfl rfl rfl rfl ?_ | refine AOps.nil ?_ | refine AWP.seq ?_ | refine AWP.region ?_ | refine AWP.block ?_ | refine AWP.skip ?_ | refine AWP.exit ?_ | refine AWP.scope ?_ | refine AWP.label ?_)
    refine ⟨_, _, rfl, rfl, Heap.le_refl _, Dic.nil_ok, m2, _, l2, clock2, Heap.set_same _ _ _, ?_, q3, .inr ⟨g, rfl, ?_⟩⟩
    · rw [Heap.set_ne]
      · exact q2'
      · rintro rfl; rw [h1] at hm2; cases hm2
    · rw [Heap.set_ne]
      · exact hmin _ _ hg
      · rintro rfl; rw [h1] at hg2; cases hg2
end Go.Proofs.Ytlbnhokhhangdaa

/- The package txn: may a transaction be? -/
namespace Go.Proofs.Ytlbnhokhhangdaa
open Go Go.Am Go.Pk Go.Lib
set_option linter.unusedVariables false
set_option maxRecDepth 10000
attribute [local irreducible] AOps AWP DRun ACalls

abbrev wr (w : Wr) : AV := .agg [.str w.key, .str w.value, .bool w.gone]
abbrev tx (t : Txn) (tag : Tag) : AV := .agg [.int .i64 t.origin, .int .i64 t.seq, .int .i64 t.deps.a, .int .i64 t.deps.b, .int .i64 t.deps.c, .sl (t.writes.map wr) tag]

theorem long_spec (w : Wr) (H : Heap) : ACalls Q.prog 47 [wr w] H fun r H' => r = .bool w.long ∧ H' = H := by
  obtain ⟨k, v, g⟩ := w
  refine ACalls.body (N := 13) Try.func47 rfl rfl rfl rfl ?_
  repeat (first | refine AOps.op rfl rfl ?_ | refine AOps.load rfl rfl rfl rfl rfl ?_)
  refine AWP.seq (AWP.region ?_)
  refine AOps.boxL 0 rfl rfl rfl rfl rfl ?_
  repeat (first
    | refine AOps.op rfl rfl ?_ | refine AOps.load rfl rfl rfl rfl rfl ?_ | refine AOps.nil ?_ | refine AWP.seq ?_ | refine AWP.region ?_ | refine AWP.block ?_ | refine AWP.skip ?_ | refine AWP.exit ?_ | refine AWP.scope ?_ | refine AWP.label ?_)
  refine AOps.or (j := 4) (y := decide ((v.length : Int) > 256)) [_, _, _, _] rfl rfl rfl rfl rfl rfl rfl (fun hb => ?_) ?_
  · repeat (first | refine AOps.unguard rfl rfl (by assumption) ?_ | refine AOps.op rfl rfl ?_ | refine AOps.load rfl rfl rfl rfl rfl ?_)
    exact AOps.nil (GuardEnd.of 4 rfl rfl rfl rfl rfl)
  repeat (first
    | refine AOps.op rfl rfl ?_ | refine AOps.load rfl rfl rfl rfl rfl ?_ | refine AOps.nil ?_ | refine AWP.seq ?_ | refine AWP.region ?_ | refine AWP.block ?_ | refine AWP.skip ?_ | refine AWP.exit ?_ | refine AWP.scope ?_ | refine AWP.label ?_)
  refine AWP.ret ?_
  refine ⟨_, _, rfl, rfl, Heap.le_refl _, ?_, rfl⟩
  refine congrArg AV.bool ?_
  rw [Bool.eq_iff_iff]
  simp [Wr.long]
  omega

theorem odd_spec (w : Wr) (H : Heap) : ACalls Q.prog 48 [wr w] H fun r H' => r = .bool w.odd ∧ H' = H := by
  obtain ⟨k, v, g⟩ := w
  refine ACalls.body (N := 10) Try.func48 rfl rfl rfl rfl ?_
  repeat (first | refine AOps.op rfl rfl ?_ | refine AOps.load rfl rfl rfl rfl rfl ?_)
  refine AWP.seq (AWP.region ?_)
  refine AOps.boxL 0 rfl rfl rfl rfl rfl ?_
  repeat (first
    | refine AOps.op rfl rfl ?_ | refine AOps.load rfl rfl rfl rfl rfl ?_ | refine AOps.nil ?_ | refine AWP.seq ?_ | refine AWP.region ?_ | refine AWP.block ?_ | refine AWP.skip ?_ | refine AWP.exit ?_ | refine AWP.scope ?_ | refine AWP.label ?_)
  refine AOps.and (j := 2) (y := !(v == [])) [_, _, _] rfl rfl rfl rfl rfl rfl rfl (fun hb => ?_) ?_
  · repeat (first | refine AOps.unguard rfl rfl (by assumption) ?_ | refine AOps.op rfl rfl ?_ | refine AOps.load rfl rfl rfl rfl rfl ?_)
    exact AOps.nil (GuardEnd.of 3 rfl rfl rfl rfl rfl)
  repeat (first
    | refine AOps.op rfl rfl ?_ | refine AOps.load rfl rfl rfl rfl rfl ?_ | refine AOps.nil ?_ | refine AWP.seq ?_ | refine AWP.region ?_ | refine AWP.block ?_ | refine AWP.skip ?_ | refine AWP.exit ?_ | refine AWP.scope ?_ | refine AWP.label ?_)
  refine AWP.ret ?_
  exact ⟨_, _, rfl, rfl, Heap.le_refl _, rfl, rfl⟩

theorem Index_spec (ws : List Wr) (tag : Tag) (f : FuncId) (p : Wr → Bool) (hf : ∀ w H, ACalls Q.prog f [wr w] H fun r H' => r = .bool (p w) ∧ H' = H) (hl : ws.length < 2 ^ 40) (H : Heap) :
    ACalls Q.prog 67 [.sl (ws.map wr) tag, .func f [] []] H fun r H' => (∃ n : Int, r = .int .i64 n ∧ (0 ≤ n ↔ ws.any p = true)) ∧ H' = H := by
  refine ACalls.body (N := 19) Try.func67 rfl rfl rfl rfl ?_
  repeat (first
    | refine AOps.op rfl rfl ?_ | refine AOps.load rfl rfl rfl rfl rfl ?_ | refine AOps.nil ?_ | refine AWP.seq ?_ | refine AWP.region ?_ | refine AWP.block ?_ | refine AWP.skip ?_ | refine AWP.exit ?_ | refine AWP.scope ?_ | refine AWP.label ?_)
  refine AWP.loopA (α := Nat) (fun i => i ≤ ws.length ∧ (ws.take i).any p = false) (fun i => ws.length - i)
    (fun i => [(0, .sl (ws.map wr) tag), (1, .func f [] []), (7, .int .i64 ws.length), (8, .int .i64 i)]) (fun _ => []) (fun _ => H) 0 ⟨by simp, by simp⟩ ⟨rfl, rfl, ?_, rfl, trivial⟩ rfl (Heap.le_refl _) ?_
  · exact congrArg (fun n : Nat => some (AV.int .i64 n)) (List.length_map _)
  rintro i ⟨h1, h2⟩
  repeat (first
    | refine AOps.op rfl rfl ?_ | refine AOps.load rfl rfl rfl rfl rfl ?_ | refine AOps.nil ?_ | refine AWP.seq ?_ | refine AWP.region ?_ | refine AWP.block ?_ | refine AWP.skip ?_ | refine AWP.exit ?_ | refine AWP.scope ?_ | refine AWP.label ?_)
  refine AWP.cond rfl (fun h => ?_) (fun h => ?_)
  · have h : i < ws.length := by simp at h; omega
    have ei : IntKind.i64.wrap ((i : Int) + 1) = ((i + 1 : Nat) : Int) := wrap_i64 (n := i + 1) (by omega)
    obtain ⟨c, hc⟩ : ∃ c, ws[i]? = some c := ⟨ws[i], List.getElem?_eq_getElem h⟩
    repeat (first
    | refine AOps.op rfl rfl ?_ | refine AOps.load rfl rfl rfl rfl rfl ?_ | refine AOps.nil ?_ | refine AWP.seq ?_ | refine AWP.region ?_ | refine AWP.block ?_ | refine AWP.skip ?_ | refine AWP.exit ?_ | refine AWP.scope ?_ | refine AWP.label ?_)
    refine AOps.indexSl (e := wr c) rfl rfl rfl rfl rfl rfl (by omega) (by simp [hc]) rfl rfl ?_
    repeat (first
    | refine AOps.op rfl rfl ?_ | refine AOps.load rfl rfl rfl rfl rfl ?_ | refine AOps.nil ?_ | refine AWP.seq ?_ | refine AWP.region ?_ | refine AWP.block ?_ | refine AWP.skip ?_ | refine AWP.exit ?_ | refine AWP.scope ?_ | refine AWP.label ?_)
    refine AOps.step rfl rfl (OpT.callV rfl rfl rfl ((hf c H).mono ?_))
    rintro _ H ⟨rfl, rfl⟩
    repeat (first
    | refine AOps.op rfl rfl ?_ | refine AOps.load rfl rfl rfl rfl rfl ?_ | refine AOps.nil ?_ | refine AWP.seq ?_ | refine AWP.region ?_ | refine AWP.block ?_ | refine AWP.skip ?_ | refine AWP.exit ?_ | refine AWP.scope ?_ | refine AWP.label ?_)
    refine AWP.cond rfl (fun h => ?_) (fun h => ?_)
    · repeat (first
    | refine AOps.op rfl rfl ?_ | refine AOps.load rfl rfl rfl rfl rfl ?_ | refine AOps.nil ?_ | refine AWP.seq ?_ | refine AWP.region ?_ | refine AWP.block ?_ | refine AWP.skip ?_ | refine AWP.exit ?_ | refine AWP.scope ?_ | refine AWP.label ?_)
      refine AWP.ret ?_
      refine ⟨_, _, rfl, rfl, Heap.le_refl _, ⟨i, rfl, ?_⟩, rfl⟩
      have : ws.any p = true := List.any_eq_true.2 ⟨c, List.mem_of_getElem? hc, h⟩
      simp [this]
    · repeat (first
    | refine AOps.op rfl rfl ?_ | refine AOps.load rfl rfl rfl rfl rfl ?_ | refine AOps.nil ?_ | refine AWP.seq ?_ | refine AWP.region ?_ | refine AWP.block ?_ | refine AWP.skip ?_ | refine AWP.exit ?_ | refine AWP.scope ?_ | refine AWP.label ?_)
      refine ⟨i + 1, by omega, ⟨by omega, ?_⟩, ⟨rfl, rfl, rfl, congrArg (fun x => some (AV.int .i64 x)) ei, trivial⟩, rfl, Heap.le_refl _⟩
      rw [List.take_add_one, hc, List.any_append, h2]
      simp [h]
  · have h : ws.length ≤ i := by simp at h; omega
    repeat (first
    | refine AOps.op rfl rfl ?_ | refine AOps.load rfl rfl rfl rfl rfl ?_ | refine AOps.nil ?_ | refine AWP.seq ?_ | refine AWP.region ?_ | refine AWP.block ?_ | refine AWP.skip ?_ | refine AWP.exit ?_ | refine AWP.scope ?_ | refine AWP.label ?_)
    refine AWP.ret ?_
    refine ⟨_, _, rfl, rfl, Heap.le_refl _, ⟨-1, rfl, ?_⟩, rfl⟩
    rw [List.take_of_length_le h] at h2
    simp [h2]

theorem Contains_spec (ws : List Wr) (tag : Tag) (f : FuncId) (p : Wr → Bool) (hf : ∀ w H, ACalls Q.prog f [wr w] H fun r H' => r = .bool (p w) ∧ H' = H) (hl : ws.length < 2 ^ 40) (H : Heap) :
    ACalls Q.prog 46 [.sl (ws.map wr) tag, .func f [] []] H fun r H' => r = .bool (ws.any p) ∧ H' = H := by
  refine ACalls.body (N := 9) Try.func46 rfl rfl rfl rfl ?_
  repeat (first
    | refine AOps.op rfl rfl ?_ | refine AOps.load rfl rfl rfl rfl rfl ?_ | refine AOps.nil ?_ | refine AWP.seq ?_ | refine AWP.region ?_ | refine AWP.block ?_ | refine AWP.skip ?_ | refine AWP.exit ?_ | refine AWP.scope ?_ | refine AWP.label ?_)
  refine AOps.call rfl rfl rfl ((Index_spec ws tag f p hf hl H).mono ?_)
  rintro _ H ⟨⟨n, rfl, hn⟩, rfl⟩
  repeat (first
    | refine AOps.op rfl rfl ?_ | refine AOps.load rfl rfl rfl rfl rfl ?_ | refine AOps.nil ?_ | refine AWP.seq ?_ | refine AWP.region ?_ | refine AWP.block ?_ | refine AWP.skip ?_ | refine AWP.exit ?_ | refine AWP.scope ?_ | refine AWP.label ?_)
  refine AWP.ret ?_
  refine ⟨_, _, rfl, rfl, Heap.le_refl _, ?_, rfl⟩
  refine congrArg AV.bool ?_
  rw [Bool.eq_iff_iff, ← hn]
  simp
end Go.Proofs.Ytlbnhokhhangdaa

/- The package txn: may a transaction be? Are two the same? -/
namespace Go.Proofs.Ytlbnhokhhangdaa
open Go Go.Am Go.Pk Go.Lib
set_option linter.unusedVariables false
set_option maxRecDepth 10000
attribute [local irreducible] AOps AWP DRun ACalls

theorem wr_len (ws : List Wr) : (ws.map wr).length = ws.length := List.length_map _
theorem els_wr (ws : List Wr) : Els 3 (ws.map wr) := Els.map (f := wr) (fun _ => ⟨rfl, rfl⟩) ws

theorem Check_spec (t : Txn) (tag : Tag) (hl : t.writes.length < 2 ^ 40) (H : Heap) : ACalls Q.prog 13 [tx t tag] H fun r H' => r = .int .i64 (tcheck t : Nat) ∧ H' = H := by
  obtain ⟨o, s, c, ws⟩ := t
  simp only at hl
  refine ACalls.body (N := 51) Try.func13 rfl rfl rfl rfl ?_
  repeat (first | refine AOps.op rfl rfl ?_ | refine AOps.load rfl rfl rfl rfl rfl ?_)
  refine AWP.seq (AWP.region ?_)
  refine AOps.boxL 0 rfl rfl rfl rfl rfl ?_
  repeat (first
    | refine AOps.op rfl rfl ?_ | refine AOps.load rfl rfl rfl rfl rfl ?_ | refine AOps.nil ?_ | refine AWP.seq ?_ | refine AWP.region ?_ | refine AWP.block ?_ | refine AWP.skip ?_ | refine AWP.exit ?_ | refine AWP.scope ?_ | refine AWP.label ?_)
  refine AOps.or (j := 3) (y := decide (o ≥ 3)) [_, _, _] rfl rfl rfl rfl rfl rfl rfl (fun hb => ?_) ?_
  · repeat (first | refine AOps.unguard rfl rfl (by assumption) ?_ | refine AOps.op rfl rfl ?_ | refine AOps.load rfl rfl rfl rfl rfl ?_)
    exact AOps.nil (GuardEnd.of 3 rfl rfl rfl rfl rfl)
  repeat (first
    | refine AOps.op rfl rfl ?_ | refine AOps.load rfl rfl rfl rfl rfl ?_ | refine AOps.nil ?_ | refine AWP.seq ?_ | refine AWP.region ?_ | refine AWP.block ?_ | refine AWP.skip ?_ | refine AWP.exit ?_ | refine AWP.scope ?_ | refine AWP.label ?_)
  refine AWP.cond rfl (fun h => ?_) (fun h => ?_)
  · have h : o < 0 ∨ 2 < o := by simp at h; omega
    repeat (first
    | refine AOps.op rfl rfl ?_ | refine AOps.load rfl rfl rfl rfl rfl ?_ | refine AOps.nil ?_ | refine AWP.seq ?_ | refine AWP.region ?_ | refine AWP.block ?_ | refine AWP.skip ?_ | refine AWP.exit ?_ | refine AWP.scope ?_ | refine AWP.label ?_)
    refine AWP.ret ?_
    refine ⟨_, _, rfl, rfl, Heap.le_refl _, ?_, rfl⟩
    simp only [tcheck, if_pos h]; rfl
  have h0 : ¬ (o < 0 ∨ 2 < o) := by simp at h; omega
  repeat (first
    | refine AOps.op rfl rfl ?_ | refine AOps.load rfl rfl rfl rfl rfl ?_ | refine AOps.nil ?_ | refine AWP.seq ?_ | refine AWP.region ?_ | refine AWP.block ?_ | refine AWP.skip ?_ | refine AWP.exit ?_ | refine AWP.scope ?_ | refine AWP.label ?_)
  refine AOps.or (j := 3) (y := decide (s > 4611686018427387903)) [_, _, _] rfl rfl rfl rfl rfl rfl rfl (fun hb => ?_) ?_
  · repeat (first | refine AOps.unguard rfl rfl (by assumption) ?_ | refine AOps.op rfl rfl ?_ | refine AOps.load rfl rfl rfl rfl rfl ?_)
    exact AOps.nil (GuardEnd.of 3 rfl rfl rfl rfl rfl)
  repeat (first
    | refine AOps.op rfl rfl ?_ | refine AOps.load rfl rfl rfl rfl rfl ?_ | refine AOps.nil ?_ | refine AWP.seq ?_ | refine AWP.region ?_ | refine AWP.block ?_ | refine AWP.skip ?_ | refine AWP.exit ?_ | refine AWP.scope ?_ | refine AWP.label ?_)
  refine AOps.or (j := 8) (y := !c.ok) [_, _, _, _] rfl rfl rfl rfl rfl rfl rfl (fun hb => ?_) ?_
  · repeat (first | refine AOps.unguard rfl rfl (by assumption) ?_ | refine AOps.op rfl rfl ?_ | refine AOps.load rfl rfl rfl rfl rfl ?_)
    refine AOps.call rfl rfl rfl ((Right_spec c H).mono ?_)
    rintro _ H ⟨rfl, rfl⟩
    repeat (first | refine AOps.unguard rfl rfl (by assumption) ?_ | refine AOps.op rfl rfl ?_ | refine AOps.load rfl rfl rfl rfl rfl ?_)
    exact AOps.nil (GuardEnd.of 4 rfl rfl rfl rfl rfl)
  repeat (first
    | refine AOps.op rfl rfl ?_ | refine AOps.load rfl rfl rfl rfl rfl ?_ | refine AOps.nil ?_ | refine AWP.seq ?_ | refine AWP.region ?_ | refine AWP.block ?_ | refine AWP.skip ?_ | refine AWP.exit ?_ | refine AWP.scope ?_ | refine AWP.label ?_)
  refine AWP.cond rfl (fun h => ?_) (fun h => ?_)
  · have h : (s < 1 ∨ 4611686018427387903 < s) ∨ c.ok = false := by simpa using h
    repeat (first
    | refine AOps.op rfl rfl ?_ | refine AOps.load rfl rfl rfl rfl rfl ?_ | refine AOps.nil ?_ | refine AWP.seq ?_ | refine AWP.region ?_ | refine AWP.block ?_ | refine AWP.skip ?_ | refine AWP.exit ?_ | refine AWP.scope ?_ | refine AWP.label ?_)
    refine AWP.ret ?_
    refine ⟨_, _, rfl, rfl, Heap.le_refl _, ?_, rfl⟩
    simp only [tcheck, if_neg h0, if_pos h]; rfl
  have h1 : ¬ ((s < 1 ∨ 4611686018427387903 < s) ∨ c.ok = false) := by intro q; simp at h; rcases q with q | q; omega; simp [q] at h
  have es : IntKind.i64.wrap (s - 1) = s - 1 := wrap_i64' (by omega) (by omega)
  rcases (by omega : o = 0 ∨ o = 1 ∨ o = 2) with rfl | rfl | rfl
  · have hc : c.get 0 = c.a := rfl
    repeat (first
    | refine AOps.op rfl rfl ?_ | refine AOps.load rfl rfl rfl rfl rfl ?_ | refine AOps.nil ?_ | refine AWP.seq ?_ | refine AWP.region ?_ | refine AWP.block ?_ | refine AWP.skip ?_ | refine AWP.exit ?_ | refine AWP.scope ?_ | refine AWP.label ?_)
    refine AWP.draw [[], [0], [], [0, 1, 2], [0, 1, 2, 3], [], [5], [5, 6], [0, 1, 2, 3, 4, 5, 6, 7], [0, 1, 2, 3, 4, 5, 6, 7, 8]] [(0, .pure), (1, .read), (2, .pure), (3, .pure), (4, .read), (5, .pure), (6, .read), (7, .pure), (8, .pure), (9, .pure)] rfl ?_
    repeat (first | refine DRun.op rfl rfl rfl ?_ | refine DRun.loadI rfl rfl rfl rfl rfl ?_ | refine DRun.load rfl rfl rfl rfl rfl rfl ?_ | refine DRun.nil ?_)
    repeat (first
    | refine AOps.op rfl rfl ?_ | refine AOps.load rfl rfl rfl rfl rfl ?_ | refine AOps.nil ?_ | refine AWP.seq ?_ | refine AWP.region ?_ | refine AWP.block ?_ | refine AWP.skip ?_ | refine AWP.exit ?_ | refine AWP.scope ?_ | refine AWP.label ?_)
    rw [es]
    refine AWP.cond rfl (fun h => ?_) (fun h => ?_)
    · have h : c.get 0 ≠ s - 1 := by rw [hc]; simpa using h
      repeat (first
    | refine AOps.op rfl rfl ?_ | refine AOps.load rfl rfl rfl rfl rfl ?_ | refine AOps.nil ?_ | refine AWP.seq ?_ | refine AWP.region ?_ | refine AWP.block ?_ | refine AWP.skip ?_ | refine AWP.exit ?_ | refine AWP.scope ?_ | refine AWP.label ?_)
      refine AWP.ret ?_
      refine ⟨_, _, rfl, rfl, Heap.le_refl _, ?_, rfl⟩
      simp only [tcheck, if_neg h0, if_neg h1, if_pos h]; rfl
    have h2 : ¬ c.get 0 ≠ s - 1 := by rw [hc]; simpa using h
    repeat (first
    | refine AOps.op rfl rfl ?_ | refine AOps.load rfl rfl rfl rfl rfl ?_ | refine AOps.nil ?_ | refine AWP.seq ?_ | refine AWP.region ?_ | refine AWP.block ?_ | refine AWP.skip ?_ | refine AWP.exit ?_ | refine AWP.scope ?_ | refine AWP.label ?_)
    refine AOps.or (j := 4) (y := ws.any Wr.long) [_, _, _] rfl rfl rfl rfl rfl rfl rfl (fun hb => ?_) ?_
    · repeat (first | refine AOps.unguard rfl rfl (by assumption) ?_ | refine AOps.op rfl rfl ?_ | refine AOps.load rfl rfl rfl rfl rfl ?_)
      refine AOps.call rfl rfl rfl ((Contains_spec ws tag _ Wr.long long_spec hl H).mono ?_)
      rintro _ H ⟨rfl, rfl⟩
      repeat (first | refine AOps.unguard rfl rfl (by assumption) ?_ | refine AOps.op rfl rfl ?_ | refine AOps.load rfl rfl rfl rfl rfl ?_)
      exact AOps.nil (GuardEnd.of 3 rfl rfl rfl rfl rfl)
    repeat (first
    | refine AOps.op rfl rfl ?_ | refine AOps.load rfl rfl rfl rfl rfl ?_ | refine AOps.nil ?_ | refine AWP.seq ?_ | refine AWP.region ?_ | refine AWP.block ?_ | refine AWP.skip ?_ | refine AWP.exit ?_ | refine AWP.scope ?_ | refine AWP.label ?_)
    refine AWP.cond rfl (fun h => ?_) (fun h => ?_)
    · have h : 16 < ws.length ∨ ws.any Wr.long = true := by
        simp only [Bool.or_eq_true, decide_eq_true_eq, wr_len] at h
        rcases h with h | h
        · left; omega
        · exact .inr h
      repeat (first
    | refine AOps.op rfl rfl ?_ | refine AOps.load rfl rfl rfl rfl rfl ?_ | refine AOps.nil ?_ | refine AWP.seq ?_ | refine AWP.region ?_ | refine AWP.block ?_ | refine AWP.skip ?_ | refine AWP.exit ?_ | refine AWP.scope ?_ | refine AWP.label ?_)
      refine AWP.ret ?_
      refine ⟨_, _, rfl, rfl, Heap.le_refl _, ?_, rfl⟩
      simp only [tcheck, if_neg h0, if_neg h1, if_neg h2, if_pos h]; rfl
    have h3 : ¬ (16 < ws.length ∨ ws.any Wr.long = true) := by
      simp only [Bool.or_eq_false_iff, decide_eq_false_iff_not, wr_len] at h
      rintro (q | q)
      · exact h.1 (by omega)
      · rw [q] at h; cases h.2
    repeat (first
    | refine AOps.op rfl rfl ?_ | refine AOps.load rfl rfl rfl rfl rfl ?_ | refine AOps.nil ?_ | refine AWP.seq ?_ | refine AWP.region ?_ | refine AWP.block ?_ | refine AWP.skip ?_ | refine AWP.exit ?_ | refine AWP.scope ?_ | refine AWP.label ?_)
    refine AOps.call rfl rfl rfl ((Contains_spec ws tag _ Wr.odd odd_spec hl H).mono ?_)
    rintro _ H ⟨rfl, rfl⟩
    repeat (first
    | refine AOps.op rfl rfl ?_ | refine AOps.load rfl rfl rfl rfl rfl ?_ | refine AOps.nil ?_ | refine AWP.seq ?_ | refine AWP.region ?_ | refine AWP.block ?_ | refine AWP.skip ?_ | refine AWP.exit ?_ | refine AWP.scope ?_ | refine AWP.label ?_)
    refine AWP.cond rfl (fun h => ?_) (fun h => ?_)
    · repeat (first
    | refine AOps.op rfl rfl ?_ | refine AOps.load rfl rfl rfl rfl rfl ?_ | refine AOps.nil ?_ | refine AWP.seq ?_ | refine AWP.region ?_ | refine AWP.block ?_ | refine AWP.skip ?_ | refine AWP.exit ?_ | refine AWP.scope ?_ | refine AWP.label ?_)
      refine AWP.ret ?_
      refine ⟨_, _, rfl, rfl, Heap.le_refl _, ?_, rfl⟩
      simp only [tcheck, if_neg h0, if_neg h1, if_neg h2, if_neg h3, if_pos h]; rfl
    · repeat (first
    | refine AOps.op rfl rfl ?_ | refine AOps.load rfl rfl rfl rfl rfl ?_ | refine AOps.nil ?_ | refine AWP.seq ?_ | refine AWP.region ?_ | refine AWP.block ?_ | refine AWP.skip ?_ | refine AWP.exit ?_ | refine AWP.scope ?_ | refine AWP.label ?_)
      refine AWP.ret ?_
      refine ⟨_, _, rfl, rfl, Heap.le_refl _, ?_, rfl⟩
      have h : ¬ ws.any Wr.odd = true := by rw [h]; simp
      simp only [tcheck, if_neg h0, if_neg h1, if_neg h2, if_neg h3, if_neg h]; rfl
  · have hc : c.get 1 = c.b := rfl
    repeat (first
    | refine AOps.op rfl rfl ?_ | refine AOps.load rfl rfl rfl rfl rfl ?_ | refine AOps.nil ?_ | refine AWP.seq ?_ | refine AWP.region ?_ | refine AWP.block ?_ | refine AWP.skip ?_ | refine AWP.exit ?_ | refine AWP.scope ?_ | refine AWP.label ?_)
    refine AWP.draw [[], [0], [], [0, 1, 2], [0, 1, 2, 3], [], [5], [5, 6], [0, 1, 2, 3, 4, 5, 6, 7], [0, 1, 2, 3, 4, 5, 6, 7, 8]] [(0, .pure), (1, .read), (2, .pure), (3, .pure), (4, .read), (5, .pure), (6, .read), (7, .pure), (8, .pure), (9, .pure)] rfl ?_
    repeat (first | refine DRun.op rfl rfl rfl ?_ | refine DRun.loadI rfl rfl rfl rfl rfl ?_ | refine DRun.load rfl rfl rfl rfl rfl rfl ?_ | refine DRun.nil ?_)
    repeat (first
    | refine AOps.op rfl rfl ?_ | refine AOps.load rfl rfl rfl rfl rfl ?_ | refine AOps.nil ?_ | refine AWP.seq ?_ | refine AWP.region ?_ | refine AWP.block ?_ | refine AWP.skip ?_ | refine AWP.exit ?_ | refine AWP.scope ?_ | refine AWP.label ?_)
    rw [es]
    refine AWP.cond rfl (fun h => ?_) (fun h => ?_)
    · have h : c.get 1 ≠ s - 1 := by rw [hc]; simpa using h
      repeat (first
    | refine AOps.op rfl rfl ?_ | refine AOps.load rfl rfl rfl rfl rfl ?_ | refine AOps.nil ?_ | refine AWP.seq ?_ | refine AWP.region ?_ | refine AWP.block ?_ | refine AWP.skip ?_ | refine AWP.exit ?_ | refine AWP.scope ?_ | refine AWP.label ?_)
      refine AWP.ret ?_
      refine ⟨_, _, rfl, rfl, Heap.le_refl _, ?_, rfl⟩
      simp only [tcheck, if_neg h0, if_neg h1, if_pos h]; rfl
    have h2 : ¬ c.get 1 ≠ s - 1 := by rw [hc]; simpa using h
    repeat (first
    | refine AOps.op rfl rfl ?_ | refine AOps.load rfl rfl rfl rfl rfl ?_ | refine AOps.nil ?_ | refine AWP.seq ?_ | refine AWP.region ?_ | refine AWP.block ?_ | refine AWP.skip ?_ | refine AWP.exit ?_ | refine AWP.scope ?_ | refine AWP.label ?_)
    refine AOps.or (j := 4) (y := ws.any Wr.long) [_, _, _] rfl rfl rfl rfl rfl rfl rfl (fun hb => ?_) ?_
    · repeat (first | refine AOps.unguard rfl rfl (by assumption) ?_ | refine AOps.op rfl rfl ?_ | refine AOps.load rfl rfl rfl rfl rfl ?_)
      refine AOps.call rfl rfl rfl ((Contains_spec ws tag _ Wr.long long_spec hl H).mono ?_)
      rintro _ H ⟨rfl, rfl⟩
      repeat (first | refine AOps.unguard rfl rfl (by assumption) ?_ | refine AOps.op rfl rfl ?_ | refine AOps.load rfl rfl rfl rfl rfl ?_)
      exact AOps.nil (GuardEnd.of 3 rfl rfl rfl rfl rfl)
    repeat (first
    | refine AOps.op rfl rfl ?_ | refine AOps.load rfl rfl rfl rfl rfl ?_ | refine AOps.nil ?_ | refine AWP.seq ?_ | refine AWP.region ?_ | refine AWP.block ?_ | refine AWP.skip ?_ | refine AWP.exit ?_ | refine AWP.scope ?_ | refine AWP.label ?_)
    refine AWP.cond rfl (fun h => ?_) (fun h => ?_)
    · have h : 16 < ws.length ∨ ws.any Wr.long = true := by
        simp only [Bool.or_eq_true, decide_eq_true_eq, wr_len] at h
        rcases h with h | h
        · left; omega
        · exact .inr h
      repeat (first
    | refine AOps.op rfl rfl ?_ | refine AOps.load rfl rfl rfl rfl rfl ?_ | refine AOps.nil ?_ | refine AWP.seq ?_ | refine AWP.region ?_ | refine AWP.block ?_ | refine AWP.skip ?_ | refine AWP.exit ?_ | refine AWP.scope ?_ | refine AWP.label ?_)
      refine AWP.ret ?_
      refine ⟨_, _, rfl, rfl, Heap.le_refl _, ?_, rfl⟩
      simp only [tcheck, if_neg h0, if_neg h1, if_neg h2, if_pos h]; rfl
    have h3 : ¬ (16 < ws.length ∨ ws.any Wr.long = true) := by
      simp only [Bool.or_eq_false_iff, decide_eq_false_iff_not, wr_len] at h
      rintro (q | q)
      · exact h.1 (by omega)
      · rw [q] at h; cases h.2
    repeat (first
    | refine AOps.op rfl rfl ?_ | refine AOps.load rfl rfl rfl rfl rfl ?_ | refine AOps.nil ?_ | refine AWP.seq ?_ | refine AWP.region ?_ | refine AWP.block ?_ | refine AWP.skip ?_ | refine AWP.exit ?_ | refine AWP.scope ?_ | refine AWP.label ?_)
    refine AOps.call rfl rfl rfl ((Contains_spec ws tag _ Wr.odd odd_spec hl H).mono ?_)
    rintro _ H ⟨rfl, rfl⟩
    repeat (first
    | refine AOps.op rfl rfl ?_ | refine AOps.load rfl rfl rfl rfl rfl ?_ | refine AOps.nil ?_ | refine AWP.seq ?_ | refine AWP.region ?_ | refine AWP.block ?_ | refine AWP.skip ?_ | refine AWP.exit ?_ | refine AWP.scope ?_ | refine AWP.label ?_)
    refine AWP.cond rfl (fun h => ?_) (fun h => ?_)
    · repeat (first
    | refine AOps.op rfl rfl ?_ | refine AOps.load rfl rfl rfl rfl rfl ?_ | refine AOps.nil ?_ | refine AWP.seq ?_ | refine AWP.region ?_ | refine AWP.block ?_ | refine AWP.skip ?_ | refine AWP.exit ?_ | refine AWP.scope ?_ | refine AWP.label ?_)
      refine AWP.ret ?_
      refine ⟨_, _, rfl, rfl, Heap.le_refl _, ?_, rfl⟩
      simp only [tcheck, if_neg h0, if_neg h1, if_neg h2, if_neg h3, if_pos h]; rfl
    · repeat (first
    | refine AOps.op rfl rfl ?_ | refine AOps.load rfl rfl rfl rfl rfl ?_ | refine AOps.nil ?_ | refine AWP.seq ?_ | refine AWP.region ?_ | refine AWP.block ?_ | refine AWP.skip ?_ | refine AWP.exit ?_ | refine AWP.scope ?_ | refine AWP.label ?_)
      refine AWP.ret ?_
      refine ⟨_, _, rfl, rfl, Heap.le_refl _, ?_, rfl⟩
      have h : ¬ ws.any Wr.odd = true := by rw [h]; simp
      simp only [tcheck, if_neg h0, if_neg h1, if_neg h2, if_neg h3, if_neg h]; rfl
  · have hc : c.get 2 = c.c := rfl
    repeat (first
    | refine AOps.op rfl rfl ?_ | refine AOps.load rfl rfl rfl rfl rfl ?_ | refine AOps.nil ?_ | refine AWP.seq ?_ | refine AWP.region ?_ | refine AWP.block ?_ | refine AWP.skip ?_ | refine AWP.exit ?_ | refine AWP.scope ?_ | refine AWP.label ?_)
    refine AWP.draw [[], [0], [], [0, 1, 2], [0, 1, 2, 3], [], [5], [5, 6], [0, 1, 2, 3, 4, 5, 6, 7], [0, 1, 2, 3, 4, 5, 6, 7, 8]] [(0, .pure), (1, .read), (2, .pure), (3, .pure), (4, .read), (5, .pure), (6, .read), (7, .pure), (8, .pure), (9, .pure)] rfl ?_
    repeat (first | refine DRun.op rfl rfl rfl ?_ | refine DRun.loadI rfl rfl rfl rfl rfl ?_ | refine DRun.load rfl rfl rfl rfl rfl rfl ?_ | refine DRun.nil ?_)
    repeat (first
    | refine AOps.op rfl rfl ?_ | refine AOps.load rfl rfl rfl rfl rfl ?_ | refine AOps.nil ?_ | refine AWP.seq ?_ | refine AWP.region ?_ | refine AWP.block ?_ | refine AWP.skip ?_ | refine AWP.exit ?_ | refine AWP.scope ?_ | refine AWP.label ?_)
    rw [es]
    refine AWP.cond rfl (fun h => ?_) (fun h => ?_)
    · have h : c.get 2 ≠ s - 1 := by rw [hc]; simpa using h
      repeat (first
    | refine AOps.op rfl rfl ?_ | refine AOps.load rfl rfl rfl rfl rfl ?_ | refine AOps.nil ?_ | refine AWP.seq ?_ | refine AWP.region ?_ | refine AWP.block ?_ | refine AWP.skip ?_ | refine AWP.exit ?_ | refine AWP.scope ?_ | refine AWP.label ?_)
      refine AWP.ret ?_
      refine ⟨_, _, rfl, rfl, Heap.le_refl _, ?_, rfl⟩
      simp only [tcheck, if_neg h0, if_neg h1, if_pos h]; rfl
    have h2 : ¬ c.get 2 ≠ s - 1 := by rw [hc]; simpa using h
    repeat (first
    | refine AOps.op rfl rfl ?_ | refine AOps.load rfl rfl rfl rfl rfl ?_ | refine AOps.nil ?_ | refine AWP.seq ?_ | refine AWP.region ?_ | refine AWP.block ?_ | refine AWP.skip ?_ | refine AWP.exit ?_ | refine AWP.scope ?_ | refine AWP.label ?_)
    refine AOps.or (j := 4) (y := ws.any Wr.long) [_, _, _] rfl rfl rfl rfl rfl rfl rfl (fun hb => ?_) ?_
    · repeat (first | refine AOps.unguard rfl rfl (by assumption) ?_ | refine AOps.op rfl rfl ?_ | refine AOps.load rfl rfl rfl rfl rfl ?_)
      refine AOps.call rfl rfl rfl ((Contains_spec ws tag _ Wr.long long_spec hl H).mono ?_)
      rintro _ H ⟨rfl, rfl⟩
      repeat (first | refine AOps.unguard rfl rfl (by assumption) ?_ | refine AOps.op rfl rfl ?_ | refine AOps.load rfl rfl rfl rfl rfl ?_)
      exact AOps.nil (GuardEnd.of 3 rfl rfl rfl rfl rfl)
    repeat (first
    | refine AOps.op rfl rfl ?_ | refine AOps.load rfl rfl rfl rfl rfl ?_ | refine AOps.nil ?_ | refine AWP.seq ?_ | refine AWP.region ?_ | refine AWP.block ?_ | refine AWP.skip ?_ | refine AWP.exit ?_ | refine AWP.scope ?_ | refine AWP.label ?_)
    refine AWP.cond rfl (fun h => ?_) (fun h => ?_)
    · have h : 16 < ws.length ∨ ws.any Wr.long = true := by
        simp only [Bool.or_eq_true, decide_eq_true_eq, wr_len] at h
        rcases h with h | h
        · left; omega
        · exact .inr h
      repeat (first
    | refine AOps.op rfl rfl ?_ | refine AOps.load rfl rfl rfl rfl rfl ?_ | refine AOps.nil ?_ | refine AWP.seq ?_ | refine AWP.region ?_ | refine AWP.block ?_ | refine AWP.skip ?_ | refine AWP.exit ?_ | refine AWP.scope ?_ | refine AWP.label ?_)
      refine AWP.ret ?_
      refine ⟨_, _, rfl, rfl, Heap.le_refl _, ?_, rfl⟩
      simp only [tcheck, if_neg h0, if_neg h1, if_neg h2, if_pos h]; rfl
    have h3 : ¬ (16 < ws.length ∨ ws.any Wr.long = true) := by
      simp only [Bool.or_eq_false_iff, decide_eq_false_iff_not, wr_len] at h
      rintro (q | q)
      · exact h.1 (by omega)
      · rw [q] at h; cases h.2
    repeat (first
    | refine AOps.op rfl rfl ?_ | refine AOps.load rfl rfl rfl rfl rfl ?_ | refine AOps.nil ?_ | refine AWP.seq ?_ | refine AWP.region ?_ | refine AWP.block ?_ | refine AWP.skip ?_ | refine AWP.exit ?_ | refine AWP.scope ?_ | refine AWP.label ?_)
    refine AOps.call rfl rfl rfl ((Contains_spec ws tag _ Wr.odd odd_spec hl H).mono ?_)
    rintro _ H ⟨rfl, rfl⟩
    repeat (first
    | refine AOps.op rfl rfl ?_ | refine AOps.load rfl rfl rfl rfl rfl ?_ | refine AOps.nil ?_ | refine AWP.seq ?_ | refine AWP.region ?_ | refine AWP.block ?_ | refine AWP.skip ?_ | refine AWP.exit ?_ | refine AWP.scope ?_ | refine AWP.label ?_)
    refine AWP.cond rfl (fun h => ?_) (fun h => ?_)
    · repeat (first
    | refine AOps.op rfl rfl ?_ | refine AOps.load rfl rfl rfl rfl rfl ?_ | refine AOps.nil ?_ | refine AWP.seq ?_ | refine AWP.region ?_ | refine AWP.block ?_ | refine AWP.skip ?_ | refine AWP.exit ?_ | refine AWP.scope ?_ | refine AWP.label ?_)
      refine AWP.ret ?_
      refine ⟨_, _, rfl, rfl, Heap.le_refl _, ?_, rfl⟩
      simp only [tcheck, if_neg h0, if_neg h1, if_neg h2, if_neg h3, if_pos h]; rfl
    · repeat (first
    | refine AOps.op rfl rfl ?_ | refine AOps.load rfl rfl rfl rfl rfl ?_ | refine AOps.nil ?_ | refine AWP.seq ?_ | refine AWP.region ?_ | refine AWP.block ?_ | refine AWP.skip ?_ | refine AWP.exit ?_ | refine AWP.scope ?_ | refine AWP.label ?_)
      refine AWP.ret ?_
      refine ⟨_, _, rfl, rfl, Heap.le_refl _, ?_, rfl⟩
      have h : ¬ ws.any Wr.odd = true := by rw [h]; simp
      simp only [tcheck, if_neg h0, if_neg h1, if_neg h2, if_neg h3, if_neg h]; rfl
end Go.Proofs.Ytlbnhokhhangdaa

/- The package txn: are two the same? -/
namespace Go.Proofs.Ytlbnhokhhangdaa
open Go Go.Am Go.Pk Go.Lib
set_option linter.unusedVariables false
set_option linter.unusedSimpArgs false
set_option maxRecDepth 10000
attribute [local irreducible] AOps AWP DRun ACalls

theorem eqTy_wr : EqTy Q 73 := ⟨by kernel_rfl, by kernel_rfl, by
  have : ((Q.prog.fieldsOf 73).toList.all fun f => f.name != "_") = true := by kernel_rfl
  intro f hf
  have := List.all_eq_true.1 this f hf
  simpa using this⟩

theorem eqTy_ck : EqTy Q 29 := ⟨by kernel_rfl, by kernel_rfl, by
  have : ((Q.prog.fieldsOf 29).toList.all fun f => f.name != "_") = true := by kernel_rfl
  intro f hf
  have := List.all_eq_true.1 this f hf
  simpa using this⟩

theorem aeq_wr (a b : Wr) : aeq Q 73 (wr a) (wr b) = some (decide (a = b)) := by
  obtain ⟨a1, a2, a3⟩ := a
  obtain ⟨b1, b2, b3⟩ := b
  show (match (some (a1 == b1) : Option Bool) with
    | some true => (match (some (a2 == b2) : Option Bool) with
      | some true => (match (some (a3 == b3) : Option Bool) with
        | some true => some true
        | some false => some false
        | none => none)
      | some false => some false
      | none => none)
    | some false => some false
    | none => none) = _
  by_cases c1 : a1 = b1
  · by_cases c2 : a2 = b2
    · by_cases c3 : a3 = b3
      · simp [c1, c2, c3]
      · have : (a3 == b3) = false := by simpa using c3
        simp [c1, c2, c3, this]
    · have : (a2 == b2) = false := by simpa using c2
      simp [c1, c2, this]
  · have : (a1 == b1) = false := by simpa using c1
    simp [c1, this]

theorem aeq_ck (a b : Clk) : aeq Q 29 (ck a) (ck b) = some (decide (a = b)) := by
  obtain ⟨a1, a2, a3⟩ := a
  obtain ⟨b1, b2, b3⟩ := b
  show (match (some (a1 == b1) : Option Bool) with
    | some true => (match (some (a2 == b2) : Option Bool) with
      | some true => (match (some (a3 == b3) : Option Bool) with
        | some true => some true
        | some false => some false
        | none => none)
      | some false => some false
      | none => none)
    | some false => some false
    | none => none) = _
  by_cases c1 : a1 = b1
  · by_cases c2 : a2 = b2
    · by_cases c3 : a3 = b3
      · simp [c1, c2, c3]
      · have : (a3 == b3) = false := by simpa using c3
        simp [c1, c2, c3, this]
    · have : (a2 == b2) = false := by simpa using c2
      simp [c1, c2, this]
  · have : (a1 == b1) = false := by simpa using c1
    simp [c1, this]

theorem getD_wr {ws : List Wr} {i : Nat} {w : Wr} (h : ws[i]? = some w) : (ws.map wr)[((i : Nat) : Int).toNat]? = some (wr w) := by simp [h]

theorem take_next {α : Type} {a b : List α} {i : Nat} {x y : α} (ha : a[i]? = some x) (hb : b[i]? = some y) (h : a.take i = b.take i) : (a.take (i + 1) = b.take (i + 1)) ↔ x = y := by
  rw [List.take_add_one, List.take_add_one, ha, hb, h]
  simp

theorem EqualW_spec (a b : List Wr) (ta tb : Tag) (ha : a.length < 2 ^ 40) (hb : b.length < 2 ^ 40) (H : Heap) :
    ACalls Q.prog 62 [.sl (a.map wr) ta, .sl (b.map wr) tb] H fun r H' => r = .bool (decide (a = b)) ∧ H' = H := by
  refine ACalls.body (N := 26) Try.func62 rfl rfl rfl rfl ?_
  repeat (first
    | refine AOps.op rfl rfl ?_ | refine AOps.load rfl rfl rfl rfl rfl ?_ | refine AOps.nil ?_ | refine AWP.seq ?_ | refine AWP.region ?_ | refine AWP.block ?_ | refine AWP.skip ?_ | refine AWP.exit ?_ | refine AWP.scope ?_ | refine AWP.label ?_)
  refine AWP.cond rfl (fun h => ?_) (fun h => ?_)
  · have h : a.length ≠ b.length := by simp [wr_len] at h; omega
    repeat (first
    | refine AOps.op rfl rfl ?_ | refine AOps.load rfl rfl rfl rfl rfl ?_ | refine AOps.nil ?_ | refine AWP.seq ?_ | refine AWP.region ?_ | refine AWP.block ?_ | refine AWP.skip ?_ | refine AWP.exit ?_ | refine AWP.scope ?_ | refine AWP.label ?_)
    refine AWP.ret ?_
    refine ⟨_, _, rfl, rfl, Heap.le_refl _, ?_, rfl⟩
    have : ¬ a = b := fun e => h (by rw [e])
    simp [this]; rfl
  have hlen : a.length = b.length := by simp [wr_len] at h; omega
  repeat (first
    | refine AOps.op rfl rfl ?_ | refine AOps.load rfl rfl rfl rfl rfl ?_ | refine AOps.nil ?_ | refine AWP.seq ?_ | refine AWP.region ?_ | refine AWP.skip ?_ | refine AWP.exit ?_ | refine AWP.scope ?_ | refine AWP.label ?_)
  refine AWP.block ?_
  refine AWP.loopA (α := Nat) (fun i => i ≤ a.length ∧ a.take i = b.take i) (fun i => a.length - i)
    (fun i => [(0, .sl (a.map wr) ta), (1, .sl (b.map wr) tb), (12, .int .i64 a.length), (13, .int .i64 i)]) (fun _ => []) (fun _ => H) 0 ⟨by simp, by simp⟩ ⟨rfl, rfl, ?_, rfl, trivial⟩ rfl (Heap.le_refl _) ?_
  · exact congrArg (fun n : Nat => some (AV.int .i64 n)) (wr_len a)
  rintro i ⟨h1, h2⟩
  repeat (first
    | refine AOps.op rfl rfl ?_ | refine AOps.load rfl rfl rfl rfl rfl ?_ | refine AOps.nil ?_ | refine AWP.seq ?_ | refine AWP.region ?_ | refine AWP.block ?_ | refine AWP.skip ?_ | refine AWP.exit ?_ | refine AWP.scope ?_ | refine AWP.label ?_)
  refine AWP.cond rfl (fun h => ?_) (fun h => ?_)
  · have h : i < a.length := by simp at h; omega
    have ei : IntKind.i64.wrap ((i : Int) + 1) = ((i + 1 : Nat) : Int) := wrap_i64 (n := i + 1) (by omega)
    obtain ⟨x, hx⟩ : ∃ x, a[i]? = some x := ⟨a[i], List.getElem?_eq_getElem h⟩
    obtain ⟨y, hy⟩ : ∃ y, b[i]? = some y := ⟨b[i]'(by omega), List.getElem?_eq_getElem _⟩
    repeat (first
    | refine AOps.op rfl rfl ?_ | refine AOps.load rfl rfl rfl rfl rfl ?_ | refine AOps.nil ?_ | refine AWP.seq ?_ | refine AWP.region ?_ | refine AWP.block ?_ | refine AWP.skip ?_ | refine AWP.exit ?_ | refine AWP.scope ?_ | refine AWP.label ?_)
    refine AWP.draw [[], [], [0, 1], [0, 1, 2], [], [], [4, 5], [4, 5, 6], [0, 1, 2, 3, 4, 5, 6, 7]] [(0, .pure), (1, .pure), (2, .pure), (3, .read), (4, .pure), (5, .pure), (6, .pure), (7, .read), (8, .pure)] rfl ?_
    repeat (first | refine DRun.op rfl rfl rfl ?_ | refine DRun.loadI rfl rfl rfl rfl rfl ?_ | refine DRun.load rfl rfl rfl rfl rfl rfl ?_ | refine DRun.nil ?_)
    refine DRun.indexSl rfl rfl rfl rfl rfl rfl rfl (by omega) (getD_wr hx) rfl rfl ?_
    repeat (first | refine DRun.op rfl rfl rfl ?_ | refine DRun.loadI rfl rfl rfl rfl rfl ?_ | refine DRun.load rfl rfl rfl rfl rfl rfl ?_ | refine DRun.nil ?_)
    refine DRun.indexSl rfl rfl rfl rfl rfl rfl rfl (by omega) (getD_wr hy) rfl rfl ?_
    repeat (first | refine DRun.op rfl rfl rfl ?_ | refine DRun.loadI rfl rfl rfl rfl rfl ?_ | refine DRun.load rfl rfl rfl rfl rfl rfl ?_ | refine DRun.nil ?_)
    refine DRun.pureT rfl rfl rfl (fun loc H => OpT.eqAgg eqTy_wr rfl rfl (aeq_wr x y) (.inr rfl) ⟨rfl, rfl, rfl⟩) ?_
    repeat (first | refine DRun.op rfl rfl rfl ?_ | refine DRun.loadI rfl rfl rfl rfl rfl ?_ | refine DRun.load rfl rfl rfl rfl rfl rfl ?_ | refine DRun.nil ?_)
    refine AWP.cond rfl (fun h => ?_) (fun h => ?_)
    · have h : ¬ x = y := by simpa using h
      repeat (first
    | refine AOps.op rfl rfl ?_ | refine AOps.load rfl rfl rfl rfl rfl ?_ | refine AOps.nil ?_ | refine AWP.seq ?_ | refine AWP.region ?_ | refine AWP.block ?_ | refine AWP.skip ?_ | refine AWP.exit ?_ | refine AWP.scope ?_ | refine AWP.label ?_)
      refine AWP.ret ?_
      refine ⟨_, _, rfl, rfl, Heap.le_refl _, ?_, rfl⟩
      have : ¬ a = b := fun e => h (by rw [e, hy] at hx; exact (Option.some.inj hx).symm)
      simp [this]; rfl
    · have h : x = y := by simpa using h
      repeat (first
    | refine AOps.op rfl rfl ?_ | refine AOps.load rfl rfl rfl rfl rfl ?_ | refine AOps.nil ?_ | refine AWP.seq ?_ | refine AWP.region ?_ | refine AWP.block ?_ | refine AWP.skip ?_ | refine AWP.exit ?_ | refine AWP.scope ?_ | refine AWP.label ?_)
      exact ⟨i + 1, by omega, ⟨by omega, (take_next hx hy h2).2 h⟩, ⟨rfl, rfl, rfl, congrArg (fun x => some (AV.int .i64 x)) ei, trivial⟩, rfl, Heap.le_refl _⟩
  · have h : a.length ≤ i := by simp at h; omega
    repeat (first
    | refine AOps.op rfl rfl ?_ | refine AOps.load rfl rfl rfl rfl rfl ?_ | refine AOps.nil ?_ | refine AWP.seq ?_ | refine AWP.region ?_ | refine AWP.block ?_ | refine AWP.skip ?_ | refine AWP.exit ?_ | refine AWP.scope ?_ | refine AWP.label ?_)
    refine AWP.ret ?_
    refine ⟨_, _, rfl, rfl, Heap.le_refl _, ?_, rfl⟩
    rw [List.take_of_length_le h, List.take_of_length_le (by omega)] at h2
    simp [h2]; rfl

theorem Same_spec (t u : Txn) (ta tb : Tag) (hl : t.writes.length < 2 ^ 40) (hm : u.writes.length < 2 ^ 40) (H : Heap) :
    ACalls Q.prog 38 [tx t ta, tx u tb] H fun r H' => r = .bool (decide (t = u)) ∧ H' = H := by
  obtain ⟨o, s, c, ws⟩ := t
  obtain ⟨o', s', c', ws'⟩ := u
  refine ACalls.body (N := 31) Try.func38 rfl rfl rfl rfl ?_
  repeat (first | refine AOps.op rfl rfl ?_ | refine AOps.load rfl rfl rfl rfl rfl ?_)
  refine AWP.seq (AWP.region ?_)
  refine AOps.boxL 0 rfl rfl rfl rfl rfl ?_
  refine AOps.boxL 1 rfl rfl rfl rfl rfl ?_
  repeat (first
    | refine AOps.op rfl rfl ?_ | refine AOps.load rfl rfl rfl rfl rfl ?_ | refine AOps.nil ?_ | refine AWP.seq ?_ | refine AWP.region ?_ | refine AWP.block ?_ | refine AWP.skip ?_ | refine AWP.exit ?_ | refine AWP.scope ?_ | refine AWP.label ?_)
  refine AOps.and (j := 5) (y := decide (s = s')) [_, _, _, _, _] rfl rfl rfl rfl rfl rfl rfl (fun hb => ?_) ?_
  · repeat (first | refine AOps.unguard rfl rfl (by assumption) ?_ | refine AOps.op rfl rfl ?_ | refine AOps.load rfl rfl rfl rfl rfl ?_)
    exact AOps.nil (GuardEnd.of 5 rfl rfl rfl rfl rfl)
  repeat (first
    | refine AOps.op rfl rfl ?_ | refine AOps.load rfl rfl rfl rfl rfl ?_ | refine AOps.nil ?_ | refine AWP.seq ?_ | refine AWP.region ?_ | refine AWP.block ?_ | refine AWP.skip ?_ | refine AWP.exit ?_ | refine AWP.scope ?_ | refine AWP.label ?_)
  refine AOps.and (j := 12) (y := decide (c = c')) [_, _, _, _, _] rfl rfl rfl rfl rfl rfl rfl (fun hb => ?_) ?_
  · repeat (first | refine AOps.unguard rfl rfl (by assumption) ?_ | refine AOps.op rfl rfl ?_ | refine AOps.load rfl rfl rfl rfl rfl ?_)
    refine AOps.step rfl rfl (OpT.eqAgg eqTy_ck rfl rfl (aeq_ck c c') (.inl rfl) ?_)
    exact AOps.nil (GuardEnd.of 5 rfl rfl rfl rfl rfl)
  repeat (first
    | refine AOps.op rfl rfl ?_ | refine AOps.load rfl rfl rfl rfl rfl ?_ | refine AOps.nil ?_ | refine AWP.seq ?_ | refine AWP.region ?_ | refine AWP.block ?_ | refine AWP.skip ?_ | refine AWP.exit ?_ | refine AWP.scope ?_ | refine AWP.label ?_)
  refine AOps.and (j := 19) (y := decide (ws = ws')) [_, _, _, _, _] rfl rfl rfl rfl rfl rfl rfl (fun hb => ?_) ?_
  · repeat (first | refine AOps.unguard rfl rfl (by assumption) ?_ | refine AOps.op rfl rfl ?_ | refine AOps.load rfl rfl rfl rfl rfl ?_)
    refine AOps.call rfl rfl rfl ((EqualW_spec ws ws' ta tb hl hm H).mono ?_)
    rintro _ H ⟨rfl, rfl⟩
    exact AOps.nil (GuardEnd.of 5 rfl rfl rfl rfl rfl)
  repeat (first
    | refine AOps.op rfl rfl ?_ | refine AOps.load rfl rfl rfl rfl rfl ?_ | refine AOps.nil ?_ | refine AWP.seq ?_ | refine AWP.region ?_ | refine AWP.block ?_ | refine AWP.skip ?_ | refine AWP.exit ?_ | refine AWP.scope ?_ | refine AWP.label ?_)
  refine AWP.ret ?_
  refine ⟨_, _, rfl, rfl, Heap.le_refl _, ?_, rfl⟩
  refine congrArg AV.bool ?_
  rw [Bool.eq_iff_iff]
  simp
  constructor
  · rintro ⟨⟨⟨rfl, rfl⟩, rfl⟩, rfl⟩; exact ⟨rfl, rfl, rfl, rfl⟩
  · rintro ⟨rfl, rfl, rfl, rfl⟩; exact ⟨⟨⟨rfl, rfl⟩, rfl⟩, rfl⟩
end Go.Proofs.Ytlbnhokhhangdaa

/- The package txn: coders in memory; a new one, as at first, its clock. -/
namespace Go.Proofs.Ytlbnhokhhangdaa
open Go Go.Am Go.Pk Go.Lib
set_option linter.unusedVariables false
set_option maxRecDepth 10000
attribute [local irreducible] AOps AWP DRun ACalls

theorem DictAt.mono {H H' : Heap} {d : Nat} {D : Dic} (h : DictAt H d D) (hl : H.le H') : DictAt H' d D := by
  obtain ⟨hok, m, ks, l, clock, h1, h2, h3, h4⟩ := h
  exact ⟨hok, m, ks, l, clock, hl _ _ h1, hl _ _ h2, h3, h4.mono hl⟩

def cbox (d : Nat) (c : Clk) : AObj := .box [.ptr d 0, .int .i64 c.a, .int .i64 c.b, .int .i64 c.c]

def CodAt (H : Heap) (c : Nat) (S : Cod) : Prop := ∃ d, H c = some (cbox d S.c) ∧ DictAt (H.del c) d S.d ∧ S.c.ok = true

theorem CodAt.mono {H H' : Heap} {c : Nat} {S : Cod} (h : CodAt H c S) (hl : H.le H') : CodAt H' c S := by
  obtain ⟨d, h1, h2, h3⟩ := h
  exact ⟨d, hl _ _ h1, h2.mono (Heap.del_mono hl c), h3⟩

theorem CodAt.of {H A : Heap} {c d : Nat} {S : Cod} (h1 : H c = some (cbox d S.c)) (h2 : DictAt A d S.d) (h3 : S.c.ok = true) (hA : A.le H) (hc : A c = none) : CodAt H c S :=
  ⟨d, h1, h2.mono (Heap.le_del hA hc), h3⟩

/-- A call beside what may be appended to. -/
theorem App.keep {H H2 A A' : Heap} {sz n : Nat} {tag : Tag} (h : App H sz n tag) (hA : A.le (hbase H tag)) (hm : (H.minus A).le H2) (ha : A'.le H2) (hd : Disj A' (H.minus A)) :
    App H2 sz n tag ∧ A'.le (hbase H2 tag) ∧ ((hbase H tag).minus A).le (hbase H2 tag) := by
  cases tag with
  | no => exact h.elim
  | full => exact ⟨trivial, ha, hm⟩
  | own g =>
    have hg : A g = none := by
      cases e : A g with
      | none => rfl
      | some x => have := hA g x e; simp only [hbase, Heap.del_same] at this; cases this
    have hh : H g = some (.tail sz n) := h
    have hmg : (H.minus A) g = some (.tail sz n) := by simp only [Heap.minus, hg]; exact hh
    refine ⟨hm _ _ hmg, Heap.le_del ha (hd.symm.none hmg), fun k x e => ?_⟩
    simp only [hbase] at e ⊢
    have hk : k ≠ g := by
      rintro rfl
      simp only [Heap.minus, hg, Heap.del_same] at e; cases e
    rw [Heap.del_ne _ hk]
    refine hm k x ?_
    simp only [Heap.minus] at e ⊢
    cases c : A k with
    | some y => rw [c] at e; cases e
    | none => rw [c] at e; rw [Heap.del_ne _ hk] at e; exact e

/-- A new block beside what may be appended to. -/
theorem App.set {H : Heap} {sz n b : Nat} {tag : Tag} {x : AObj} (h : App H sz n tag) (hb : H b = none) : App (H.set b x) sz n tag ∧ hbase (H.set b x) tag = (hbase H tag).set b x := by
  cases tag with
  | no => exact h.elim
  | full => exact ⟨trivial, rfl⟩
  | own g =>
    have hh : H g = some (.tail sz n) := h
    have hne : g ≠ b := by rintro rfl; rw [hb] at hh; cases hh
    refine ⟨by show (H.set b x) g = _; rw [Heap.set_ne _ _ hne]; exact hh, ?_⟩
    funext k
    simp only [hbase, Heap.del, Heap.set]
    by_cases c : k = g
    · subst c; rw [if_pos rfl, if_neg hne, if_pos rfl]
    · rw [if_neg c]
      by_cases e : k = b
      · rw [if_pos e, if_pos e]
      · rw [if_neg e, if_neg e, if_neg c]

theorem cNew_spec (H : Heap) : ACalls Q.prog 11 [] H fun r H' => ∃ c, r = .ptr c 0 ∧ H.le H' ∧ CodAt (H'.minus H) c Cod.nil := by
  refine ACalls.body (N := 4) Try.func11 rfl rfl rfl rfl ?_
  repeat (first
    | refine AOps.op rfl rfl ?_ | refine AOps.load rfl rfl rfl rfl rfl ?_ | refine AOps.nil ?_ | refine AWP.seq ?_ | refine AWP.region ?_ | refine AWP.block ?_ | refine AWP.skip ?_ | refine AWP.exit ?_ | refine AWP.scope ?_ | refine AWP.label ?_)
  refine AOps.call rfl rfl rfl ((dNew_spec H).mono ?_)
  rintro _ H1 ⟨d, rfl, h1, h2, h3⟩
  repeat (first
    | refine AOps.op rfl rfl ?_ | refine AOps.load rfl rfl rfl rfl rfl ?_ | refine AOps.nil ?_ | refine AWP.seq ?_ | refine AWP.region ?_ | refine AWP.block ?_ | refine AWP.skip ?_ | refine AWP.exit ?_ | refine AWP.scope ?_ | refine AWP.label ?_)
  refine AOps.boxH rfl rfl rfl rfl fun c hc => ?_
  have hc0 : H c = none := by
    cases e : H c with
    | none => rfl
    | some x => rw [h2 _ _ e] at hc; cases hc
  repeat (first
    | refine AOps.op rfl rfl ?_ | refine AOps.load rfl rfl rfl rfl rfl ?_ | refine AOps.nil ?_ | refine AWP.seq ?_ | refine AWP.region ?_ | refine AWP.block ?_ | refine AWP.skip ?_ | refine AWP.exit ?_ | refine AWP.scope ?_ | refine AWP.label ?_)
  refine AWP.ret ?_
  refine ⟨_, _, rfl, rfl, Heap.le_refl _, c, rfl, h2.trans (Heap.le_set hc), CodAt.of (d := d) (A := H1.minus H) ?_ h3 rfl (minus_mono (Heap.le_set hc)) ?_⟩
  · simp only [Heap.minus, hc0, Heap.set_same]; rfl
  · simp only [Heap.minus, hc0, hc]

theorem cReset_spec (c : Nat) (S : Cod) (H : Heap) (h : CodAt H c S) : ACalls Q.prog 21 [.ptr c 0] H fun r H' => CodAt H' c Cod.nil := by
  obtain ⟨d, h1, h2, h3⟩ := h
  refine ACalls.body (N := 11) Try.func21 rfl rfl rfl rfl ?_
  repeat (first
    | refine AOps.op rfl rfl ?_ | refine AOps.load rfl rfl rfl rfl rfl ?_ | refine AOps.nil ?_ | refine AWP.seq ?_ | refine AWP.region ?_ | refine AWP.block ?_ | refine AWP.skip ?_ | refine AWP.exit ?_ | refine AWP.scope ?_ | refine AWP.label ?_)
  refine AOps.load rfl (cellsAt_ptr h1) rfl rfl rfl ?_
  refine AOps.call rfl rfl rfl ((ACalls.beside (A := H.del c) (B := Heap.one c (cbox d S.c)) (Heap.del_le H c) (Heap.one_le.2 h1) (Heap.one_disj (Heap.del_same H c)).symm (dReset_spec d S.d (H.del c) h2)).mono ?_)
  rintro r H1 ⟨A, k1, k2, k3, k4⟩
  have hc := Heap.one_le.1 k3
  repeat (first
    | refine AOps.op rfl rfl ?_ | refine AOps.load rfl rfl rfl rfl rfl ?_ | refine AOps.nil ?_ | refine AWP.seq ?_ | refine AWP.region ?_ | refine AWP.block ?_ | refine AWP.skip ?_ | refine AWP.exit ?_ | refine AWP.scope ?_ | refine AWP.label ?_)
  refine AOps.storeH rfl rfl rfl hc rfl rfl ?_
  repeat (first
    | refine AOps.op rfl rfl ?_ | refine AOps.load rfl rfl rfl rfl rfl ?_ | refine AOps.nil ?_ | refine AWP.seq ?_ | refine AWP.region ?_ | refine AWP.block ?_ | refine AWP.skip ?_ | refine AWP.exit ?_ | refine AWP.scope ?_ | refine AWP.label ?_)
  refine ⟨_, _, rfl, rfl, Heap.le_refl _, d, Heap.set_same _ _ _, ?_, rfl⟩
  rw [Heap.del_set]
  exact k1.mono (Heap.le_del k2 (k4.symm.none (Heap.set_same _ _ _)))

theorem cClock_spec (c : Nat) (S : Cod) (H : Heap) (h : CodAt H c S) : ACalls Q.prog 16 [.ptr c 0] H fun r H' => r = ck S.c ∧ H' = H := by
  obtain ⟨d, h1, h2, h3⟩ := h
  refine ACalls.body (N := 7) Try.func16 rfl rfl rfl rfl ?_
  repeat (first | refine AOps.op rfl rfl ?_ | refine AOps.load rfl rfl rfl rfl rfl ?_)
  refine AWP.seq (AWP.region ?_)
  refine AOps.allocL 0 rfl rfl rfl rfl ?_
  repeat (first
    | refine AOps.op rfl rfl ?_ | refine AOps.load rfl rfl rfl rfl rfl ?_ | refine AOps.nil ?_ | refine AWP.seq ?_ | refine AWP.region ?_ | refine AWP.block ?_ | refine AWP.skip ?_ | refine AWP.exit ?_ | refine AWP.scope ?_ | refine AWP.label ?_)
  refine AOps.load rfl (cellsAt_ptr h1) rfl rfl rfl ?_
  repeat (first
    | refine AOps.op rfl rfl ?_ | refine AOps.load rfl rfl rfl rfl rfl ?_ | refine AOps.nil ?_ | refine AWP.seq ?_ | refine AWP.region ?_ | refine AWP.block ?_ | refine AWP.skip ?_ | refine AWP.exit ?_ | refine AWP.scope ?_ | refine AWP.label ?_)
  refine AOps.storeL rfl rfl rfl rfl ?_
  repeat (first
    | refine AOps.op rfl rfl ?_ | refine AOps.load rfl rfl rfl rfl rfl ?_ | refine AOps.nil ?_ | refine AWP.seq ?_ | refine AWP.region ?_ | refine AWP.block ?_ | refine AWP.skip ?_ | refine AWP.exit ?_ | refine AWP.scope ?_ | refine AWP.label ?_)
  refine AWP.ret ?_
  exact ⟨_, _, rfl, rfl, Heap.le_refl _, rfl, rfl⟩
end Go.Proofs.Ytlbnhokhhangdaa

/- The package txn: transactions told. -/
namespace Go.Proofs.Ytlbnhokhhangdaa
open Go Go.Am Go.Pk Go.Lib
set_option linter.unusedVariables false
set_option maxRecDepth 10000
attribute [local irreducible] AOps AWP DRun ACalls

theorem wput_cons (D : Dic) (w : Wr) (r : List Wr) : wput D (w :: r) = ((dput D w.key).1 ++ (vput w ++ (wput (dput D w.key).2.2 r).1), (wput (dput D w.key).2.2 r).2) := by rw [wput]
theorem wput_nil (D : Dic) : wput D [] = ([], D) := by rw [wput]

theorem CodAt.dict {H : Heap} {c : Nat} {S : Cod} (h : CodAt H c S) : S.d.keys.length ≤ 8 := by
  obtain ⟨d, -, h2, -⟩ := h
  have := h2.1.1; omega

attribute [local irreducible] dput wput

set_option maxHeartbeats 1000000 in
theorem cPut_ok (c : Nat) (S : Cod) (t : Txn) (tag : Tag) (H : Heap) (h : CodAt H c S) (ht : tcheck t = 0) :
    ACalls Q.prog 12 [.ptr c 0, tx t tag] H fun r H' => ∃ tag', r = .tuple [.sl (encB (tput S t).1) tag', .int .i64 0] ∧ CodAt H' c (tput S t).2 := by
  obtain ⟨t1, t2, t3, t4, t5, t6, t7⟩ := tcheck_ok ht
  have hcheck := Check_spec t tag (by omega)
  obtain ⟨o, s, k, ws⟩ := t
  simp only at t1 t2 t3 t4 t5 t6 t7
  obtain ⟨on, rfl⟩ := Int.eq_ofNat_of_zero_le t1.1
  obtain ⟨sn, rfl⟩ := Int.eq_ofNat_of_zero_le (show 0 ≤ s by omega)
  have eo : IntKind.u64.wrap ((on : Nat) : Int) = ((on : Nat) : Int) := wrap_u64 (by omega)
  have es : IntKind.u64.wrap ((sn : Nat) : Int) = ((sn : Nat) : Int) := wrap_u64 (by omega)
  have ew : IntKind.u64.wrap ((ws.length : Nat) : Int) = ((ws.length : Nat) : Int) := wrap_u64 (by omega)
  have lo := uvarint_length64 (x := on) (by omega)
  have ls := uvarint_length64 (x := sn) (by omega)
  have lw := uvarint_length64 (x := ws.length) (by omega)
  obtain ⟨d, h1, h2, h3⟩ := h
  refine ACalls.body (N := 91) Try.func12 rfl rfl rfl rfl ?_
  repeat (first | refine AOps.op rfl rfl ?_ | refine AOps.load rfl rfl rfl rfl rfl ?_)
  refine AWP.seq (AWP.region ?_)
  refine AOps.boxL 0 rfl rfl rfl rfl rfl ?_
  repeat (first
    | refine AOps.op rfl rfl ?_ | refine AOps.load rfl rfl rfl rfl rfl ?_ | refine AOps.nil ?_ | refine AWP.seq ?_ | refine AWP.region ?_ | refine AWP.block ?_ | refine AWP.skip ?_ | refine AWP.exit ?_ | refine AWP.scope ?_ | refine AWP.label ?_)
  refine AOps.call rfl rfl rfl ((hcheck H).mono ?_)
  rintro _ H0 ⟨rfl, e0⟩
  subst e0
  rw [ht]
  repeat (first
    | refine AOps.op rfl rfl ?_ | refine AOps.load rfl rfl rfl rfl rfl ?_ | refine AOps.nil ?_ | refine AWP.seq ?_ | refine AWP.region ?_ | refine AWP.block ?_ | refine AWP.skip ?_ | refine AWP.exit ?_ | refine AWP.scope ?_ | refine AWP.label ?_)
  refine AWP.cond rfl (fun h => by simp at h) (fun _ => ?_)
  repeat (first
    | refine AOps.op rfl rfl ?_ | refine AOps.load rfl rfl rfl rfl rfl ?_ | refine AOps.nil ?_ | refine AWP.seq ?_ | refine AWP.region ?_ | refine AWP.block ?_ | refine AWP.skip ?_ | refine AWP.exit ?_ | refine AWP.scope ?_ | refine AWP.label ?_)
  refine AOps.buildSlice (els := [on, sn].map fun n => AV.int .u64 (n : Nat)) rfl (by rw [eo, es]; rfl) rfl ?_
  refine AOps.call rfl rfl rfl ((All_spec [on, sn] .full (by intro n hn; simp at hn; omega) (by simp) H0).mono ?_)
  rintro _ H1 ⟨g1, rfl, a1, b1⟩
  have hc1 := hbase_le H1 g1 _ _ (b1 ▸ h1)
  repeat (first
    | refine AOps.op rfl rfl ?_ | refine AOps.load rfl rfl rfl rfl rfl ?_ | refine AOps.nil ?_ | refine AWP.seq ?_ | refine AWP.region ?_ | refine AWP.block ?_ | refine AWP.skip ?_ | refine AWP.exit ?_ | refine AWP.scope ?_ | refine AWP.label ?_)
  refine AWP.draw [[], [0], [0, 1], [0, 1, 2], [], [4], [0, 1, 2, 3, 4, 5], [0, 1, 2, 3, 4, 5, 6], [0, 1, 2, 3, 4, 5, 6, 7], [0, 1, 2, 3, 4, 5, 6, 7], [0, 1, 2, 3, 4, 5, 6, 7, 8], [0, 1, 2, 3, 4, 5, 6, 7, 8, 9, 10]] [(0, .pure), (1, .pure), (2, .pure), (3, .read), (4, .pure), (5, .read), (6, .eff), (7, .pure), (8, .pure), (9, .pure), (10, .pure), (11, .pure)] rfl ?_
  repeat (first | refine DRun.op rfl rfl rfl ?_ | refine DRun.loadI rfl rfl rfl rfl rfl ?_ | refine DRun.load rfl rfl rfl rfl rfl rfl ?_ | refine DRun.nil ?_)
  refine DRun.load rfl rfl rfl (cellsAt_ptr hc1) rfl rfl ?_
  repeat (first | refine DRun.op rfl rfl rfl ?_ | refine DRun.loadI rfl rfl rfl rfl rfl ?_ | refine DRun.load rfl rfl rfl rfl rfl rfl ?_ | refine DRun.nil ?_)
  refine DRun.eff rfl rfl rfl (OpT.callF rfl rfl ((cPut_spec S.c k h3 t3 H1).mono ?_))
  rintro _ H2 ⟨_, rfl, g2, rfl, a2, b2⟩
  refine ⟨?_, ?_⟩
  · repeat (first | exact Chk.nil | refine Chk.pre rfl ?_)
  repeat (first | refine DRun.op rfl rfl rfl ?_ | refine DRun.loadI rfl rfl rfl rfl rfl ?_ | refine DRun.load rfl rfl rfl rfl rfl rfl ?_ | refine DRun.nil ?_)
  have la : ([on, sn].flatMap uvarint).length ≤ 20 := by simp; omega
  have lc := cput_len h3 t3
  repeat (first
    | refine AOps.op rfl rfl ?_ | refine AOps.load rfl rfl rfl rfl rfl ?_ | refine AOps.nil ?_ | refine AWP.seq ?_ | refine AWP.region ?_ | refine AWP.block ?_ | refine AWP.skip ?_ | refine AWP.exit ?_ | refine AWP.scope ?_ | refine AWP.label ?_)
  have hd : App (hbase H2 g2) 1 ([on, sn].flatMap uvarint).length g1 := by rw [b2]; exact a1
  refine appB (hbase H2 g2) (hbase_le _ _) rfl rfl rfl rfl rfl hd (by omega) fun g3 H3 a3 b3 => ?_
  rw [b2, b1] at b3
  repeat (first
    | refine AOps.op rfl rfl ?_ | refine AOps.load rfl rfl rfl rfl rfl ?_ | refine AOps.nil ?_ | refine AWP.seq ?_ | refine AWP.region ?_ | refine AWP.block ?_ | refine AWP.skip ?_ | refine AWP.exit ?_ | refine AWP.scope ?_ | refine AWP.label ?_)
  refine AOps.call (vs := [.int .u64 (ws.length : Nat)]) (by show some [AV.int .u64 (IntKind.u64.wrap (((ws.map wr).length : Nat) : Int))] = _; rw [wr_len, ew]) rfl rfl ((Put_spec ws.length (by omega) H3).mono ?_)
  rintro _ H4 ⟨g4, rfl, a4, b4⟩
  have hd : App (hbase H4 g4) 1 ([on, sn].flatMap uvarint ++ cput S.c k).length g3 := by rw [b4]; exact a3
  refine appB (hbase H4 g4) (hbase_le _ _) rfl rfl rfl rfl rfl hd (by simp only [List.length_append]; omega) fun g5 H5 a5 b5 => ?_
  rw [b4, b3] at b5
  repeat (first
    | refine AOps.op rfl rfl ?_ | refine AOps.load rfl rfl rfl rfl rfl ?_ | refine AOps.nil ?_ | refine AWP.seq ?_ | refine AWP.region ?_ | refine AWP.skip ?_ | refine AWP.exit ?_ | refine AWP.scope ?_ | refine AWP.label ?_)
  generalize hpre : [on, sn].flatMap uvarint ++ cput S.c k ++ uvarint ws.length = pre at *
  have lpre : pre.length ≤ 60 := by rw [← hpre]; simp only [List.length_append]; omega
  have hcod : CodAt H0 c S := ⟨d, h1, h2, h3⟩
  refine AWP.thnA (α := Str × Tag × Heap) (fun a => a.1 = pre ++ (wput S.d ws).1 ∧ CodAt (hbase a.2.2 a.2.1) c ⟨(wput S.d ws).2, S.c⟩)
    (fun a => [(0, .ptr c 0), (3, .lptr 0 0), (7, .sl (encB a.1) a.2.1)]) (fun _ => [[.int .i64 (on : Nat), .int .i64 (sn : Nat), .int .i64 k.a, .int .i64 k.b, .int .i64 k.c, .sl (ws.map wr) tag]]) (fun a => a.2.2) ?_ ?_
  · refine AWP.block ?_
    refine AWP.loopA (α := Nat × Str × Tag × Heap × Dic) (fun a => a.1 ≤ ws.length ∧ a.2.1 ++ (wput a.2.2.2.2 (ws.drop a.1)).1 = pre ++ (wput S.d ws).1 ∧ (wput a.2.2.2.2 (ws.drop a.1)).2 = (wput S.d ws).2 ∧
        App a.2.2.2.1 1 a.2.1.length a.2.2.1 ∧ CodAt (hbase a.2.2.2.1 a.2.2.1) c ⟨a.2.2.2.2, S.c⟩ ∧ a.2.1.length ≤ 60 + 400 * a.1) (fun a => ws.length - a.1)
      (fun a => [(0, .ptr c 0), (3, .lptr 0 0), (7, .sl (encB a.2.1) a.2.2.1), (48, .sl (ws.map wr) tag), (49, .int .i64 ws.length), (50, .int .i64 a.1)])
      (fun _ => [[.int .i64 (on : Nat), .int .i64 (sn : Nat), .int .i64 k.a, .int .i64 k.b, .int .i64 k.c, .sl (ws.map wr) tag]]) (fun a => a.2.2.2.1) (0, pre, g5, H5, S.d)
      ⟨by simp, by simp, by simp, a5, by rw [b5]; exact hcod, by simp only; omega⟩ ⟨rfl, rfl, rfl, rfl, ?_, rfl, trivial⟩ rfl (Heap.le_refl _) ?_
    · exact congrArg (fun n : Nat => some (AV.int .i64 n)) (wr_len ws)
    rintro ⟨i, acc, g6, H6, D⟩ ⟨i1, i2, i3, i4, i5, i6⟩
    simp only at i1 i2 i3 i4 i5 i6
    dsimp only
    repeat (first
    | refine AOps.op rfl rfl ?_ | refine AOps.load rfl rfl rfl rfl rfl ?_ | refine AOps.nil ?_ | refine AWP.seq ?_ | refine AWP.region ?_ | refine AWP.block ?_ | refine AWP.skip ?_ | refine AWP.exit ?_ | refine AWP.scope ?_ | refine AWP.label ?_)
    refine AWP.cond rfl (fun h => ?_) (fun h => ?_)
    · have h : i < ws.length := by simp at h; omega
      have ei : IntKind.i64.wrap ((i : Int) + 1) = ((i + 1 : Nat) : Int) := wrap_i64 (n := i + 1) (by omega)
      obtain ⟨w, hw⟩ : ∃ w, ws[i]? = some w := ⟨ws[i], List.getElem?_eq_getElem h⟩
      obtain ⟨hk, hv⟩ := t6 w (List.mem_of_getElem? hw)
      have hdrop : ws.drop i = w :: ws.drop (i + 1) := by
        obtain ⟨q1, q2⟩ := List.getElem?_eq_some_iff.1 hw
        rw [List.drop_eq_getElem_cons q1, q2]
      rw [hdrop, wput_cons] at i2 i3
      simp only at i2 i3
      obtain ⟨d6, e1, e2, e3⟩ := i5
      simp only at e1 e2 e3
      have hD8 : D.keys.length ≤ 8 := by have := e2.1.1; omega
      have ldp := dput_len D hD8 w.key hk
      repeat (first
    | refine AOps.op rfl rfl ?_ | refine AOps.load rfl rfl rfl rfl rfl ?_ | refine AOps.nil ?_ | refine AWP.seq ?_ | refine AWP.region ?_ | refine AWP.block ?_ | refine AWP.skip ?_ | refine AWP.exit ?_ | refine AWP.scope ?_ | refine AWP.label ?_)
      refine AOps.indexSl rfl rfl rfl rfl rfl rfl (by omega) (getD_wr hw) rfl rfl ?_
      repeat (first
    | refine AOps.op rfl rfl ?_ | refine AOps.load rfl rfl rfl rfl rfl ?_ | refine AOps.nil ?_ | refine AWP.seq ?_ | refine AWP.region ?_ | refine AWP.block ?_ | refine AWP.skip ?_ | refine AWP.exit ?_ | refine AWP.scope ?_ | refine AWP.label ?_)
      refine AOps.allocH rfl rfl fun x hx => ?_
      refine AOps.storeH rfl rfl rfl (Heap.set_same _ _ _) rfl rfl ?_
      rw [Heap.set_set]
      obtain ⟨a6, b6⟩ := App.set (x := .box [.str w.key, .str w.value, .bool w.gone]) i4 hx
      have hx6 : (hbase H6 g6) x = none := by
        cases e : (hbase H6 g6) x with
        | none => rfl
        | some y => rw [hbase_le H6 g6 _ _ e] at hx; cases hx
      have hxc : x ≠ c := by rintro rfl; rw [e1] at hx6; cases hx6
      have hA : ((hbase H6 g6).del c).le (hbase (H6.set x (.box [.str w.key, .str w.value, .bool w.gone])) g6) := by rw [b6]; exact (Heap.del_le _ _).trans (Heap.le_set hx6)
      have hc6 : (hbase (H6.set x (.box [.str w.key, .str w.value, .bool w.gone])) g6) c = some (cbox d6 S.c) := by rw [b6, Heap.set_ne _ _ (Ne.symm hxc)]; exact e1
      have hx7 : (hbase (H6.set x (.box [.str w.key, .str w.value, .bool w.gone])) g6) x = some (.box [.str w.key, .str w.value, .bool w.gone]) := by rw [b6, Heap.set_same]
      generalize H6.set x (.box [.str w.key, .str w.value, .bool w.gone]) = H7 at *
      repeat (first
    | refine AOps.op rfl rfl ?_ | refine AOps.load rfl rfl rfl rfl rfl ?_ | refine AOps.nil ?_ | refine AWP.seq ?_ | refine AWP.region ?_ | refine AWP.block ?_ | refine AWP.skip ?_ | refine AWP.exit ?_ | refine AWP.scope ?_ | refine AWP.label ?_)
      refine AWP.draw [[], [0], [0, 1], [0, 1, 2], [], [4], [0, 1, 2, 3, 4, 5], [0, 1, 2, 3, 4, 5, 6], [0, 1, 2, 3, 4, 5, 6, 7], [0, 1, 2, 3, 4, 5, 6, 7], [0, 1, 2, 3, 4, 5, 6, 7, 8], [0, 1, 2, 3, 4, 5, 6, 7, 8, 9, 10]] [(0, .pure), (1, .pure), (2, .pure), (3, .read), (4, .pure), (5, .read), (6, .eff), (7, .pure), (8, .pure), (9, .pure), (10, .pure), (11, .pure)] rfl ?_
      repeat (first | refine DRun.op rfl rfl rfl ?_ | refine DRun.loadI rfl rfl rfl rfl rfl ?_ | refine DRun.load rfl rfl rfl rfl rfl rfl ?_ | refine DRun.nil ?_)
      refine DRun.load rfl rfl rfl (cellsAt_ptr (hbase_le _ _ _ _ hc6)) rfl rfl ?_
      repeat (first | refine DRun.op rfl rfl rfl ?_ | refine DRun.loadI rfl rfl rfl rfl rfl ?_ | refine DRun.load rfl rfl rfl rfl rfl rfl ?_ | refine DRun.nil ?_)
      refine DRun.load rfl rfl rfl (cellsAt_ptr (hbase_le _ _ _ _ hx7)) rfl rfl ?_
      repeat (first | refine DRun.op rfl rfl rfl ?_ | refine DRun.loadI rfl rfl rfl rfl rfl ?_ | refine DRun.load rfl rfl rfl rfl rfl rfl ?_ | refine DRun.nil ?_)
      refine DRun.eff rfl rfl rfl (OpT.callF rfl rfl ((ACalls.frame (hA.trans (hbase_le _ _)) (dPut_spec d6 D w.key _ e2 hk)).mono ?_))
      rintro _ H8 ⟨A', ⟨x8, g8, rfl, rfl, k1⟩, k2, k3, k4⟩
      refine ⟨?_, ?_⟩
      · repeat (first | exact Chk.nil | refine Chk.pre rfl ?_)
      obtain ⟨a8, q1, q2⟩ := App.keep a6 hA k3 k2 k4
      have hc8 := q2 c _ (by simp only [Heap.minus, Heap.del_same]; exact hc6)
      have hx8 := q2 x _ (by simp only [Heap.minus, Heap.del_ne _ hxc, hx6]; exact hx7)
      have hAc : A' c = none := k4.symm.none (b := c) (x := cbox d6 S.c) (by simp only [Heap.minus, Heap.del_same]; exact hbase_le _ _ _ _ hc6)
      have hcod8 : CodAt (hbase H8 g6) c ⟨(dput D w.key).2.2, S.c⟩ := CodAt.of hc8 k1 e3 q1 hAc
      generalize hdp : (dput D w.key).1 = dp at *
      generalize (dput D w.key).2.2 = D2 at *
      repeat (first | refine DRun.op rfl rfl rfl ?_ | refine DRun.loadI rfl rfl rfl rfl rfl ?_ | refine DRun.load rfl rfl rfl rfl rfl rfl ?_ | refine DRun.nil ?_)
      repeat (first
    | refine AOps.op rfl rfl ?_ | refine AOps.load rfl rfl rfl rfl rfl ?_ | refine AOps.nil ?_ | refine AWP.seq ?_ | refine AWP.region ?_ | refine AWP.block ?_ | refine AWP.skip ?_ | refine AWP.exit ?_ | refine AWP.scope ?_ | refine AWP.label ?_)
      refine appB H8 (Heap.le_refl _) rfl rfl rfl rfl rfl a8 (by omega) fun g9 H9 a9 b9 => ?_
      rw [← b9] at hc8 hx8 hcod8
      repeat (first
    | refine AOps.op rfl rfl ?_ | refine AOps.load rfl rfl rfl rfl rfl ?_ | refine AOps.nil ?_ | refine AWP.seq ?_ | refine AWP.region ?_ | refine AWP.block ?_ | refine AWP.skip ?_ | refine AWP.exit ?_ | refine AWP.scope ?_ | refine AWP.label ?_)
      refine AOps.load rfl (cellsAt_ptr (hbase_le _ _ _ _ hx8)) rfl rfl rfl ?_
      repeat (first
    | refine AOps.op rfl rfl ?_ | refine AOps.load rfl rfl rfl rfl rfl ?_ | refine AOps.nil ?_ | refine AWP.seq ?_ | refine AWP.region ?_ | refine AWP.block ?_ | refine AWP.skip ?_ | refine AWP.exit ?_ | refine AWP.scope ?_ | refine AWP.label ?_)
      refine AWP.cond rfl (fun hg => ?_) (fun hg => ?_)
      · repeat (first
    | refine AOps.op rfl rfl ?_ | refine AOps.load rfl rfl rfl rfl rfl ?_ | refine AOps.nil ?_ | refine AWP.seq ?_ | refine AWP.region ?_ | refine AWP.block ?_ | refine AWP.skip ?_ | refine AWP.exit ?_ | refine AWP.scope ?_ | refine AWP.label ?_)
        refine AOps.buildSlice (els := encB [0]) rfl rfl rfl ?_
        refine appB H9 (Heap.le_refl _) rfl rfl rfl rfl rfl a9 (by simp; omega) fun g10 H10 a10 b10 => ?_
        rw [← b10] at hcod8
        repeat (first
    | refine AOps.op rfl rfl ?_ | refine AOps.load rfl rfl rfl rfl rfl ?_ | refine AOps.nil ?_ | refine AWP.seq ?_ | refine AWP.region ?_ | refine AWP.block ?_ | refine AWP.skip ?_ | refine AWP.exit ?_ | refine AWP.scope ?_ | refine AWP.label ?_)
        refine ⟨(i + 1, acc ++ dp ++ [0], g10, H10, D2), by ((try dsimp only); omega), ⟨h, ?_, i3, a10, hcod8, by simp; omega⟩, ⟨rfl, rfl, rfl, rfl, rfl, congrArg (fun x => some (AV.int .i64 x)) ei, trivial⟩, rfl, Heap.le_refl _⟩
        have : vput w = [0] := by simp [vput, hg]
        rw [this] at i2
        simpa using i2
      · have ev : IntKind.u64.wrap (IntKind.u64.wrap ((w.value.length : Nat) : Int) + 1) = ((w.value.length + 1 : Nat) : Int) := by rw [wrap_u64 (n := w.value.length) (by omega)]; exact wrap_u64 (n := w.value.length + 1) (by omega)
        have lv := uvarint_length64 (x := w.value.length + 1) (by omega)
        repeat (first
    | refine AOps.op rfl rfl ?_ | refine AOps.load rfl rfl rfl rfl rfl ?_ | refine AOps.nil ?_ | refine AWP.seq ?_ | refine AWP.region ?_ | refine AWP.block ?_ | refine AWP.skip ?_ | refine AWP.exit ?_ | refine AWP.scope ?_ | refine AWP.label ?_)
        refine AOps.load rfl (cellsAt_ptr (hbase_le _ _ _ _ hx8)) rfl rfl rfl ?_
        repeat (first
    | refine AOps.op rfl rfl ?_ | refine AOps.load rfl rfl rfl rfl rfl ?_ | refine AOps.nil ?_ | refine AWP.seq ?_ | refine AWP.region ?_ | refine AWP.block ?_ | refine AWP.skip ?_ | refine AWP.exit ?_ | refine AWP.scope ?_ | refine AWP.label ?_)
        refine AOps.call (vs := [.int .u64 (w.value.length + 1 : Nat)]) (congrArg (fun x => some [AV.int .u64 x]) ev) rfl rfl ((Put_spec (w.value.length + 1) (by omega) H9).mono ?_)
        rintro _ H10 ⟨g10, rfl, a10, b10⟩
        have hd : App (hbase H10 g10) 1 (acc ++ dp).length g9 := by rw [b10]; exact a9
        refine appB (hbase H10 g10) (hbase_le _ _) rfl rfl rfl rfl rfl hd (by simp; omega) fun g11 H11 a11 b11 => ?_
        rw [b10] at b11
        rw [← b11] at hx8 hcod8
        repeat (first
    | refine AOps.op rfl rfl ?_ | refine AOps.load rfl rfl rfl rfl rfl ?_ | refine AOps.nil ?_ | refine AWP.seq ?_ | refine AWP.region ?_ | refine AWP.block ?_ | refine AWP.skip ?_ | refine AWP.exit ?_ | refine AWP.scope ?_ | refine AWP.label ?_)
        refine AOps.load rfl (cellsAt_ptr (hbase_le _ _ _ _ hx8)) rfl rfl rfl ?_
        repeat (first
    | refine AOps.op rfl rfl ?_ | refine AOps.load rfl rfl rfl rfl rfl ?_ | refine AOps.nil ?_ | refine AWP.seq ?_ | refine AWP.region ?_ | refine AWP.block ?_ | refine AWP.skip ?_ | refine AWP.exit ?_ | refine AWP.scope ?_ | refine AWP.label ?_)
        refine appB H11 (Heap.le_refl _) rfl rfl rfl rfl rfl a11 (by simp; omega) fun g12 H12 a12 b12 => ?_
        rw [← b12] at hcod8
        repeat (first
    | refine AOps.op rfl rfl ?_ | refine AOps.load rfl rfl rfl rfl rfl ?_ | refine AOps.nil ?_ | refine AWP.seq ?_ | refine AWP.region ?_ | refine AWP.block ?_ | refine AWP.skip ?_ | refine AWP.exit ?_ | refine AWP.scope ?_ | refine AWP.label ?_)
        refine ⟨(i + 1, acc ++ dp ++ uvarint (w.value.length + 1) ++ w.value, g12, H12, D2), by ((try dsimp only); omega), ⟨h, ?_, i3, a12, hcod8, by simp; omega⟩, ⟨rfl, rfl, rfl, rfl, rfl, congrArg (fun x => some (AV.int .i64 x)) ei, trivial⟩, rfl, Heap.le_refl _⟩
        have : vput w = uvarint (w.value.length + 1) ++ w.value := by simp [vput, hg]
        rw [this] at i2
        simpa using i2
    · have h : ws.length ≤ i := by simp at h; omega
      rw [List.drop_of_length_le h, wput_nil] at i2 i3
      simp only [List.append_nil] at i2 i3
      repeat (first
    | refine AOps.op rfl rfl ?_ | refine AOps.load rfl rfl rfl rfl rfl ?_ | refine AOps.nil ?_ | refine AWP.seq ?_ | refine AWP.region ?_ | refine AWP.block ?_ | refine AWP.skip ?_ | refine AWP.exit ?_ | refine AWP.scope ?_ | refine AWP.label ?_)
      exact ⟨(acc, g6, H6), ⟨i2, by rw [← i3]; exact i5⟩, ⟨rfl, rfl, rfl, trivial⟩, rfl, Heap.le_refl _⟩
  rintro ⟨acc, g7, H7⟩ ⟨j1, j2⟩
  simp only at j1 j2
  obtain ⟨d7, e1, e2, e3⟩ := j2.mono (hbase_le _ _)
  simp only at e1 e2 e3
  repeat (first
    | refine AOps.op rfl rfl ?_ | refine AOps.load rfl rfl rfl rfl rfl ?_ | refine AOps.nil ?_ | refine AWP.seq ?_ | refine AWP.region ?_ | refine AWP.block ?_ | refine AWP.skip ?_ | refine AWP.exit ?_ | refine AWP.scope ?_ | refine AWP.label ?_)
  refine AOps.storeH rfl rfl rfl e1 rfl rfl ?_
  repeat (first
    | refine AOps.op rfl rfl ?_ | refine AOps.load rfl rfl rfl rfl rfl ?_ | refine AOps.nil ?_ | refine AWP.seq ?_ | refine AWP.region ?_ | refine AWP.block ?_ | refine AWP.skip ?_ | refine AWP.exit ?_ | refine AWP.scope ?_ | refine AWP.label ?_)
  refine AWP.ret ?_
  refine ⟨_, _, rfl, rfl, Heap.le_refl _, g7, ?_, d7, Heap.set_same _ _ _, ?_, t3⟩
  · rw [j1, ← hpre]
    simp [tput]; rfl
  · rw [Heap.del_set]; exact e2
end Go.Proofs.Ytlbnhokhhangdaa

/- The package txn: parts read, up to the first error. -/
namespace Go.Proofs.Ytlbnhokhhangdaa
open Go Go.Am Go.Pk Go.Lib
set_option linter.unusedVariables false
set_option maxRecDepth 10000
attribute [local irreducible] AOps AWP DRun ACalls

def rbox (b : Str) (tag : Tag) (u e : Nat) : AObj := .box [.sl (encB b) tag, .int .i64 u, .int .i64 e]

theorem Heap.set_self {H : Heap} {b : Nat} {x : AObj} (h : H b = some x) : H.set b x = H := by
  funext k
  simp only [Heap.set]
  split
  · rename_i c; rw [c, h]
  · rfl

theorem number_spec (q : Nat) (b : Str) (tag : Tag) (u e most above : Nat) (H : Heap) (h : H q = some (rbox b tag u e)) (hu : u ≤ b.length) (hb : b.length < 2 ^ 40) :
    ACalls Q.prog 50 [.ptr q 0, .int .u64 most, .int .i64 above] H fun r H' => r = .int .u64 (rnum b (u, e) most above).1 ∧
      H' = H.set q (rbox b tag (rnum b (u, e) most above).2.1 (rnum b (u, e) most above).2.2) := by
  refine ACalls.body (N := 54) Try.func50 rfl rfl rfl rfl ?_
  repeat (first
    | refine AOps.op rfl rfl ?_ | refine AOps.load rfl rfl rfl rfl rfl ?_ | refine AOps.nil ?_ | refine AWP.seq ?_ | refine AWP.region ?_ | refine AWP.block ?_ | refine AWP.skip ?_ | refine AWP.exit ?_ | refine AWP.scope ?_ | refine AWP.label ?_)
  refine AOps.load rfl (cellsAt_ptr h) rfl rfl rfl ?_
  repeat (first
    | refine AOps.op rfl rfl ?_ | refine AOps.load rfl rfl rfl rfl rfl ?_ | refine AOps.nil ?_ | refine AWP.seq ?_ | refine AWP.region ?_ | refine AWP.block ?_ | refine AWP.skip ?_ | refine AWP.exit ?_ | refine AWP.scope ?_ | refine AWP.label ?_)
  refine AWP.cond rfl (fun he => ?_) (fun he => ?_)
  · have he : e ≠ 0 := by simp at he; omega
    have hr : rnum b (u, e) most above = (0, u, e) := rnum_bad he
    repeat (first
    | refine AOps.op rfl rfl ?_ | refine AOps.load rfl rfl rfl rfl rfl ?_ | refine AOps.nil ?_ | refine AWP.seq ?_ | refine AWP.region ?_ | refine AWP.block ?_ | refine AWP.skip ?_ | refine AWP.exit ?_ | refine AWP.scope ?_ | refine AWP.label ?_)
    refine AWP.ret ?_
    refine ⟨_, _, rfl, rfl, Heap.le_refl _, ?_, ?_⟩
    · rw [hr]; rfl
    · rw [hr, Heap.set_self h]
  have he : e = 0 := by simp at he; omega
  subst he
  have hr : rnum b (u, 0) most above = ((vtake (b.drop u)).1, u + (vtake (b.drop u)).2.1, if (vtake (b.drop u)).2.2 = 0 ∧ most < (vtake (b.drop u)).1 then above else (vtake (b.drop u)).2.2) := by
    unfold rnum; rw [if_neg (by simp)]
  rw [hr]
  clear hr
  have hv := (vtake_le (b.drop u)).1
  rw [List.length_drop] at hv
  have hv4 := (vtake_le (b.drop u)).2.2.2
  generalize hx : vtake (b.drop u) = x at *
  obtain ⟨n, s, f⟩ := x
  simp only at hv hv4
  dsimp only
  have es : IntKind.i64.wrap ((u : Int) + (s : Nat)) = ((u + s : Nat) : Int) := wrap_i64 (n := u + s) (by omega)
  repeat (first
    | refine AOps.op rfl rfl ?_ | refine AOps.load rfl rfl rfl rfl rfl ?_ | refine AOps.nil ?_ | refine AWP.seq ?_ | refine AWP.region ?_ | refine AWP.block ?_ | refine AWP.skip ?_ | refine AWP.exit ?_ | refine AWP.scope ?_ | refine AWP.label ?_)
  refine AWP.draw [[], [0], [0, 1], [0, 1, 2], [], [4], [4, 5], [4, 5, 6], [0, 1, 2, 3, 4, 5, 6, 7], [0, 1, 2, 3, 4, 5, 6, 7, 8], [0, 1, 2, 3, 4, 5, 6, 7, 8, 9], [0, 1, 2, 3, 4, 5, 6, 7, 8, 9, 10], [0, 1, 2, 3, 4, 5, 6, 7, 8, 9, 10], [0, 1, 2, 3, 4, 5, 6, 7, 8, 9, 10], [0, 1, 2, 3, 4, 5, 6, 7, 8, 9, 10, 11], [0, 1, 2, 3, 4, 5, 6, 7, 8, 9, 10, 11, 12, 14], [0, 1, 2, 3, 4, 5, 6, 7, 8, 9, 10, 11, 12, 13, 14, 15]] [(0, .pure), (1, .pure), (2, .pure), (3, .read), (4, .pure), (5, .pure), (6, .pure), (7, .read), (8, .pure), (9, .eff), (10, .pure), (11, .pure), (12, .pure), (13, .pure), (14, .pure), (15, .pure), (16, .pure)] rfl ?_
  repeat (first | refine DRun.op rfl rfl rfl ?_ | refine DRun.loadI rfl rfl rfl rfl rfl ?_ | refine DRun.load rfl rfl rfl rfl rfl rfl ?_ | refine DRun.nil ?_)
  refine DRun.load rfl rfl rfl (cellsAt_ptr h) rfl rfl ?_
  repeat (first | refine DRun.op rfl rfl rfl ?_ | refine DRun.loadI rfl rfl rfl rfl rfl ?_ | refine DRun.load rfl rfl rfl rfl rfl rfl ?_ | refine DRun.nil ?_)
  refine DRun.load rfl rfl rfl (cellsAt_ptr h) rfl rfl ?_
  repeat (first | refine DRun.op rfl rfl rfl ?_ | refine DRun.loadI rfl rfl rfl rfl rfl ?_ | refine DRun.load rfl rfl rfl rfl rfl rfl ?_ | refine DRun.nil ?_)
  refine DRun.pureT rfl rfl rfl (fun loc H => cutFrom u rfl rfl hu ⟨rfl, rfl, rfl⟩) ?_
  refine DRun.eff rfl rfl rfl (OpT.callF rfl rfl ((Take_spec (b.drop u) .no H (by rw [List.length_drop]; omega)).mono ?_))
  rintro _ H ⟨rfl, rfl⟩
  rw [hx]
  refine ⟨?_, ?_⟩
  · repeat (first | exact Chk.nil | refine Chk.pre rfl ?_)
  repeat (first | refine DRun.op rfl rfl rfl ?_ | refine DRun.loadI rfl rfl rfl rfl rfl ?_ | refine DRun.load rfl rfl rfl rfl rfl rfl ?_ | refine DRun.nil ?_)
  repeat (first
    | refine AOps.op rfl rfl ?_ | refine AOps.load rfl rfl rfl rfl rfl ?_ | refine AOps.nil ?_ | refine AWP.seq ?_ | refine AWP.region ?_ | refine AWP.block ?_ | refine AWP.skip ?_ | refine AWP.exit ?_ | refine AWP.scope ?_ | refine AWP.label ?_)
  refine AOps.load rfl (cellsAt_ptr h) rfl rfl rfl ?_
  repeat (first
    | refine AOps.op rfl rfl ?_ | refine AOps.load rfl rfl rfl rfl rfl ?_ | refine AOps.nil ?_ | refine AWP.seq ?_ | refine AWP.region ?_ | refine AWP.block ?_ | refine AWP.skip ?_ | refine AWP.exit ?_ | refine AWP.scope ?_ | refine AWP.label ?_)
  refine AOps.storeH rfl rfl rfl h rfl rfl ?_
  repeat (first
    | refine AOps.op rfl rfl ?_ | refine AOps.load rfl rfl rfl rfl rfl ?_ | refine AOps.nil ?_ | refine AWP.seq ?_ | refine AWP.region ?_ | refine AWP.block ?_ | refine AWP.skip ?_ | refine AWP.exit ?_ | refine AWP.scope ?_ | refine AWP.label ?_)
  refine AOps.storeH rfl rfl rfl (Heap.set_same _ _ _) rfl rfl ?_
  rw [Heap.set_set, es]
  repeat (first
    | refine AOps.op rfl rfl ?_ | refine AOps.load rfl rfl rfl rfl rfl ?_ | refine AOps.nil ?_ | refine AWP.seq ?_ | refine AWP.region ?_ | refine AWP.block ?_ | refine AWP.skip ?_ | refine AWP.exit ?_ | refine AWP.scope ?_ | refine AWP.label ?_)
  refine AOps.and (j := 2) (y := decide ((n : Int) > most)) [_, _, _] rfl rfl rfl rfl rfl rfl rfl (fun hb => ?_) ?_
  · repeat (first | refine AOps.unguard rfl rfl (by assumption) ?_ | refine AOps.op rfl rfl ?_ | refine AOps.load rfl rfl rfl rfl rfl ?_)
    exact AOps.nil (GuardEnd.of 3 rfl rfl rfl rfl rfl)
  repeat (first
    | refine AOps.op rfl rfl ?_ | refine AOps.load rfl rfl rfl rfl rfl ?_ | refine AOps.nil ?_ | refine AWP.seq ?_ | refine AWP.region ?_ | refine AWP.block ?_ | refine AWP.skip ?_ | refine AWP.exit ?_ | refine AWP.scope ?_ | refine AWP.label ?_)
  refine AWP.cond rfl (fun hg => ?_) (fun hg => ?_)
  · have hg : f = 0 ∧ most < n := by simp at hg; omega
    repeat (first
    | refine AOps.op rfl rfl ?_ | refine AOps.load rfl rfl rfl rfl rfl ?_ | refine AOps.nil ?_ | refine AWP.seq ?_ | refine AWP.region ?_ | refine AWP.block ?_ | refine AWP.skip ?_ | refine AWP.exit ?_ | refine AWP.scope ?_ | refine AWP.label ?_)
    refine AOps.storeH rfl rfl rfl (Heap.set_same _ _ _) rfl rfl ?_
    rw [Heap.set_set]
    repeat (first
    | refine AOps.op rfl rfl ?_ | refine AOps.load rfl rfl rfl rfl rfl ?_ | refine AOps.nil ?_ | refine AWP.seq ?_ | refine AWP.region ?_ | refine AWP.block ?_ | refine AWP.skip ?_ | refine AWP.exit ?_ | refine AWP.scope ?_ | refine AWP.label ?_)
    refine AWP.ret ?_
    refine ⟨_, _, rfl, rfl, Heap.le_refl _, rfl, ?_⟩
    rw [if_pos hg]; rfl
  · have hg : ¬ (f = 0 ∧ most < n) := by simp at hg; omega
    repeat (first
    | refine AOps.op rfl rfl ?_ | refine AOps.load rfl rfl rfl rfl rfl ?_ | refine AOps.nil ?_ | refine AWP.seq ?_ | refine AWP.region ?_ | refine AWP.block ?_ | refine AWP.skip ?_ | refine AWP.exit ?_ | refine AWP.scope ?_ | refine AWP.label ?_)
    refine AWP.ret ?_
    refine ⟨_, _, rfl, rfl, Heap.le_refl _, rfl, ?_⟩
    rw [if_neg hg]; rfl

theorem text_spec (q : Nat) (b : Str) (tag : Tag) (u e n : Nat) (H : Heap) (h : H q = some (rbox b tag u e)) (hu : u ≤ b.length) (hb : b.length < 2 ^ 40) (hn : n < 2 ^ 62) :
    ACalls Q.prog 72 [.ptr q 0, .int .i64 n] H fun r H' => r = .str (rtext b (u, e) n).1 ∧ H' = H.set q (rbox b tag (rtext b (u, e) n).2.1 (rtext b (u, e) n).2.2) := by
  have hlen := encB_length b
  refine ACalls.body (N := 56) Try.func72 rfl rfl rfl rfl ?_
  repeat (first
    | refine AOps.op rfl rfl ?_ | refine AOps.load rfl rfl rfl rfl rfl ?_ | refine AOps.nil ?_ | refine AWP.seq ?_ | refine AWP.region ?_ | refine AWP.block ?_ | refine AWP.skip ?_ | refine AWP.exit ?_ | refine AWP.scope ?_ | refine AWP.label ?_)
  refine AWP.draw [[], [0], [0, 1], [0, 1, 2], [0, 1, 2, 3], [0, 1, 2, 3, 4], [0, 1, 2, 3, 4, 5], [0, 1, 2, 3, 4, 5, 6], [0, 1, 2, 3, 4, 5, 6, 7], [0, 1, 2, 3, 4, 5, 6, 7, 8], [0, 1, 2, 3, 4, 5, 6, 7, 8, 9], [0, 1, 2, 3, 4, 5], [0, 1, 2, 3, 4, 5, 11], [0, 1, 2, 3, 4, 5, 11, 12], [0, 1, 2, 3, 4, 5, 11, 12, 13], [0, 1, 2, 3, 4, 5, 6, 7, 8, 9, 10, 11, 12, 13, 14], [0, 1, 2, 3, 4, 5], [0, 1, 2, 3, 4, 5, 6, 7, 8, 9, 10, 11, 12, 13, 14, 15, 16], [0, 1, 2, 3, 4, 5, 6, 7, 8, 9, 10, 11, 12, 13, 14, 15, 16, 17]] [(0, .pure), (1, .pure), (2, .pure), (3, .read), (4, .pure), (5, .pure), (6, .pure), (7, .pure), (8, .pure), (9, .read), (10, .pure), (11, .pure), (12, .pure), (13, .pure), (14, .read), (15, .pure), (16, .pure), (17, .pure), (18, .pure)] rfl ?_
  by_cases he : e ≠ 0
  · have hr : rtext b (u, e) n = ([], u, e) := by unfold rtext; rw [if_pos he]
    rw [hr]
    obtain ⟨e', rfl⟩ : ∃ e', e = e' + 1 := ⟨e - 1, by omega⟩
    repeat (first | refine DRun.op rfl rfl rfl ?_ | refine DRun.loadI rfl rfl rfl rfl rfl ?_ | refine DRun.load rfl rfl rfl rfl rfl rfl ?_ | refine DRun.nil ?_)
    refine DRun.load rfl rfl rfl (cellsAt_ptr h) rfl rfl ?_
    repeat (first | refine DRun.op rfl rfl rfl ?_ | refine DRun.loadI rfl rfl rfl rfl rfl ?_ | refine DRun.load rfl rfl rfl rfl rfl rfl ?_ | refine DRun.nil ?_)
    repeat (first | refine DRun.skipG rfl rfl rfl rfl rfl ?_ | refine DRun.skipGr rfl rfl rfl rfl rfl ?_)
    repeat (first | refine DRun.op rfl rfl rfl ?_ | refine DRun.loadI rfl rfl rfl rfl rfl ?_ | refine DRun.load rfl rfl rfl rfl rfl rfl ?_ | refine DRun.nil ?_)
    refine AWP.cond rfl (fun h => by simp at h) (fun _ => ?_)
    repeat (first
    | refine AOps.op rfl rfl ?_ | refine AOps.load rfl rfl rfl rfl rfl ?_ | refine AOps.nil ?_ | refine AWP.seq ?_ | refine AWP.region ?_ | refine AWP.block ?_ | refine AWP.skip ?_ | refine AWP.exit ?_ | refine AWP.scope ?_ | refine AWP.label ?_)
    refine AOps.load rfl (cellsAt_ptr h) rfl rfl rfl ?_
    repeat (first
    | refine AOps.op rfl rfl ?_ | refine AOps.load rfl rfl rfl rfl rfl ?_ | refine AOps.nil ?_ | refine AWP.seq ?_ | refine AWP.region ?_ | refine AWP.block ?_ | refine AWP.skip ?_ | refine AWP.exit ?_ | refine AWP.scope ?_ | refine AWP.label ?_)
    refine AWP.cond rfl (fun _ => ?_) (fun h => by simp at h; omega)
    repeat (first
    | refine AOps.op rfl rfl ?_ | refine AOps.load rfl rfl rfl rfl rfl ?_ | refine AOps.nil ?_ | refine AWP.seq ?_ | refine AWP.region ?_ | refine AWP.block ?_ | refine AWP.skip ?_ | refine AWP.exit ?_ | refine AWP.scope ?_ | refine AWP.label ?_)
    refine AWP.ret ?_
    exact ⟨_, _, rfl, rfl, Heap.le_refl _, rfl, (Heap.set_self h).symm⟩
  have he : e = 0 := Decidable.of_not_not he
  subst he
  have ed : IntKind.i64.wrap (((encB b).length : Int) - (u : Nat)) = (b.length : Int) - (u : Nat) := by rw [hlen]; exact wrap_i64' (by omega) (by omega)
  repeat (first | refine DRun.op rfl rfl rfl ?_ | refine DRun.loadI rfl rfl rfl rfl rfl ?_ | refine DRun.load rfl rfl rfl rfl rfl rfl ?_ | refine DRun.opG rfl rfl rfl rfl rfl ?_ | refine DRun.loadG rfl rfl rfl rfl rfl rfl rfl rfl ?_ | refine DRun.nil ?_)
  refine DRun.load rfl rfl rfl (cellsAt_ptr h) rfl rfl ?_
  repeat (first | refine DRun.op rfl rfl rfl ?_ | refine DRun.loadI rfl rfl rfl rfl rfl ?_ | refine DRun.load rfl rfl rfl rfl rfl rfl ?_ | refine DRun.opG rfl rfl rfl rfl rfl ?_ | refine DRun.loadG rfl rfl rfl rfl rfl rfl rfl rfl ?_ | refine DRun.nil ?_)
  refine DRun.loadG rfl rfl rfl rfl rfl (cellsAt_ptr h) rfl rfl ?_
  repeat (first | refine DRun.op rfl rfl rfl ?_ | refine DRun.loadI rfl rfl rfl rfl rfl ?_ | refine DRun.load rfl rfl rfl rfl rfl rfl ?_ | refine DRun.opG rfl rfl rfl rfl rfl ?_ | refine DRun.loadG rfl rfl rfl rfl rfl rfl rfl rfl ?_ | refine DRun.nil ?_)
  refine DRun.loadG rfl rfl rfl rfl rfl (cellsAt_ptr h) rfl rfl ?_
  repeat (first | refine DRun.op rfl rfl rfl ?_ | refine DRun.loadI rfl rfl rfl rfl rfl ?_ | refine DRun.load rfl rfl rfl rfl rfl rfl ?_ | refine DRun.opG rfl rfl rfl rfl rfl ?_ | refine DRun.loadG rfl rfl rfl rfl rfl rfl rfl rfl ?_ | refine DRun.nil ?_)
  refine AWP.cond rfl (fun hg => ?_) (fun hg => ?_)
  · have hg : b.length - u < n := by rw [ed] at hg; simp at hg; omega
    have hr : rtext b (u, 0) n = ([], u, 2) := by unfold rtext; rw [if_neg (by simp), if_pos hg]
    rw [hr]
    repeat (first
    | refine AOps.op rfl rfl ?_ | refine AOps.load rfl rfl rfl rfl rfl ?_ | refine AOps.nil ?_ | refine AWP.seq ?_ | refine AWP.region ?_ | refine AWP.block ?_ | refine AWP.skip ?_ | refine AWP.exit ?_ | refine AWP.scope ?_ | refine AWP.label ?_)
    refine AOps.storeH rfl rfl rfl h rfl rfl ?_
    repeat (first
    | refine AOps.op rfl rfl ?_ | refine AOps.load rfl rfl rfl rfl rfl ?_ | refine AOps.nil ?_ | refine AWP.seq ?_ | refine AWP.region ?_ | refine AWP.block ?_ | refine AWP.skip ?_ | refine AWP.exit ?_ | refine AWP.scope ?_ | refine AWP.label ?_)
    refine AOps.load rfl (cellsAt_ptr (Heap.set_same _ _ _)) rfl rfl rfl ?_
    repeat (first
    | refine AOps.op rfl rfl ?_ | refine AOps.load rfl rfl rfl rfl rfl ?_ | refine AOps.nil ?_ | refine AWP.seq ?_ | refine AWP.region ?_ | refine AWP.block ?_ | refine AWP.skip ?_ | refine AWP.exit ?_ | refine AWP.scope ?_ | refine AWP.label ?_)
    refine AWP.cond rfl (fun _ => ?_) (fun h => by simp at h)
    repeat (first
    | refine AOps.op rfl rfl ?_ | refine AOps.load rfl rfl rfl rfl rfl ?_ | refine AOps.nil ?_ | refine AWP.seq ?_ | refine AWP.region ?_ | refine AWP.block ?_ | refine AWP.skip ?_ | refine AWP.exit ?_ | refine AWP.scope ?_ | refine AWP.label ?_)
    refine AWP.ret ?_
    exact ⟨_, _, rfl, rfl, Heap.le_refl _, rfl, rfl⟩
  · have hg : ¬ b.length - u < n := by rw [ed] at hg; simp at hg; omega
    have hr : rtext b (u, 0) n = ((b.take (u + n)).drop u, u + n, 0) := by unfold rtext; rw [if_neg (by simp), if_neg hg]
    rw [hr]
    have es : IntKind.i64.wrap ((u : Int) + (n : Nat)) = ((u + n : Nat) : Int) := wrap_i64 (n := u + n) (by omega)
    have e2 : IntKind.i64.wrap (((u + n : Nat) : Int) - (n : Nat)) = (u : Int) := by rw [show (((u + n : Nat) : Int) - (n : Nat)) = ((u : Nat) : Int) by omega]; exact wrap_i64 (by omega)
    repeat (first
    | refine AOps.op rfl rfl ?_ | refine AOps.load rfl rfl rfl rfl rfl ?_ | refine AOps.nil ?_ | refine AWP.seq ?_ | refine AWP.region ?_ | refine AWP.block ?_ | refine AWP.skip ?_ | refine AWP.exit ?_ | refine AWP.scope ?_ | refine AWP.label ?_)
    refine AOps.load rfl (cellsAt_ptr h) rfl rfl rfl ?_
    repeat (first
    | refine AOps.op rfl rfl ?_ | refine AOps.load rfl rfl rfl rfl rfl ?_ | refine AOps.nil ?_ | refine AWP.seq ?_ | refine AWP.region ?_ | refine AWP.block ?_ | refine AWP.skip ?_ | refine AWP.exit ?_ | refine AWP.scope ?_ | refine AWP.label ?_)
    refine AWP.cond rfl (fun h => by simp at h) (fun _ => ?_)
    repeat (first
    | refine AOps.op rfl rfl ?_ | refine AOps.load rfl rfl rfl rfl rfl ?_ | refine AOps.nil ?_ | refine AWP.seq ?_ | refine AWP.region ?_ | refine AWP.block ?_ | refine AWP.skip ?_ | refine AWP.exit ?_ | refine AWP.scope ?_ | refine AWP.label ?_)
    refine AOps.load rfl (cellsAt_ptr h) rfl rfl rfl ?_
    repeat (first
    | refine AOps.op rfl rfl ?_ | refine AOps.load rfl rfl rfl rfl rfl ?_ | refine AOps.nil ?_ | refine AWP.seq ?_ | refine AWP.region ?_ | refine AWP.block ?_ | refine AWP.skip ?_ | refine AWP.exit ?_ | refine AWP.scope ?_ | refine AWP.label ?_)
    refine AOps.storeH rfl rfl rfl h rfl rfl ?_
    rw [es]
    have h2 : (H.set q (.box [.sl (encB b) tag, .int .i64 (u + n : Nat), .int .i64 (0 : Nat)])) q = some (rbox b tag (u + n) 0) := Heap.set_same _ _ _
    repeat (first
    | refine AOps.op rfl rfl ?_ | refine AOps.load rfl rfl rfl rfl rfl ?_ | refine AOps.nil ?_ | refine AWP.seq ?_ | refine AWP.region ?_ | refine AWP.block ?_ | refine AWP.skip ?_ | refine AWP.exit ?_ | refine AWP.scope ?_ | refine AWP.label ?_)
    refine AWP.draw [[], [0], [0, 1], [0, 1, 2], [], [4], [4, 5], [4, 5, 6], [], [4, 5, 6, 7, 8], [], [10], [10, 11], [10, 11, 12], [0, 1, 2, 3, 4, 5, 6, 7, 8, 9, 10, 11, 12, 13], [0, 1, 2, 3, 4, 5, 6, 7, 8, 9, 10, 11, 12, 13, 14], [0, 1, 2, 3, 4, 5, 6, 7, 8, 9, 10, 11, 12, 13, 14, 15]] [(0, .pure), (1, .pure), (2, .pure), (3, .read), (4, .pure), (5, .pure), (6, .pure), (7, .read), (8, .pure), (9, .pure), (10, .pure), (11, .pure), (12, .pure), (13, .read), (14, .pure), (15, .pure), (16, .pure)] rfl ?_
    repeat (first | refine DRun.op rfl rfl rfl ?_ | refine DRun.loadI rfl rfl rfl rfl rfl ?_ | refine DRun.load rfl rfl rfl rfl rfl rfl ?_ | refine DRun.nil ?_)
    refine DRun.load rfl rfl rfl (cellsAt_ptr h2) rfl rfl ?_
    repeat (first | refine DRun.op rfl rfl rfl ?_ | refine DRun.loadI rfl rfl rfl rfl rfl ?_ | refine DRun.load rfl rfl rfl rfl rfl rfl ?_ | refine DRun.nil ?_)
    refine DRun.load rfl rfl rfl (cellsAt_ptr h2) rfl rfl ?_
    repeat (first | refine DRun.op rfl rfl rfl ?_ | refine DRun.loadI rfl rfl rfl rfl rfl ?_ | refine DRun.load rfl rfl rfl rfl rfl rfl ?_ | refine DRun.nil ?_)
    refine DRun.load rfl rfl rfl (cellsAt_ptr h2) rfl rfl ?_
    refine DRun.pureT rfl rfl rfl (fun loc H => cutB u (u + n) rfl (congrArg (fun x => some (AV.int .i64 x)) e2) rfl (by omega) (by omega) ⟨rfl, rfl, rfl⟩) ?_
    refine DRun.pureT rfl rfl rfl (fun loc H => OpT.toStr rfl rfl rfl rfl rfl rfl rfl ⟨rfl, rfl, rfl⟩) ?_
    repeat (first | refine DRun.op rfl rfl rfl ?_ | refine DRun.loadI rfl rfl rfl rfl rfl ?_ | refine DRun.load rfl rfl rfl rfl rfl rfl ?_ | refine DRun.nil ?_)
    repeat (first
    | refine AOps.op rfl rfl ?_ | refine AOps.load rfl rfl rfl rfl rfl ?_ | refine AOps.nil ?_ | refine AWP.seq ?_ | refine AWP.region ?_ | refine AWP.block ?_ | refine AWP.skip ?_ | refine AWP.exit ?_ | refine AWP.scope ?_ | refine AWP.label ?_)
    refine AWP.ret ?_
    exact ⟨_, _, rfl, rfl, Heap.le_refl _, rfl, rfl⟩
end Go.Proofs.Ytlbnhokhhangdaa

/- The package txn: a write read. -/
namespace Go.Proofs.Ytlbnhokhhangdaa
open Go Go.Am Go.Pk Go.Lib
set_option linter.unusedVariables false
set_option maxRecDepth 10000
attribute [local irreducible] AOps AWP DRun ACalls
attribute [local irreducible] dtake

theorem dtake_lt (D : Dic) (b : Str) (hb : b.length < 2 ^ 40) : (dtake D b).2.1 < 2 ^ 40 := by have := dtake_le D b; omega

theorem write_spec (q d : Nat) (b : Str) (tag : Tag) (u : Nat) (D : Dic) (A : Heap) (hq : A q = some (rbox b tag u 0)) (hd : DictAt (A.del q) d D) (hu : u ≤ b.length) (hb : b.length < 2 ^ 40) :
    ACalls Q.prog 52 [.ptr q 0, .ptr d 0] A fun r A' => r = wr (rwrite b D u).1 ∧ A' q = some (rbox b tag (rwrite b D u).2.2.1 (rwrite b D u).2.2.2) ∧ DictAt (A'.del q) d (rwrite b D u).2.1 := by
  have hd1 := dtake_le D (b.drop u)
  generalize hw : rwrite b D u = W
  unfold rwrite at hw
  rw [List.length_drop] at hd1
  generalize hx : dtake D (b.drop u) = x at *
  obtain ⟨k, s, f, D'⟩ := x
  simp only at hd1
  dsimp only at hw
  have es : IntKind.i64.wrap ((u : Int) + (s : Nat)) = ((u + s : Nat) : Int) := wrap_i64 (n := u + s) (by omega)
  have hle := rnum_le (b := b) (s := (u + s, f)) (by simp only; omega) 257 4
  have hlt := rnum_lt b (u + s, f) 257 4
  generalize hy : rnum b (u + s, f) 257 4 = y at *
  obtain ⟨n, u2, f2⟩ := y
  simp only at hle hlt
  dsimp only at hw
  refine ACalls.body (N := 57) Try.func52 rfl rfl rfl rfl ?_
  repeat (first | refine AOps.op rfl rfl ?_ | refine AOps.load rfl rfl rfl rfl rfl ?_)
  refine AWP.seq (AWP.region ?_)
  refine AOps.allocL 0 rfl rfl rfl rfl ?_
  repeat (first
    | refine AOps.op rfl rfl ?_ | refine AOps.load rfl rfl rfl rfl rfl ?_ | refine AOps.nil ?_ | refine AWP.seq ?_ | refine AWP.region ?_ | refine AWP.block ?_ | refine AWP.skip ?_ | refine AWP.exit ?_ | refine AWP.scope ?_ | refine AWP.label ?_)
  refine AWP.draw [[], [], [1], [1, 2], [1, 2, 3], [], [5], [5, 6], [5, 6, 7], [1, 2, 3, 4, 5, 6, 7, 8], [0, 1, 2, 3, 4, 5, 6, 7, 8, 9], [0, 1, 2, 3, 4, 5, 6, 7, 8, 9, 10], [0, 1, 2, 3, 4, 5, 6, 7, 8, 9, 10, 11], [0, 1, 2, 3, 4, 5, 6, 7, 8, 9, 10, 11], [0, 1, 2, 3, 4, 5, 6, 7, 8, 9, 10, 11], [0, 1, 2, 3, 4, 5, 6, 7, 8, 9, 10, 11, 12], [0, 1, 2, 3, 4, 5, 6, 7, 8, 9, 10, 11, 12, 13, 15], [0, 1, 2, 3, 4, 5, 6, 7, 8, 9, 10, 11, 12, 13, 14, 15, 16]] [(0, .pure), (1, .pure), (2, .pure), (3, .pure), (4, .read), (5, .pure), (6, .pure), (7, .pure), (8, .read), (9, .pure), (10, .eff), (11, .pure), (12, .pure), (13, .pure), (14, .pure), (15, .pure), (16, .pure), (17, .pure)] rfl ?_
  repeat (first | refine DRun.op rfl rfl rfl ?_ | refine DRun.loadI rfl rfl rfl rfl rfl ?_ | refine DRun.load rfl rfl rfl rfl rfl rfl ?_ | refine DRun.nil ?_)
  refine DRun.load rfl rfl rfl (cellsAt_ptr hq) rfl rfl ?_
  repeat (first | refine DRun.op rfl rfl rfl ?_ | refine DRun.loadI rfl rfl rfl rfl rfl ?_ | refine DRun.load rfl rfl rfl rfl rfl rfl ?_ | refine DRun.nil ?_)
  refine DRun.load rfl rfl rfl (cellsAt_ptr hq) rfl rfl ?_
  repeat (first | refine DRun.op rfl rfl rfl ?_ | refine DRun.loadI rfl rfl rfl rfl rfl ?_ | refine DRun.load rfl rfl rfl rfl rfl rfl ?_ | refine DRun.nil ?_)
  refine DRun.pureT rfl rfl rfl (fun loc H => cutFrom u rfl rfl hu ⟨rfl, rfl, rfl⟩) ?_
  refine DRun.eff rfl rfl rfl (OpT.callF rfl rfl ((ACalls.beside (A := A.del q) (B := Heap.one q (rbox b tag u 0)) (Heap.del_le A q) (Heap.one_le.2 hq) (Heap.one_disj (Heap.del_same A q)).symm
    (dTake_spec d D (b.drop u) .no (A.del q) hd (by rw [List.length_drop]; omega))).mono ?_))
  rintro _ H ⟨A1, ⟨rfl, k1⟩, k2, k3, k4⟩
  rw [hx] at k1 ⊢
  simp only at k1
  have hq1 := Heap.one_le.1 k3
  have hq0 : A1 q = none := k4.symm.none (Heap.set_same _ _ _)
  refine ⟨?_, ?_⟩
  · repeat (first | exact Chk.nil | refine Chk.pre rfl ?_)
  repeat (first | refine DRun.op rfl rfl rfl ?_ | refine DRun.loadI rfl rfl rfl rfl rfl ?_ | refine DRun.load rfl rfl rfl rfl rfl rfl ?_ | refine DRun.nil ?_)
  repeat (first
    | refine AOps.op rfl rfl ?_ | refine AOps.load rfl rfl rfl rfl rfl ?_ | refine AOps.nil ?_ | refine AWP.seq ?_ | refine AWP.region ?_ | refine AWP.block ?_ | refine AWP.skip ?_ | refine AWP.exit ?_ | refine AWP.scope ?_ | refine AWP.label ?_)
  refine AOps.load rfl (cellsAt_ptr hq1) rfl rfl rfl ?_
  repeat (first
    | refine AOps.op rfl rfl ?_ | refine AOps.load rfl rfl rfl rfl rfl ?_ | refine AOps.nil ?_ | refine AWP.seq ?_ | refine AWP.region ?_ | refine AWP.block ?_ | refine AWP.skip ?_ | refine AWP.exit ?_ | refine AWP.scope ?_ | refine AWP.label ?_)
  refine AOps.storeH rfl rfl rfl hq1 rfl rfl ?_
  repeat (first
    | refine AOps.op rfl rfl ?_ | refine AOps.load rfl rfl rfl rfl rfl ?_ | refine AOps.nil ?_ | refine AWP.seq ?_ | refine AWP.region ?_ | refine AWP.block ?_ | refine AWP.skip ?_ | refine AWP.exit ?_ | refine AWP.scope ?_ | refine AWP.label ?_)
  refine AOps.storeH rfl rfl rfl (Heap.set_same _ _ _) rfl rfl ?_
  rw [Heap.set_set, es]
  repeat (first
    | refine AOps.op rfl rfl ?_ | refine AOps.load rfl rfl rfl rfl rfl ?_ | refine AOps.nil ?_ | refine AWP.seq ?_ | refine AWP.region ?_ | refine AWP.block ?_ | refine AWP.skip ?_ | refine AWP.exit ?_ | refine AWP.scope ?_ | refine AWP.label ?_)
  refine AOps.call rfl rfl rfl ((number_spec q b tag (u + s) f 257 4 _ (Heap.set_same _ _ _) (by omega) hb).mono ?_)
  rintro _ H2 ⟨rfl, e2⟩
  rw [hy, Heap.set_set] at e2
  rw [hy]
  have hq2 : H2 q = some (rbox b tag u2 f2) := by rw [e2]; exact Heap.set_same _ _ _
  have hd2 : DictAt (H2.del q) d D' := by rw [e2, Heap.del_set]; exact k1.mono (Heap.le_del k2 hq0)
  clear e2
  repeat (first
    | refine AOps.op rfl rfl ?_ | refine AOps.load rfl rfl rfl rfl rfl ?_ | refine AOps.nil ?_ | refine AWP.seq ?_ | refine AWP.region ?_ | refine AWP.block ?_ | refine AWP.skip ?_ | refine AWP.exit ?_ | refine AWP.scope ?_ | refine AWP.label ?_)
  refine AOps.load rfl (cellsAt_ptr hq2) rfl rfl rfl ?_
  repeat (first
    | refine AOps.op rfl rfl ?_ | refine AOps.load rfl rfl rfl rfl rfl ?_ | refine AOps.nil ?_ | refine AWP.seq ?_ | refine AWP.region ?_ | refine AWP.block ?_ | refine AWP.skip ?_ | refine AWP.exit ?_ | refine AWP.scope ?_ | refine AWP.label ?_)
  refine AOps.or (j := 5) (y := ((n : Int) == 0)) [_, _] rfl rfl rfl rfl rfl rfl rfl (fun hb => ?_) ?_
  · repeat (first | refine AOps.unguard rfl rfl (by assumption) ?_ | refine AOps.op rfl rfl ?_ | refine AOps.load rfl rfl rfl rfl rfl ?_)
    exact AOps.nil (GuardEnd.of 2 rfl rfl rfl rfl rfl)
  repeat (first
    | refine AOps.op rfl rfl ?_ | refine AOps.load rfl rfl rfl rfl rfl ?_ | refine AOps.nil ?_ | refine AWP.seq ?_ | refine AWP.region ?_ | refine AWP.block ?_ | refine AWP.skip ?_ | refine AWP.exit ?_ | refine AWP.scope ?_ | refine AWP.label ?_)
  refine AWP.cond rfl (fun hg => ?_) (fun hg => ?_)
  · have hg : f2 ≠ 0 ∨ n = 0 := by simp at hg; omega
    rw [if_pos hg] at hw
    subst hw
    repeat (first
    | refine AOps.op rfl rfl ?_ | refine AOps.load rfl rfl rfl rfl rfl ?_ | refine AOps.nil ?_ | refine AWP.seq ?_ | refine AWP.region ?_ | refine AWP.block ?_ | refine AWP.skip ?_ | refine AWP.exit ?_ | refine AWP.scope ?_ | refine AWP.label ?_)
    refine AOps.storeL rfl rfl rfl rfl ?_
    repeat (first
    | refine AOps.op rfl rfl ?_ | refine AOps.load rfl rfl rfl rfl rfl ?_ | refine AOps.nil ?_ | refine AWP.seq ?_ | refine AWP.region ?_ | refine AWP.block ?_ | refine AWP.skip ?_ | refine AWP.exit ?_ | refine AWP.scope ?_ | refine AWP.label ?_)
    refine AWP.ret ?_
    exact ⟨_, _, rfl, rfl, Heap.le_refl _, rfl, hq2, hd2⟩
  · have hg : ¬ (f2 ≠ 0 ∨ n = 0) := by simp at hg; omega
    rw [if_neg hg] at hw
    have hf : f2 = 0 := by omega
    subst hf
    have hn : n ≤ 257 := by
      have := rnum_ok (b := b) (s := (u + s, f)) (most := 257) (above := 4) (by decide) (by rw [hy])
      have e : (rnum b (u + s, f) 257 4).1 = (vtake (b.drop (u + s))).1 := by rw [rnum_good this.1 this.2.1 (by omega)]
      rw [hy] at e
      simp only at e this
      omega
    have en : IntKind.i64.wrap (IntKind.i64.wrap ((n : Nat) : Int) - 1) = ((n - 1 : Nat) : Int) := by
      rw [wrap_i64 (n := n) (by omega), show ((n : Nat) : Int) - 1 = ((n - 1 : Nat) : Int) by omega]; exact wrap_i64 (by omega)
    repeat (first
    | refine AOps.op rfl rfl ?_ | refine AOps.load rfl rfl rfl rfl rfl ?_ | refine AOps.nil ?_ | refine AWP.seq ?_ | refine AWP.region ?_ | refine AWP.block ?_ | refine AWP.skip ?_ | refine AWP.exit ?_ | refine AWP.scope ?_ | refine AWP.label ?_)
    refine AOps.call (vs := [.ptr q 0, .int .i64 (n - 1 : Nat)]) (congrArg (fun x => some [AV.ptr q 0, AV.int .i64 x]) en) rfl rfl ((text_spec q b tag u2 0 (n - 1) H2 hq2 hle hb (by omega)).mono ?_)
    rintro _ H3 ⟨rfl, rfl⟩
    subst hw
    repeat (first
    | refine AOps.op rfl rfl ?_ | refine AOps.load rfl rfl rfl rfl rfl ?_ | refine AOps.nil ?_ | refine AWP.seq ?_ | refine AWP.region ?_ | refine AWP.block ?_ | refine AWP.skip ?_ | refine AWP.exit ?_ | refine AWP.scope ?_ | refine AWP.label ?_)
    refine AOps.storeL rfl rfl rfl rfl ?_
    repeat (first
    | refine AOps.op rfl rfl ?_ | refine AOps.load rfl rfl rfl rfl rfl ?_ | refine AOps.nil ?_ | refine AWP.seq ?_ | refine AWP.region ?_ | refine AWP.block ?_ | refine AWP.skip ?_ | refine AWP.exit ?_ | refine AWP.scope ?_ | refine AWP.label ?_)
    refine AWP.ret ?_
    refine ⟨_, _, rfl, rfl, Heap.le_refl _, rfl, Heap.set_same _ _ _, ?_⟩
    rw [Heap.del_set]; exact hd2
end Go.Proofs.Ytlbnhokhhangdaa
