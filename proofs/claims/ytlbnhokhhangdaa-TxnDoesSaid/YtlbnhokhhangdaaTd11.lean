/- The texts of this part, one behind the other: what is proved of the model and of the functions that the law reaches. -/
import Derived.Test.YtlbnhokhhangdaaTd10
import Derived.Test.YtlbnhokhhangdaaTd1
/- The statements of layer 6: what is too large; telling, with why not. -/
namespace Go.Proofs.Ytlbnhokhhangdaa
open Go Go.Am Go.Pk Go.Lib
set_option linter.unusedVariables false
set_option linter.unusedSimpArgs false
set_option maxRecDepth 10000
attribute [local irreducible] AOps AWP DRun ACalls

abbrev ac (a : TAct) : AV := .agg [.int .i64 a.d, .int .i64 a.t.origin, .int .i64 a.t.seq, .int .i64 a.t.deps.a, .int .i64 a.t.deps.b, .int .i64 a.t.deps.c, .sl (a.t.writes.map wr) .no, .sl (encB a.b) .no]

theorem Large_spec (t : Txn) (tag : Tag) (H : Heap) : ACalls Q.prog 39 [tx t tag] H fun r H' => r = .bool t.large ∧ H' = H := by
  obtain ⟨o, s, c, ws⟩ := t
  refine ACalls.body (N := 27) Try.func39 rfl rfl rfl rfl ?_
  repeat (first | refine AOps.op rfl rfl ?_ | refine AOps.load rfl rfl rfl rfl rfl ?_)
  refine AWP.seq (AWP.region ?_)
  refine AOps.boxL 0 rfl rfl rfl rfl rfl ?_
  repeat (first
    | refine AOps.op rfl rfl ?_ | refine AOps.load rfl rfl rfl rfl rfl ?_ | refine AOps.nil ?_ | refine AWP.seq ?_ | refine AWP.region ?_ | refine AWP.block ?_ | refine AWP.skip ?_ | refine AWP.exit ?_ | refine AWP.scope ?_ | refine AWP.label ?_)
  refine AWP.cond rfl (fun h => ?_) (fun h => ?_)
  · have h : 40 < ws.length := by simp at h; omega
    repeat (first
    | refine AOps.op rfl rfl ?_ | refine AOps.load rfl rfl rfl rfl rfl ?_ | refine AOps.nil ?_ | refine AWP.seq ?_ | refine AWP.region ?_ | refine AWP.block ?_ | refine AWP.skip ?_ | refine AWP.exit ?_ | refine AWP.scope ?_ | refine AWP.label ?_)
    refine AWP.ret ?_
    refine ⟨_, _, rfl, rfl, Heap.le_refl _, ?_, rfl⟩
    simp [Txn.large, h]; rfl
  have h40 : ws.length ≤ 40 := by simp at h; omega
  repeat (first
    | refine AOps.op rfl rfl ?_ | refine AOps.load rfl rfl rfl rfl rfl ?_ | refine AOps.nil ?_ | refine AWP.seq ?_ | refine AWP.region ?_ | refine AWP.skip ?_ | refine AWP.exit ?_ | refine AWP.scope ?_ | refine AWP.label ?_)
  refine AWP.block ?_
  refine AWP.loopA (α := Nat) (fun i => i ≤ ws.length ∧ (ws.take i).any Wr.wide = false) (fun i => ws.length - i)
    (fun i => [(10, .sl (ws.map wr) tag), (11, .int .i64 ws.length), (12, .int .i64 i)]) (fun _ => [(tx ⟨o, s, c, ws⟩ tag).cells]) (fun _ => H) 0 ⟨by simp, by simp⟩ ⟨rfl, ?_, rfl, trivial⟩ rfl (Heap.le_refl _) ?_
  · exact congrArg (fun n : Nat => some (AV.int .i64 n)) (wr_len ws)
  rintro i ⟨i1, i2⟩
  repeat (first
    | refine AOps.op rfl rfl ?_ | refine AOps.load rfl rfl rfl rfl rfl ?_ | refine AOps.nil ?_ | refine AWP.seq ?_ | refine AWP.region ?_ | refine AWP.block ?_ | refine AWP.skip ?_ | refine AWP.exit ?_ | refine AWP.scope ?_ | refine AWP.label ?_)
  refine AWP.cond rfl (fun h => ?_) (fun h => ?_)
  · have hlt : i < ws.length := by simp at h; omega
    have ei : IntKind.i64.wrap ((i : Int) + 1) = ((i + 1 : Nat) : Int) := wrap_i64 (n := i + 1) (by omega)
    obtain ⟨w, hw⟩ : ∃ w, ws[i]? = some w := ⟨ws[i], List.getElem?_eq_getElem hlt⟩
    repeat (first
    | refine AOps.op rfl rfl ?_ | refine AOps.load rfl rfl rfl rfl rfl ?_ | refine AOps.nil ?_ | refine AWP.seq ?_ | refine AWP.region ?_ | refine AWP.block ?_ | refine AWP.skip ?_ | refine AWP.exit ?_ | refine AWP.scope ?_ | refine AWP.label ?_)
    refine AOps.indexSl rfl rfl rfl rfl rfl rfl (by omega) (getD_wr hw) rfl rfl ?_
    repeat (first
    | refine AOps.op rfl rfl ?_ | refine AOps.load rfl rfl rfl rfl rfl ?_ | refine AOps.nil ?_ | refine AWP.seq ?_ | refine AWP.region ?_ | refine AWP.block ?_ | refine AWP.skip ?_ | refine AWP.exit ?_ | refine AWP.scope ?_ | refine AWP.label ?_)
    refine AOps.allocH rfl rfl fun x hx => ?_
    refine AOps.storeH rfl rfl rfl (Heap.set_same _ _ _) rfl rfl ?_
    rw [Heap.set_set]
    have hbx := Heap.set_same H x (.box [.str w.key, .str w.value, .bool w.gone])
    have hle := Heap.le_set (x := .box [.str w.key, .str w.value, .bool w.gone]) hx
    generalize H.set x (.box [.str w.key, .str w.value, .bool w.gone]) = H1 at *
    repeat (first
    | refine AOps.op rfl rfl ?_ | refine AOps.load rfl rfl rfl rfl rfl ?_ | refine AOps.nil ?_ | refine AWP.seq ?_ | refine AWP.region ?_ | refine AWP.block ?_ | refine AWP.skip ?_ | refine AWP.exit ?_ | refine AWP.scope ?_ | refine AWP.label ?_)
    refine AOps.load rfl (cellsAt_ptr hbx) rfl rfl rfl ?_
    repeat (first
    | refine AOps.op rfl rfl ?_ | refine AOps.load rfl rfl rfl rfl rfl ?_ | refine AOps.nil ?_ | refine AWP.seq ?_ | refine AWP.region ?_ | refine AWP.block ?_ | refine AWP.skip ?_ | refine AWP.exit ?_ | refine AWP.scope ?_ | refine AWP.label ?_)
    refine AOps.or (j := 4) (y := decide ((w.value.length : Int) > 9000)) [_, _, _, _] rfl rfl rfl rfl rfl rfl rfl (fun hb => ?_) ?_
    · repeat (first | refine AOps.unguard rfl rfl (by assumption) ?_ | refine AOps.op rfl rfl ?_ | refine AOps.load rfl rfl rfl rfl rfl ?_)
      refine AOps.load rfl (cellsAt_ptr hbx) rfl rfl rfl ?_
      repeat (first | refine AOps.unguard rfl rfl (by assumption) ?_ | refine AOps.op rfl rfl ?_ | refine AOps.load rfl rfl rfl rfl rfl ?_)
      exact AOps.nil (GuardEnd.of 4 rfl rfl rfl rfl rfl)
    repeat (first
    | refine AOps.op rfl rfl ?_ | refine AOps.load rfl rfl rfl rfl rfl ?_ | refine AOps.nil ?_ | refine AWP.seq ?_ | refine AWP.region ?_ | refine AWP.block ?_ | refine AWP.skip ?_ | refine AWP.exit ?_ | refine AWP.scope ?_ | refine AWP.label ?_)
    have hwd : (decide ((w.key.length : Int) > 9000) || decide ((w.value.length : Int) > 9000)) = w.wide := by
      rw [Bool.eq_iff_iff]; simp [Wr.wide]; omega
    refine AWP.cond rfl (fun h => ?_) (fun h => ?_)
    · have h : ws.any Wr.wide = true := List.any_eq_true.2 ⟨w, List.mem_of_getElem? hw, by rw [← hwd]; exact h⟩
      repeat (first
    | refine AOps.op rfl rfl ?_ | refine AOps.load rfl rfl rfl rfl rfl ?_ | refine AOps.nil ?_ | refine AWP.seq ?_ | refine AWP.region ?_ | refine AWP.block ?_ | refine AWP.skip ?_ | refine AWP.exit ?_ | refine AWP.scope ?_ | refine AWP.label ?_)
      refine AWP.ret ?_
      refine ⟨_, _, rfl, rfl, hle, ?_, rfl⟩
      simp [Txn.large, h]; rfl
    · repeat (first
    | refine AOps.op rfl rfl ?_ | refine AOps.load rfl rfl rfl rfl rfl ?_ | refine AOps.nil ?_ | refine AWP.seq ?_ | refine AWP.region ?_ | refine AWP.block ?_ | refine AWP.skip ?_ | refine AWP.exit ?_ | refine AWP.scope ?_ | refine AWP.label ?_)
      exact ⟨i + 1, by omega, ⟨by omega, any_take hw i2 (by rw [← hwd]; exact h)⟩, ⟨rfl, rfl, congrArg (fun x => some (AV.int .i64 x)) ei, trivial⟩, rfl, hle⟩
  · have h : ws.length ≤ i := by simp at h; omega
    rw [List.take_of_length_le h] at i2
    repeat (first
    | refine AOps.op rfl rfl ?_ | refine AOps.load rfl rfl rfl rfl rfl ?_ | refine AOps.nil ?_ | refine AWP.seq ?_ | refine AWP.region ?_ | refine AWP.block ?_ | refine AWP.skip ?_ | refine AWP.exit ?_ | refine AWP.scope ?_ | refine AWP.label ?_)
    refine AWP.ret ?_
    refine ⟨_, _, rfl, rfl, Heap.le_refl _, ?_, rfl⟩
    have : ¬ 40 < ws.length := by omega
    simp [Txn.large, this, i2]; rfl

theorem getD_ac {l : List TAct} {i : Nat} {a : TAct} (h : l[i]? = some a) : (l.map ac)[((i : Nat) : Int).toNat]? = some (ac a) := by simp [h]
theorem ac_len (l : List TAct) : (l.map ac).length = l.length := List.length_map _

theorem large_spec (l : List TAct) (tag : Tag) (H : Heap) :
    ACalls Q.prog 10 [.sl (l.map ac) tag] H fun r H' => r = .bool (alarge l) ∧ H' = H := by
  refine ACalls.body (N := 24) Try.func10 rfl rfl rfl rfl ?_
  repeat (first
    | refine AOps.op rfl rfl ?_ | refine AOps.load rfl rfl rfl rfl rfl ?_ | refine AOps.nil ?_ | refine AWP.seq ?_ | refine AWP.region ?_ | refine AWP.block ?_ | refine AWP.skip ?_ | refine AWP.exit ?_ | refine AWP.scope ?_ | refine AWP.label ?_)
  refine AWP.cond rfl (fun h => ?_) (fun h => ?_)
  · have h : 30 < l.length := by simp at h; omega
    repeat (first
    | refine AOps.op rfl rfl ?_ | refine AOps.load rfl rfl rfl rfl rfl ?_ | refine AOps.nil ?_ | refine AWP.seq ?_ | refine AWP.region ?_ | refine AWP.block ?_ | refine AWP.skip ?_ | refine AWP.exit ?_ | refine AWP.scope ?_ | refine AWP.label ?_)
    refine AWP.ret ?_
    refine ⟨_, _, rfl, rfl, Heap.le_refl _, ?_, rfl⟩
    simp [alarge, h]; rfl
  have h30 : l.length ≤ 30 := by simp at h; omega
  repeat (first
    | refine AOps.op rfl rfl ?_ | refine AOps.load rfl rfl rfl rfl rfl ?_ | refine AOps.nil ?_ | refine AWP.seq ?_ | refine AWP.region ?_ | refine AWP.skip ?_ | refine AWP.exit ?_ | refine AWP.scope ?_ | refine AWP.label ?_)
  refine AWP.block ?_
  refine AWP.loopA (α := Nat) (fun i => i ≤ l.length ∧ (l.take i).any TAct.large = false) (fun i => l.length - i)
    (fun i => [(8, .sl (l.map ac) tag), (9, .int .i64 l.length), (10, .int .i64 i)]) (fun _ => []) (fun _ => H) 0 ⟨by simp, by simp⟩ ⟨rfl, ?_, rfl, trivial⟩ rfl (Heap.le_refl _) ?_
  · exact congrArg (fun n : Nat => some (AV.int .i64 n)) (ac_len l)
  rintro i ⟨i1, i2⟩
  repeat (first
    | refine AOps.op rfl rfl ?_ | refine AOps.load rfl rfl rfl rfl rfl ?_ | refine AOps.nil ?_ | refine AWP.seq ?_ | refine AWP.region ?_ | refine AWP.block ?_ | refine AWP.skip ?_ | refine AWP.exit ?_ | refine AWP.scope ?_ | refine AWP.label ?_)
  refine AWP.cond rfl (fun h => ?_) (fun h => ?_)
  · have hlt : i < l.length := by simp at h; omega
    have ei : IntKind.i64.wrap ((i : Int) + 1) = ((i + 1 : Nat) : Int) := wrap_i64 (n := i + 1) (by omega)
    obtain ⟨a, ha⟩ : ∃ a, l[i]? = some a := ⟨l[i], List.getElem?_eq_getElem hlt⟩
    repeat (first
    | refine AOps.op rfl rfl ?_ | refine AOps.load rfl rfl rfl rfl rfl ?_ | refine AOps.nil ?_ | refine AWP.seq ?_ | refine AWP.region ?_ | refine AWP.block ?_ | refine AWP.skip ?_ | refine AWP.exit ?_ | refine AWP.scope ?_ | refine AWP.label ?_)
    refine AOps.indexSl rfl rfl rfl rfl rfl rfl (by omega) (getD_ac ha) rfl rfl ?_
    repeat (first
    | refine AOps.op rfl rfl ?_ | refine AOps.load rfl rfl rfl rfl rfl ?_ | refine AOps.nil ?_ | refine AWP.seq ?_ | refine AWP.region ?_ | refine AWP.block ?_ | refine AWP.skip ?_ | refine AWP.exit ?_ | refine AWP.scope ?_ | refine AWP.label ?_)
    refine AOps.allocH rfl rfl fun x hx => ?_
    refine AOps.storeH rfl rfl rfl (Heap.set_same _ _ _) rfl rfl ?_
    rw [Heap.set_set]
    obtain ⟨d, ⟨o, s, c, ws⟩, b⟩ := a
    have hbx := Heap.set_same H x (.box [.int .i64 d, .int .i64 o, .int .i64 s, .int .i64 c.a, .int .i64 c.b, .int .i64 c.c, .sl (ws.map wr) .no, .sl (encB b) .no])
    have hle := Heap.le_set (x := .box [.int .i64 d, .int .i64 o, .int .i64 s, .int .i64 c.a, .int .i64 c.b, .int .i64 c.c, .sl (ws.map wr) .no, .sl (encB b) .no]) hx
    generalize H.set x (.box [.int .i64 d, .int .i64 o, .int .i64 s, .int .i64 c.a, .int .i64 c.b, .int .i64 c.c, .sl (ws.map wr) .no, .sl (encB b) .no]) = H1 at *
    repeat (first
    | refine AOps.op rfl rfl ?_ | refine AOps.load rfl rfl rfl rfl rfl ?_ | refine AOps.nil ?_ | refine AWP.seq ?_ | refine AWP.region ?_ | refine AWP.block ?_ | refine AWP.skip ?_ | refine AWP.exit ?_ | refine AWP.scope ?_ | refine AWP.label ?_)
    refine AOps.load rfl (cellsAt_ptr hbx) rfl rfl rfl ?_
    refine AOps.call rfl rfl rfl ((Large_spec ⟨o, s, c, ws⟩ .no H1).mono ?_)
    rintro _ H1 ⟨rfl, rfl⟩
    repeat (first
    | refine AOps.op rfl rfl ?_ | refine AOps.load rfl rfl rfl rfl rfl ?_ | refine AOps.nil ?_ | refine AWP.seq ?_ | refine AWP.region ?_ | refine AWP.block ?_ | refine AWP.skip ?_ | refine AWP.exit ?_ | refine AWP.scope ?_ | refine AWP.label ?_)
    refine AOps.or (j := 3) (y := decide ((b.length : Int) > 9000)) [_, _, _, _] rfl rfl rfl rfl rfl rfl rfl (fun hb => ?_) ?_
    · repeat (first | refine AOps.unguard rfl rfl (by assumption) ?_ | refine AOps.op rfl rfl ?_ | refine AOps.load rfl rfl rfl rfl rfl ?_)
      refine AOps.load rfl (cellsAt_ptr hbx) rfl rfl rfl ?_
      repeat (first | refine AOps.unguard rfl rfl (by assumption) ?_ | refine AOps.op rfl rfl ?_ | refine AOps.load rfl rfl rfl rfl rfl ?_)
      exact AOps.nil (GuardEnd.of 4 rfl rfl rfl rfl (congrArg (fun n : Nat => some (AV.bool (decide ((n : Int) > 9000)))) (encB_length b)))
    repeat (first
    | refine AOps.op rfl rfl ?_ | refine AOps.load rfl rfl rfl rfl rfl ?_ | refine AOps.nil ?_ | refine AWP.seq ?_ | refine AWP.region ?_ | refine AWP.block ?_ | refine AWP.skip ?_ | refine AWP.exit ?_ | refine AWP.scope ?_ | refine AWP.label ?_)
    have hwd : (Txn.large ⟨o, s, c, ws⟩ || decide ((b.length : Int) > 9000)) = TAct.large ⟨d, ⟨o, s, c, ws⟩, b⟩ := by
      have : decide ((b.length : Int) > 9000) = decide (9000 < b.length) := by rw [decide_eq_decide]; omega
      rw [this]; rfl
    refine AWP.cond rfl (fun h => ?_) (fun h => ?_)
    · have h : l.any TAct.large = true := List.any_eq_true.2 ⟨_, List.mem_of_getElem? ha, by rw [← hwd]; exact h⟩
      repeat (first
    | refine AOps.op rfl rfl ?_ | refine AOps.load rfl rfl rfl rfl rfl ?_ | refine AOps.nil ?_ | refine AWP.seq ?_ | refine AWP.region ?_ | refine AWP.block ?_ | refine AWP.skip ?_ | refine AWP.exit ?_ | refine AWP.scope ?_ | refine AWP.label ?_)
      refine AWP.ret ?_
      refine ⟨_, _, rfl, rfl, hle, ?_, rfl⟩
      simp [alarge, h]; rfl
    · repeat (first
    | refine AOps.op rfl rfl ?_ | refine AOps.load rfl rfl rfl rfl rfl ?_ | refine AOps.nil ?_ | refine AWP.seq ?_ | refine AWP.region ?_ | refine AWP.block ?_ | refine AWP.skip ?_ | refine AWP.exit ?_ | refine AWP.scope ?_ | refine AWP.label ?_)
      exact ⟨i + 1, by omega, ⟨by omega, any_take ha i2 (by rw [← hwd]; exact h)⟩, ⟨rfl, rfl, congrArg (fun x => some (AV.int .i64 x)) ei, trivial⟩, rfl, hle⟩
  · have h : l.length ≤ i := by simp at h; omega
    rw [List.take_of_length_le h] at i2
    repeat (first
    | refine AOps.op rfl rfl ?_ | refine AOps.load rfl rfl rfl rfl rfl ?_ | refine AOps.nil ?_ | refine AWP.seq ?_ | refine AWP.region ?_ | refine AWP.block ?_ | refine AWP.skip ?_ | refine AWP.exit ?_ | refine AWP.scope ?_ | refine AWP.label ?_)
    refine AWP.ret ?_
    refine ⟨_, _, rfl, rfl, Heap.le_refl _, ?_, rfl⟩
    have : ¬ 30 < l.length := by omega
    simp [alarge, this, i2]; rfl

theorem coPut_spec (c : Nat) (S : Cod) (t : Txn) (tag : Tag) (hl : t.writes.length < 2 ^ 40) (H : Heap) (h : CodAt H c S) :
    ACalls Q.prog 12 [.ptr c 0, tx t tag] H fun x H' => ∃ tag', x = .tuple [.sl (encB (tputE S t).1) tag', .int .i64 (tputE S t).2.1] ∧ CodAt H' c (tputE S t).2.2 := by
  by_cases ht : tcheck t = 0
  · have e : tputE S t = ((tput S t).1, 0, (tput S t).2) := by unfold tputE; rw [if_pos ht]
    rw [e]
    exact cPut_ok c S t tag H h ht
  · have e : tputE S t = ([], tcheck t, S) := by unfold tputE; rw [if_neg ht]
    rw [e]
    have hcheck := Check_spec t tag hl
    obtain ⟨o, s, k, ws⟩ := t
    refine ACalls.body (N := 91) Try.func12 rfl rfl rfl rfl ?_
    repeat (first | refine AOps.op rfl rfl ?_ | refine AOps.load rfl rfl rfl rfl rfl ?_)
    refine AWP.seq (AWP.region ?_)
    refine AOps.boxL 0 rfl rfl rfl rfl rfl ?_
    repeat (first
    | refine AOps.op rfl rfl ?_ | refine AOps.load rfl rfl rfl rfl rfl ?_ | refine AOps.nil ?_ | refine AWP.seq ?_ | refine AWP.region ?_ | refine AWP.block ?_ | refine AWP.skip ?_ | refine AWP.exit ?_ | refine AWP.scope ?_ | refine AWP.label ?_)
    refine AOps.call rfl rfl rfl ((hcheck H).mono ?_)
    rintro _ H ⟨rfl, rfl⟩
    repeat (first
    | refine AOps.op rfl rfl ?_ | refine AOps.load rfl rfl rfl rfl rfl ?_ | refine AOps.nil ?_ | refine AWP.seq ?_ | refine AWP.region ?_ | refine AWP.block ?_ | refine AWP.skip ?_ | refine AWP.exit ?_ | refine AWP.scope ?_ | refine AWP.label ?_)
    refine AWP.cond rfl (fun _ => ?_) (fun h => by simp at h; omega)
    repeat (first
    | refine AOps.op rfl rfl ?_ | refine AOps.load rfl rfl rfl rfl rfl ?_ | refine AOps.nil ?_ | refine AWP.seq ?_ | refine AWP.region ?_ | refine AWP.block ?_ | refine AWP.skip ?_ | refine AWP.exit ?_ | refine AWP.scope ?_ | refine AWP.label ?_)
    refine AWP.ret ?_
    exact ⟨_, _, rfl, rfl, Heap.le_refl _, .full, rfl, h⟩

theorem R6Put_spec (r : Nat) (S : Cod) (t : Txn) (tag : Tag) (hl : t.writes.length < 2 ^ 40) (H : Heap) (h : RCodAt H r S) (hnow : S.d.now < 2 ^ 50) :
    ACalls Q.prog 19 [.ptr r 0, tx t tag] H fun x H' => ∃ tag', x = .tuple [.sl (encB (tputE S t).1) tag', .int .i64 (tputE S t).2.1] ∧ RCodAt H' r (tputE S t).2.2 ∧ (H.del r).le H' := by
  by_cases ht : tcheck t = 0
  · have e : tputE S t = ((tput S t).1, 0, (tput S t).2) := by unfold tputE; rw [if_pos ht]
    rw [e]
    exact R6Put_ok r S t tag H h ht hnow
  · have e : tputE S t = ([], tcheck t, S) := by unfold tputE; rw [if_neg ht]
    rw [e]
    have hcheck := R6Check_spec t tag hl
    obtain ⟨o, s, k, ws⟩ := t
    refine ACalls.body (N := 105) Try.func19 rfl rfl rfl rfl ?_
    repeat (first | refine AOps.op rfl rfl ?_ | refine AOps.load rfl rfl rfl rfl rfl ?_)
    refine AWP.seq (AWP.region ?_)
    refine AOps.boxL 0 rfl rfl rfl rfl rfl ?_
    repeat (first
    | refine AOps.op rfl rfl ?_ | refine AOps.load rfl rfl rfl rfl rfl ?_ | refine AOps.nil ?_ | refine AWP.seq ?_ | refine AWP.region ?_ | refine AWP.block ?_ | refine AWP.skip ?_ | refine AWP.exit ?_ | refine AWP.scope ?_ | refine AWP.label ?_)
    refine AOps.call rfl rfl rfl ((hcheck H).mono ?_)
    rintro _ H ⟨rfl, rfl⟩
    repeat (first
    | refine AOps.op rfl rfl ?_ | refine AOps.load rfl rfl rfl rfl rfl ?_ | refine AOps.nil ?_ | refine AWP.seq ?_ | refine AWP.region ?_ | refine AWP.block ?_ | refine AWP.skip ?_ | refine AWP.exit ?_ | refine AWP.scope ?_ | refine AWP.label ?_)
    refine AWP.cond rfl (fun _ => ?_) (fun h => by simp at h; omega)
    repeat (first
    | refine AOps.op rfl rfl ?_ | refine AOps.load rfl rfl rfl rfl rfl ?_ | refine AOps.nil ?_ | refine AWP.seq ?_ | refine AWP.region ?_ | refine AWP.block ?_ | refine AWP.skip ?_ | refine AWP.exit ?_ | refine AWP.scope ?_ | refine AWP.label ?_)
    refine AOps.call rfl rfl rfl ((hcheck H).mono ?_)
    rintro _ H ⟨rfl, rfl⟩
    repeat (first
    | refine AOps.op rfl rfl ?_ | refine AOps.load rfl rfl rfl rfl rfl ?_ | refine AOps.nil ?_ | refine AWP.seq ?_ | refine AWP.region ?_ | refine AWP.block ?_ | refine AWP.skip ?_ | refine AWP.exit ?_ | refine AWP.scope ?_ | refine AWP.label ?_)
    refine AWP.ret ?_
    exact ⟨_, _, rfl, rfl, Heap.le_refl _, .full, rfl, h, Heap.del_le _ _⟩
end Go.Proofs.Ytlbnhokhhangdaa

/- The statements of layer 6: the answers that are fixed. -/
namespace Go.Proofs.Ytlbnhokhhangdaa
open Go Go.Am Go.Pk Go.Lib
set_option linter.unusedVariables false
set_option linter.unusedSimpArgs false
set_option maxRecDepth 10000
attribute [local irreducible] AOps AWP DRun ACalls

theorem coTake_ok (c : Nat) (S : Cod) (b : Str) (tag : Tag) (H : Heap) (h : CodAt H c S) (hb : b.length < 2 ^ 40) {t : Txn} {n : Nat} {S' : Cod} (e : ttake S b = .ok (t, n, S')) :
    ACalls Q.prog 14 [.ptr c 0, .sl (encB b) tag] H fun r H' => ∃ tag', r = .tuple [tx t tag', .int .i64 (n : Nat), .int .i64 0] ∧ CodAt H' c S' :=
  (coTake_spec c S b tag H h hb).mono fun r H' k => by unfold takeOut at k; rw [e] at k; exact k

theorem coTake_err (c : Nat) (S : Cod) (b : Str) (tag : Tag) (H : Heap) (h : CodAt H c S) (hb : b.length < 2 ^ 40) {n : Nat} (e : ttake S b = .error n) :
    ACalls Q.prog 14 [.ptr c 0, .sl (encB b) tag] H fun r H' => r = .tuple [tx Txn.zero .full, .int .i64 0, .int .i64 (n : Nat)] ∧ CodAt H' c S :=
  (coTake_spec c S b tag H h hb).mono fun r H' k => by unfold takeOut at k; rw [e] at k; exact k

attribute [local irreducible] tputE ttake

set_option maxHeartbeats 1000000 in
theorem awake6_spec (H : Heap) : ACalls Q.prog 9 [] H fun r H' => r = .bool true := by
  refine ACalls.body (N := 162) Try.func9 rfl rfl rfl rfl ?_
  repeat (first
    | refine AOps.op rfl rfl ?_ | refine AOps.load rfl rfl rfl rfl rfl ?_ | refine AOps.nil ?_ | refine AWP.seq ?_ | refine AWP.region ?_ | refine AWP.block ?_ | refine AWP.skip ?_ | refine AWP.exit ?_ | refine AWP.scope ?_ | refine AWP.label ?_)
  refine AOps.call rfl rfl rfl ((cNew_spec H).mono ?_)
  rintro _ H1 ⟨c, rfl, hl1, hc1⟩
  repeat (first
    | refine AOps.op rfl rfl ?_ | refine AOps.load rfl rfl rfl rfl rfl ?_ | refine AOps.nil ?_ | refine AWP.seq ?_ | refine AWP.region ?_ | refine AWP.block ?_ | refine AWP.skip ?_ | refine AWP.exit ?_ | refine AWP.scope ?_ | refine AWP.label ?_)
  refine AWP.cond rfl (fun h => by simp at h) (fun _ => ?_)
  repeat (first
    | refine AOps.op rfl rfl ?_ | refine AOps.load rfl rfl rfl rfl rfl ?_ | refine AOps.nil ?_ | refine AWP.seq ?_ | refine AWP.region ?_ | refine AWP.block ?_ | refine AWP.skip ?_ | refine AWP.exit ?_ | refine AWP.scope ?_ | refine AWP.label ?_)
  refine AOps.buildSlice (els := [⟨[97], [120], false⟩].map wr) rfl rfl rfl ?_
  repeat (first
    | refine AOps.op rfl rfl ?_ | refine AOps.load rfl rfl rfl rfl rfl ?_ | refine AOps.nil ?_ | refine AWP.seq ?_ | refine AWP.region ?_ | refine AWP.block ?_ | refine AWP.skip ?_ | refine AWP.exit ?_ | refine AWP.scope ?_ | refine AWP.label ?_)
  refine AOps.allocL 0 rfl rfl rfl rfl ?_
  refine AOps.storeL rfl rfl rfl rfl ?_
  repeat (first
    | refine AOps.op rfl rfl ?_ | refine AOps.load rfl rfl rfl rfl rfl ?_ | refine AOps.nil ?_ | refine AWP.seq ?_ | refine AWP.region ?_ | refine AWP.block ?_ | refine AWP.skip ?_ | refine AWP.exit ?_ | refine AWP.scope ?_ | refine AWP.label ?_)
  refine AOps.buildSlice (els := [⟨[97], [], true⟩].map wr) rfl rfl rfl ?_
  repeat (first
    | refine AOps.op rfl rfl ?_ | refine AOps.load rfl rfl rfl rfl rfl ?_ | refine AOps.nil ?_ | refine AWP.seq ?_ | refine AWP.region ?_ | refine AWP.block ?_ | refine AWP.skip ?_ | refine AWP.exit ?_ | refine AWP.scope ?_ | refine AWP.label ?_)
  refine AOps.allocL 1 rfl rfl rfl rfl ?_
  refine AOps.storeL rfl rfl rfl rfl ?_
  replace hc1 := hc1.mono (Heap.minus_le H1 H)
  repeat (first
    | refine AOps.op rfl rfl ?_ | refine AOps.load rfl rfl rfl rfl rfl ?_ | refine AOps.nil ?_ | refine AWP.seq ?_ | refine AWP.region ?_ | refine AWP.block ?_ | refine AWP.skip ?_ | refine AWP.exit ?_ | refine AWP.scope ?_ | refine AWP.label ?_)
  refine AOps.call (vs := [.ptr c 0, tx tOne .full]) rfl rfl rfl ((coPut_spec c Cod.nil tOne .full (by decide) H1 hc1).mono ?_)
  rintro _ H2 ⟨ta, rfl, hc2⟩
  rw [put_one] at hc2 ⊢
  simp only at hc2
  dsimp only
  repeat (first
    | refine AOps.op rfl rfl ?_ | refine AOps.load rfl rfl rfl rfl rfl ?_ | refine AOps.nil ?_ | refine AWP.seq ?_ | refine AWP.region ?_ | refine AWP.block ?_ | refine AWP.skip ?_ | refine AWP.exit ?_ | refine AWP.scope ?_ | refine AWP.label ?_)
  refine AOps.call (vs := [.ptr c 0, tx tTwo .full]) rfl rfl rfl ((coPut_spec c cOne tTwo .full (by decide) H2 hc2).mono ?_)
  rintro _ H3 ⟨tb, rfl, hc3⟩
  rw [put_two] at hc3 ⊢
  simp only at hc3
  dsimp only
  repeat (first
    | refine AOps.op rfl rfl ?_ | refine AOps.load rfl rfl rfl rfl rfl ?_ | refine AOps.nil ?_ | refine AWP.seq ?_ | refine AWP.region ?_ | refine AWP.block ?_ | refine AWP.skip ?_ | refine AWP.exit ?_ | refine AWP.scope ?_ | refine AWP.label ?_)
  refine AOps.call (vs := [.ptr c 0, tx tOne .full]) rfl rfl rfl ((coPut_spec c cTwo tOne .full (by decide) H3 hc3).mono ?_)
  rintro _ H4 ⟨tc, rfl, hc4⟩
  rw [put_again]
  repeat (first
    | refine AOps.op rfl rfl ?_ | refine AOps.load rfl rfl rfl rfl rfl ?_ | refine AOps.nil ?_ | refine AWP.seq ?_ | refine AWP.region ?_ | refine AWP.block ?_ | refine AWP.skip ?_ | refine AWP.exit ?_ | refine AWP.scope ?_ | refine AWP.label ?_)
  refine AOps.call rfl rfl rfl ((cNew_spec H4).mono ?_)
  rintro _ H5 ⟨d, rfl, hl5, hd5⟩
  replace hd5 := hd5.mono (Heap.minus_le H5 H4)
  repeat (first
    | refine AOps.op rfl rfl ?_ | refine AOps.load rfl rfl rfl rfl rfl ?_ | refine AOps.nil ?_ | refine AWP.seq ?_ | refine AWP.region ?_ | refine AWP.block ?_ | refine AWP.skip ?_ | refine AWP.exit ?_ | refine AWP.scope ?_ | refine AWP.label ?_)
  refine AWP.cond rfl (fun h => by simp at h) (fun _ => ?_)
  repeat (first
    | refine AOps.op rfl rfl ?_ | refine AOps.load rfl rfl rfl rfl rfl ?_ | refine AOps.nil ?_ | refine AWP.seq ?_ | refine AWP.region ?_ | refine AWP.block ?_ | refine AWP.skip ?_ | refine AWP.exit ?_ | refine AWP.scope ?_ | refine AWP.label ?_)
  refine AOps.buildSlice (els := encB []) rfl rfl rfl ?_
  repeat (first
    | refine AOps.op rfl rfl ?_ | refine AOps.load rfl rfl rfl rfl rfl ?_ | refine AOps.nil ?_ | refine AWP.seq ?_ | refine AWP.region ?_ | refine AWP.block ?_ | refine AWP.skip ?_ | refine AWP.exit ?_ | refine AWP.scope ?_ | refine AWP.label ?_)
  refine appB H5 (Heap.le_refl _) rfl rfl rfl rfl rfl trivial (by decide) fun g6 H6 a6 b6 => ?_
  refine AOps.buildSlice (els := encB [9]) rfl rfl rfl ?_
  refine appB H6 (Heap.le_refl _) rfl rfl rfl rfl rfl a6 (by decide) fun g7 H7 a7 b7 => ?_
  have hd7 : CodAt H7 d Cod.nil := by
    have e : hbase H7 g7 = H5 := b7.trans b6
    exact hd5.mono (by rw [← e]; exact hbase_le _ _)
  refine AOps.call rfl rfl rfl ((coTake_ok d Cod.nil _ g7 H7 hd7 (by decide) (take_one [9])).mono ?_)
  rintro _ H8 ⟨t1, rfl, hd8⟩
  repeat (first
    | refine AOps.op rfl rfl ?_ | refine AOps.load rfl rfl rfl rfl rfl ?_ | refine AOps.nil ?_ | refine AWP.seq ?_ | refine AWP.region ?_ | refine AWP.block ?_ | refine AWP.skip ?_ | refine AWP.exit ?_ | refine AWP.scope ?_ | refine AWP.label ?_)
  refine AOps.allocL 2 rfl rfl rfl rfl ?_
  refine AOps.storeL rfl rfl rfl rfl ?_
  repeat (first
    | refine AOps.op rfl rfl ?_ | refine AOps.load rfl rfl rfl rfl rfl ?_ | refine AOps.nil ?_ | refine AWP.seq ?_ | refine AWP.region ?_ | refine AWP.block ?_ | refine AWP.skip ?_ | refine AWP.exit ?_ | refine AWP.scope ?_ | refine AWP.label ?_)
  refine AOps.buildSlice (els := encB [1, 2, 0, 2, 0, 1, 1]) rfl rfl rfl ?_
  refine AOps.call rfl rfl rfl ((coTake_err d cOne _ .full H8 hd8 (by decide) take_short).mono ?_)
  rintro _ H9 ⟨rfl, hd9⟩
  repeat (first
    | refine AOps.op rfl rfl ?_ | refine AOps.load rfl rfl rfl rfl rfl ?_ | refine AOps.nil ?_ | refine AWP.seq ?_ | refine AWP.region ?_ | refine AWP.block ?_ | refine AWP.skip ?_ | refine AWP.exit ?_ | refine AWP.scope ?_ | refine AWP.label ?_)
  refine AOps.allocL 3 rfl rfl rfl rfl ?_
  refine AOps.storeL rfl rfl rfl rfl ?_
  repeat (first
    | refine AOps.op rfl rfl ?_ | refine AOps.load rfl rfl rfl rfl rfl ?_ | refine AOps.nil ?_ | refine AWP.seq ?_ | refine AWP.region ?_ | refine AWP.block ?_ | refine AWP.skip ?_ | refine AWP.exit ?_ | refine AWP.scope ?_ | refine AWP.label ?_)
  refine AOps.call rfl rfl rfl ((coTake_ok d cOne [1, 2, 0, 2, 0, 1, 1, 0] tb H9 hd9 (by decide) (take_two [])).mono ?_)
  rintro _ H10 ⟨t2, rfl, hd10⟩
  repeat (first
    | refine AOps.op rfl rfl ?_ | refine AOps.load rfl rfl rfl rfl rfl ?_ | refine AOps.nil ?_ | refine AWP.seq ?_ | refine AWP.region ?_ | refine AWP.block ?_ | refine AWP.skip ?_ | refine AWP.exit ?_ | refine AWP.scope ?_ | refine AWP.label ?_)
  refine AOps.allocL 4 rfl rfl rfl rfl ?_
  refine AOps.storeL rfl rfl rfl rfl ?_
  repeat (first
    | refine AOps.op rfl rfl ?_ | refine AOps.load rfl rfl rfl rfl rfl ?_ | refine AOps.nil ?_ | refine AWP.seq ?_ | refine AWP.region ?_ | refine AWP.block ?_ | refine AWP.skip ?_ | refine AWP.exit ?_ | refine AWP.scope ?_ | refine AWP.label ?_)
  refine AOps.buildSlice (els := encB [3, 1, 0, 1, 0, 0]) rfl rfl rfl ?_
  refine AOps.call rfl rfl rfl ((coTake_err d cTwo _ .full H10 hd10 (by decide) take_name).mono ?_)
  rintro _ H11 ⟨rfl, hd11⟩
  repeat (first
    | refine AOps.op rfl rfl ?_ | refine AOps.load rfl rfl rfl rfl rfl ?_ | refine AOps.nil ?_ | refine AWP.seq ?_ | refine AWP.region ?_ | refine AWP.block ?_ | refine AWP.skip ?_ | refine AWP.exit ?_ | refine AWP.scope ?_ | refine AWP.label ?_)
  refine AOps.allocL 5 rfl rfl rfl rfl ?_
  refine AOps.storeL rfl rfl rfl rfl ?_
  repeat (first
    | refine AOps.op rfl rfl ?_ | refine AOps.load rfl rfl rfl rfl rfl ?_ | refine AOps.nil ?_ | refine AWP.seq ?_ | refine AWP.region ?_ | refine AWP.block ?_ | refine AWP.skip ?_ | refine AWP.exit ?_ | refine AWP.scope ?_ | refine AWP.label ?_)
  refine AOps.buildSlice (els := encB [1, 1, 0, 0, 0, 1, 0, 1, 97, 2, 120]) rfl rfl rfl ?_
  refine AOps.call rfl rfl rfl ((R1Same_spec [1, 1, 0, 0, 0, 1, 0, 1, 97, 2, 120] [1, 1, 0, 0, 0, 1, 0, 1, 97, 2, 120] ta .full (by decide) (by decide) H11).mono ?_)
  rintro _ H11 ⟨rfl, rfl⟩
  rw [show decide (([1, 1, 0, 0, 0, 1, 0, 1, 97, 2, 120] : Str) = [1, 1, 0, 0, 0, 1, 0, 1, 97, 2, 120]) = true from rfl]
  repeat (first | refine AOps.unguard rfl rfl rfl ?_ | refine AOps.op rfl rfl ?_ | refine AOps.load rfl rfl rfl rfl rfl ?_)
  refine AOps.buildSlice (els := encB [1, 2, 0, 2, 0, 1, 1, 0]) rfl rfl rfl ?_
  repeat (first | refine AOps.unguard rfl rfl rfl ?_ | refine AOps.op rfl rfl ?_ | refine AOps.load rfl rfl rfl rfl rfl ?_)
  refine AOps.call rfl rfl rfl ((R1Same_spec [1, 2, 0, 2, 0, 1, 1, 0] [1, 2, 0, 2, 0, 1, 1, 0] tb .full (by decide) (by decide) H11).mono ?_)
  rintro _ H11 ⟨rfl, rfl⟩
  rw [show decide (([1, 2, 0, 2, 0, 1, 1, 0] : Str) = [1, 2, 0, 2, 0, 1, 1, 0]) = true from rfl]
  repeat (first | refine AOps.unguard rfl rfl rfl ?_ | refine AOps.op rfl rfl ?_ | refine AOps.load rfl rfl rfl rfl rfl ?_)
  refine AOps.call (vs := [tx tOne t1, tx tOne .full]) rfl rfl rfl ((Same_spec tOne tOne t1 .full (by decide) (by decide) H11).mono ?_)
  rintro _ H11 ⟨rfl, rfl⟩
  rw [show decide (tOne = tOne) = true from rfl]
  repeat (first | refine AOps.unguard rfl rfl rfl ?_ | refine AOps.op rfl rfl ?_ | refine AOps.load rfl rfl rfl rfl rfl ?_)
  refine AOps.call (vs := [tx tTwo t2, tx tTwo .full]) rfl rfl rfl ((Same_spec tTwo tTwo t2 .full (by decide) (by decide) H11).mono ?_)
  rintro _ H11 ⟨rfl, rfl⟩
  rw [show decide (tTwo = tTwo) = true from rfl]
  repeat (first | refine AOps.unguard rfl rfl rfl ?_ | refine AOps.op rfl rfl ?_ | refine AOps.load rfl rfl rfl rfl rfl ?_)
  refine AOps.call rfl rfl rfl ((cClock_spec d cTwo H11 hd11).mono ?_)
  rintro _ H11 ⟨rfl, rfl⟩
  repeat (first | refine AOps.unguard rfl rfl rfl ?_ | refine AOps.op rfl rfl ?_ | refine AOps.load rfl rfl rfl rfl rfl ?_)
  refine AOps.step rfl rfl (OpT.eqAgg eqTy_ck rfl rfl (aeq_ck cTwo.c ⟨0, 1, 0⟩) (.inl rfl) ?_)
  rw [show decide (cTwo.c = ⟨0, 1, 0⟩) = true from rfl]
  repeat (first | refine AOps.unguard rfl rfl rfl ?_ | refine AOps.op rfl rfl ?_ | refine AOps.load rfl rfl rfl rfl rfl ?_)
  refine AOps.call (vs := [tx ⟨0, 2, Clk.zero, []⟩ .full]) rfl rfl rfl ((Check_spec ⟨0, 2, Clk.zero, []⟩ .full (by decide) H11).mono ?_)
  rintro _ H11 ⟨rfl, rfl⟩
  rw [check_deps]
  repeat (first | refine AOps.unguard rfl rfl rfl ?_ | refine AOps.op rfl rfl ?_ | refine AOps.load rfl rfl rfl rfl rfl ?_)
  refine AOps.call (vs := [tx Txn.zero .full]) rfl rfl rfl ((Check_spec Txn.zero .full (by decide) H11).mono ?_)
  rintro _ H11 ⟨rfl, rfl⟩
  rw [check_zero]
  repeat (first | refine AOps.unguard rfl rfl rfl ?_ | refine AOps.op rfl rfl ?_ | refine AOps.load rfl rfl rfl rfl rfl ?_)
  refine AOps.call (vs := [tx tOne .full, tx tTwo .full]) rfl rfl rfl ((Same_spec tOne tTwo .full .full (by decide) (by decide) H11).mono ?_)
  rintro _ H11 ⟨rfl, rfl⟩
  rw [show decide (tOne = tTwo) = false from rfl]
  repeat (first | refine AOps.unguard rfl rfl rfl ?_ | refine AOps.op rfl rfl ?_ | refine AOps.load rfl rfl rfl rfl rfl ?_)
  repeat (first
    | refine AOps.op rfl rfl ?_ | refine AOps.load rfl rfl rfl rfl rfl ?_ | refine AOps.nil ?_ | refine AWP.seq ?_ | refine AWP.region ?_ | refine AWP.block ?_ | refine AWP.skip ?_ | refine AWP.exit ?_ | refine AWP.scope ?_ | refine AWP.label ?_)
  refine AWP.ret ?_
  exact ⟨_, _, rfl, rfl, Heap.le_refl _, rfl⟩
end Go.Proofs.Ytlbnhokhhangdaa

/- The statements of layer 6: what one coder tells another one reads. -/
namespace Go.Proofs.Ytlbnhokhhangdaa
open Go Go.Am Go.Pk Go.Lib
set_option linter.unusedVariables false
set_option linter.unusedSimpArgs false
set_option maxRecDepth 10000
attribute [local irreducible] AOps AWP DRun ACalls

theorem Disj.over {A B C : Heap} (h : Disj A B) (k : Disj A C) : Disj A (B.over C) := fun b => by
  rcases h b with c | c
  · exact .inl c
  · rcases k b with d | d
    · exact .inl d
    · right; simp only [Heap.over, c]; exact d

theorem Disj.one {A : Heap} {b : Nat} {x : AObj} (h : A b = none) : Disj A (Heap.one b x) := (Heap.one_disj h).symm

/-- Two heaps of their own in one. -/
structure Two (H A B : Heap) : Prop where
  a : A.le H
  b : B.le H
  d : Disj A B

theorem Two.symm {H A B : Heap} (h : Two H A B) : Two H B A := ⟨h.b, h.a, h.d.symm⟩
theorem Two.mono {H H' A B : Heap} (h : Two H A B) (hl : H.le H') : Two H' A B := ⟨h.a.trans hl, h.b.trans hl, h.d⟩
theorem Two.out {H A B : Heap} (h : Two H A B) {x : Nat} (hx : H x = none) : A x = none ∧ B x = none := by
  constructor
  · cases e : A x with
    | none => rfl
    | some y => rw [h.a _ _ e] at hx; cases hx
  · cases e : B x with
    | none => rfl
    | some y => rw [h.b _ _ e] at hx; cases hx

/-- A call that needs the first heap alone: the second one and one block more stay. -/
theorem ACalls.two {f : FuncId} {args : List AV} {H A B : Heap} {K1 : AV → Heap → Prop} {x : Nat} {o : AObj} (h : Two H A B) (hx : H x = some o) (hax : A x = none)
    (hc : ACalls Q.prog f args A K1) : ACalls Q.prog f args H fun r H' => ∃ A', K1 r A' ∧ Two H' A' B ∧ H' x = some o ∧ A' x = none :=
  (ACalls.beside (B := (Heap.one x o).over B) h.a (Heap.over_le (Heap.one_le.2 hx) h.b) (Disj.over (Disj.one hax) h.d) hc).mono fun r H' ⟨A', k1, k2, k3, k4⟩ => by
    have hx' : ((Heap.one x o).over B) x = some o := Heap.le_over _ _ _ _ (Heap.set_same _ _ _)
    refine ⟨A', k1, ⟨k2, ?_, ?_⟩, k3 _ _ hx', k4.symm.none hx'⟩
    · intro b y e
      by_cases c : b = x
      · subst c
        have := h.b _ _ e
        rw [hx] at this; cases this
        exact k3 _ _ hx'
      · refine k3 _ _ ?_
        have : (Heap.one x o) b = none := by unfold Heap.one; rw [Heap.set_ne _ _ c]; rfl
        simp only [Heap.over, this]; exact e
    · intro b
      rcases k4 b with c | c
      · exact .inl c
      · right
        simp only [Heap.over] at c
        split at c
        · cases c
        · exact c

theorem tputE_e (S : Cod) (t : Txn) : (tputE S t).2.1 = tcheck t := by
  unfold tputE
  split
  · rename_i h; rw [h]
  · rfl

def abox (a : TAct) : AObj := .box [.int .i64 a.d, .int .i64 a.t.origin, .int .i64 a.t.seq, .int .i64 a.t.deps.a, .int .i64 a.t.deps.b, .int .i64 a.t.deps.c, .sl (a.t.writes.map wr) .no, .sl (encB a.b) .no]

theorem alarge_no {l : List TAct} (h : alarge l = false) : l.length ≤ 30 ∧ ∀ a ∈ l, a.t.writes.length ≤ 40 ∧ a.b.length ≤ 9000 := by
  simp only [alarge, Bool.or_eq_false_iff, decide_eq_false_iff_not, List.any_eq_false] at h
  refine ⟨by omega, fun a ha => ?_⟩
  have := h.2 a ha
  simp only [TAct.large, Txn.large, Bool.or_eq_true, decide_eq_true_eq, not_or] at this
  omega

attribute [local irreducible] tputE ttake tput

set_option maxHeartbeats 1000000 in
theorem TxnBack_spec (l : List TAct) (rest : Str) :
    ACalls Q.prog 3 [.sl (l.map ac) .no, .sl (encB rest) .no] Heap.nil fun r H' => r = .bool true := by
  refine ACalls.body (N := 85) Try.func3 rfl rfl rfl rfl ?_
  repeat (first
    | refine AOps.op rfl rfl ?_ | refine AOps.load rfl rfl rfl rfl rfl ?_ | refine AOps.nil ?_ | refine AWP.seq ?_ | refine AWP.region ?_ | refine AWP.block ?_ | refine AWP.skip ?_ | refine AWP.exit ?_ | refine AWP.scope ?_ | refine AWP.label ?_)
  refine AOps.call rfl rfl rfl ((awake6_spec Heap.nil).mono ?_)
  rintro _ H0 rfl
  repeat (first
    | refine AOps.op rfl rfl ?_ | refine AOps.load rfl rfl rfl rfl rfl ?_ | refine AOps.nil ?_ | refine AWP.seq ?_ | refine AWP.region ?_ | refine AWP.block ?_ | refine AWP.skip ?_ | refine AWP.exit ?_ | refine AWP.scope ?_ | refine AWP.label ?_)
  refine AWP.cond rfl (fun h => by simp at h) (fun _ => ?_)
  repeat (first
    | refine AOps.op rfl rfl ?_ | refine AOps.load rfl rfl rfl rfl rfl ?_ | refine AOps.nil ?_ | refine AWP.seq ?_ | refine AWP.region ?_ | refine AWP.block ?_ | refine AWP.skip ?_ | refine AWP.exit ?_ | refine AWP.scope ?_ | refine AWP.label ?_)
  refine AOps.call rfl rfl rfl ((large_spec l .no H0).mono ?_)
  rintro _ H0 ⟨rfl, rfl⟩
  repeat (first
    | refine AOps.op rfl rfl ?_ | refine AOps.load rfl rfl rfl rfl rfl ?_ | refine AOps.nil ?_ | refine AWP.seq ?_ | refine AWP.region ?_ | refine AWP.block ?_ | refine AWP.skip ?_ | refine AWP.exit ?_ | refine AWP.scope ?_ | refine AWP.label ?_)
  refine AOps.or (j := 2) (y := decide ((rest.length : Int) > 9000)) [_, _, _] rfl rfl rfl rfl rfl rfl rfl (fun hb => ?_) ?_
  · repeat (first | refine AOps.unguard rfl rfl (by assumption) ?_ | refine AOps.op rfl rfl ?_ | refine AOps.load rfl rfl rfl rfl rfl ?_)
    exact AOps.nil (GuardEnd.of 3 rfl rfl rfl rfl (congrArg (fun n : Nat => some (AV.bool (decide ((n : Int) > 9000)))) (encB_length rest)))
  repeat (first
    | refine AOps.op rfl rfl ?_ | refine AOps.load rfl rfl rfl rfl rfl ?_ | refine AOps.nil ?_ | refine AWP.seq ?_ | refine AWP.region ?_ | refine AWP.block ?_ | refine AWP.skip ?_ | refine AWP.exit ?_ | refine AWP.scope ?_ | refine AWP.label ?_)
  refine AWP.cond rfl (fun h => ?_) (fun h => ?_)
  · repeat (first
    | refine AOps.op rfl rfl ?_ | refine AOps.load rfl rfl rfl rfl rfl ?_ | refine AOps.nil ?_ | refine AWP.seq ?_ | refine AWP.region ?_ | refine AWP.block ?_ | refine AWP.skip ?_ | refine AWP.exit ?_ | refine AWP.scope ?_ | refine AWP.label ?_)
    refine AWP.ret ?_
    exact ⟨_, _, rfl, rfl, Heap.le_refl _, rfl⟩
  obtain ⟨hlarge, hrest⟩ : alarge l = false ∧ rest.length ≤ 9000 := by
    simp only [Bool.or_eq_false_iff, decide_eq_false_iff_not] at h
    exact ⟨h.1, by omega⟩
  obtain ⟨l30, lacts⟩ := alarge_no hlarge
  repeat (first
    | refine AOps.op rfl rfl ?_ | refine AOps.load rfl rfl rfl rfl rfl ?_ | refine AOps.nil ?_ | refine AWP.seq ?_ | refine AWP.region ?_ | refine AWP.block ?_ | refine AWP.skip ?_ | refine AWP.exit ?_ | refine AWP.scope ?_ | refine AWP.label ?_)
  refine AOps.call rfl rfl rfl ((cNew_spec H0).mono ?_)
  rintro _ H1 ⟨c, rfl, hl1, hc1⟩
  refine AOps.call rfl rfl rfl ((cNew_spec H1).mono ?_)
  rintro _ H2 ⟨d, rfl, hl2, hd2⟩
  have htwo : Two H2 (H1.minus H0) (H2.minus H1) := ⟨(Heap.minus_le _ _).trans hl2, Heap.minus_le _ _, fun b => by
    simp only [Heap.minus]
    cases e : H1 b with
    | none => left; split <;> rfl
    | some x => exact .inr rfl⟩
  repeat (first
    | refine AOps.op rfl rfl ?_ | refine AOps.load rfl rfl rfl rfl rfl ?_ | refine AOps.nil ?_ | refine AWP.seq ?_ | refine AWP.region ?_ | refine AWP.block ?_ | refine AWP.skip ?_ | refine AWP.exit ?_ | refine AWP.scope ?_ | refine AWP.label ?_)
  refine AOps.or (j := 2) (y := false) [_, _] rfl rfl rfl rfl rfl rfl rfl (fun hb => ?_) ?_
  · repeat (first | refine AOps.unguard rfl rfl (by assumption) ?_ | refine AOps.op rfl rfl ?_ | refine AOps.load rfl rfl rfl rfl rfl ?_)
    exact AOps.nil (GuardEnd.of 2 rfl rfl rfl rfl rfl)
  repeat (first
    | refine AOps.op rfl rfl ?_ | refine AOps.load rfl rfl rfl rfl rfl ?_ | refine AOps.nil ?_ | refine AWP.seq ?_ | refine AWP.region ?_ | refine AWP.block ?_ | refine AWP.skip ?_ | refine AWP.exit ?_ | refine AWP.scope ?_ | refine AWP.label ?_)
  refine AWP.cond rfl (fun h => by simp at h) (fun _ => ?_)
  repeat (first
    | refine AOps.op rfl rfl ?_ | refine AOps.load rfl rfl rfl rfl rfl ?_ | refine AOps.nil ?_ | refine AWP.seq ?_ | refine AWP.region ?_ | refine AWP.skip ?_ | refine AWP.exit ?_ | refine AWP.scope ?_ | refine AWP.label ?_)
  refine AWP.block ?_
  refine AWP.loopA (α := Nat × Cod × Heap × Heap × Heap) (fun a => a.1 ≤ l.length ∧ a.2.1.ok ∧ Two a.2.2.1 a.2.2.2.1 a.2.2.2.2 ∧ CodAt a.2.2.2.1 c a.2.1 ∧ CodAt a.2.2.2.2 d a.2.1) (fun a => l.length - a.1)
    (fun a => [(1, .sl (encB rest) .no), (5, .ptr c 0), (6, .ptr d 0), (31, .sl (l.map ac) .no), (32, .int .i64 l.length), (33, .int .i64 a.1)]) (fun _ => []) (fun a => a.2.2.1)
    (0, Cod.nil, H2, H1.minus H0, H2.minus H1) ⟨by simp, Cod.nil_ok, htwo, hc1, hd2⟩ ⟨rfl, rfl, rfl, rfl, ?_, rfl, trivial⟩ rfl (Heap.le_refl _) ?_
  · exact congrArg (fun n : Nat => some (AV.int .i64 n)) (ac_len l)
  rintro ⟨i, S, H3, A, B⟩ ⟨i1, i2, i3, i4, i5⟩
  simp only at i1 i2 i3 i4 i5
  dsimp only
  repeat (first
    | refine AOps.op rfl rfl ?_ | refine AOps.load rfl rfl rfl rfl rfl ?_ | refine AOps.nil ?_ | refine AWP.seq ?_ | refine AWP.region ?_ | refine AWP.block ?_ | refine AWP.skip ?_ | refine AWP.exit ?_ | refine AWP.scope ?_ | refine AWP.label ?_)
  refine AWP.cond rfl (fun h => ?_) (fun h => ?_)
  · have hlt : i < l.length := by simp at h; omega
    have ei : IntKind.i64.wrap ((i : Int) + 1) = ((i + 1 : Nat) : Int) := wrap_i64 (n := i + 1) (by omega)
    obtain ⟨a, ha⟩ : ∃ a, l[i]? = some a := ⟨l[i], List.getElem?_eq_getElem hlt⟩
    obtain ⟨ha1, ha2⟩ := lacts a (List.mem_of_getElem? ha)
    obtain ⟨dd, t, bb⟩ := a
    simp only at ha1 ha2
    repeat (first
    | refine AOps.op rfl rfl ?_ | refine AOps.load rfl rfl rfl rfl rfl ?_ | refine AOps.nil ?_ | refine AWP.seq ?_ | refine AWP.region ?_ | refine AWP.block ?_ | refine AWP.skip ?_ | refine AWP.exit ?_ | refine AWP.scope ?_ | refine AWP.label ?_)
    refine AOps.indexSl rfl rfl rfl rfl rfl rfl (by omega) (getD_ac ha) rfl rfl ?_
    repeat (first
    | refine AOps.op rfl rfl ?_ | refine AOps.load rfl rfl rfl rfl rfl ?_ | refine AOps.nil ?_ | refine AWP.seq ?_ | refine AWP.region ?_ | refine AWP.block ?_ | refine AWP.skip ?_ | refine AWP.exit ?_ | refine AWP.scope ?_ | refine AWP.label ?_)
    refine AOps.allocH rfl rfl fun x hx => ?_
    refine AOps.storeH rfl rfl rfl (Heap.set_same _ _ _) rfl rfl ?_
    rw [Heap.set_set]
    obtain ⟨ax, bx⟩ := i3.out hx
    have hbx := Heap.set_same H3 x (abox ⟨dd, t, bb⟩)
    have i3' := i3.mono (Heap.le_set (x := abox ⟨dd, t, bb⟩) hx)
    obtain ⟨H4, hH4⟩ : ∃ H4, H3.set x (.box [.int .i64 dd, .int .i64 t.origin, .int .i64 t.seq, .int .i64 t.deps.a, .int .i64 t.deps.b, .int .i64 t.deps.c, .sl (t.writes.map wr) .no, .sl (encB bb) .no]) = H4 := ⟨_, rfl⟩
    rw [show H3.set x (abox ⟨dd, t, bb⟩) = H4 from hH4] at hbx i3'
    rw [hH4]
    clear hH4
    repeat (first
    | refine AOps.op rfl rfl ?_ | refine AOps.load rfl rfl rfl rfl rfl ?_ | refine AOps.nil ?_ | refine AWP.seq ?_ | refine AWP.region ?_ | refine AWP.block ?_ | refine AWP.skip ?_ | refine AWP.exit ?_ | refine AWP.scope ?_ | refine AWP.label ?_)
    refine AOps.load rfl (cellsAt_ptr hbx) rfl rfl rfl ?_
    refine AOps.call (vs := [.ptr c 0, tx t .no]) rfl rfl rfl ((ACalls.two i3' hbx ax (coPut_spec c S t .no (by omega) A i4)).mono ?_)
    rintro _ H5 ⟨A5, ⟨t5, rfl, c5⟩, w5, x5, ax5⟩
    repeat (first
    | refine AOps.op rfl rfl ?_ | refine AOps.load rfl rfl rfl rfl rfl ?_ | refine AOps.nil ?_ | refine AWP.seq ?_ | refine AWP.region ?_ | refine AWP.block ?_ | refine AWP.skip ?_ | refine AWP.exit ?_ | refine AWP.scope ?_ | refine AWP.label ?_)
    refine AOps.load rfl (cellsAt_ptr x5) rfl rfl rfl ?_
    refine AOps.call (vs := [tx t .no]) rfl rfl rfl ((Check_spec t .no (by omega) H5).mono ?_)
    rintro _ H5 ⟨rfl, rfl⟩
    repeat (first
    | refine AOps.op rfl rfl ?_ | refine AOps.load rfl rfl rfl rfl rfl ?_ | refine AOps.nil ?_ | refine AWP.seq ?_ | refine AWP.region ?_ | refine AWP.block ?_ | refine AWP.skip ?_ | refine AWP.exit ?_ | refine AWP.scope ?_ | refine AWP.label ?_)
    rw [tputE_e]
    refine AWP.cond rfl (fun h => by simp at h) (fun _ => ?_)
    repeat (first
    | refine AOps.op rfl rfl ?_ | refine AOps.load rfl rfl rfl rfl rfl ?_ | refine AOps.nil ?_ | refine AWP.seq ?_ | refine AWP.region ?_ | refine AWP.block ?_ | refine AWP.skip ?_ | refine AWP.exit ?_ | refine AWP.scope ?_ | refine AWP.label ?_)
    refine AWP.cond rfl (fun h => ?_) (fun h => ?_)
    · have hc : ¬ tcheck t = 0 := by simp at h; omega
      have e : tputE S t = ([], tcheck t, S) := by unfold tputE; rw [if_neg hc]
      rw [e] at c5
      repeat (first
    | refine AOps.op rfl rfl ?_ | refine AOps.load rfl rfl rfl rfl rfl ?_ | refine AOps.nil ?_ | refine AWP.seq ?_ | refine AWP.region ?_ | refine AWP.block ?_ | refine AWP.skip ?_ | refine AWP.exit ?_ | refine AWP.scope ?_ | refine AWP.label ?_)
      exact ⟨(i + 1, S, H5, A5, B), by ((try dsimp only); omega), ⟨by ((try dsimp only); omega), i2, w5, c5, i5⟩, ⟨rfl, rfl, rfl, rfl, rfl, congrArg (fun x => some (AV.int .i64 x)) ei, trivial⟩, rfl, Heap.le_refl _⟩
    have hc : tcheck t = 0 := by simp at h; omega
    have e : tputE S t = ((tput S t).1, 0, (tput S t).2) := by unfold tputE; rw [if_pos hc]
    have hlen := tput_len i2 hc
    have hback := back i2 hc rest
    have hok := tput_ok i2 hc
    rw [e] at c5 ⊢
    simp only at c5
    dsimp only
    generalize tput S t = P at *
    obtain ⟨pb, S'⟩ := P
    simp only at c5 hlen hback hok
    dsimp only
    repeat (first
    | refine AOps.op rfl rfl ?_ | refine AOps.load rfl rfl rfl rfl rfl ?_ | refine AOps.nil ?_ | refine AWP.seq ?_ | refine AWP.region ?_ | refine AWP.block ?_ | refine AWP.skip ?_ | refine AWP.exit ?_ | refine AWP.scope ?_ | refine AWP.label ?_)
    refine AOps.buildSlice (els := encB []) rfl rfl rfl ?_
    repeat (first
    | refine AOps.op rfl rfl ?_ | refine AOps.load rfl rfl rfl rfl rfl ?_ | refine AOps.nil ?_ | refine AWP.seq ?_ | refine AWP.region ?_ | refine AWP.block ?_ | refine AWP.skip ?_ | refine AWP.exit ?_ | refine AWP.scope ?_ | refine AWP.label ?_)
    refine appB H5 (Heap.le_refl _) rfl rfl rfl rfl rfl trivial (by simp; omega) fun g6 H6 a6 b6 => ?_
    repeat (first
    | refine AOps.op rfl rfl ?_ | refine AOps.load rfl rfl rfl rfl rfl ?_ | refine AOps.nil ?_ | refine AWP.seq ?_ | refine AWP.region ?_ | refine AWP.block ?_ | refine AWP.skip ?_ | refine AWP.exit ?_ | refine AWP.scope ?_ | refine AWP.label ?_)
    refine appB H6 (Heap.le_refl _) rfl rfl rfl rfl rfl a6 (by simp; omega) fun g7 H7 a7 b7 => ?_
    have hb7 : hbase H7 g7 = H5 := b7.trans b6
    have hle7 : H5.le H7 := by rw [← hb7]; exact hbase_le _ _
    have bx5 : B x = none := bx
    refine AOps.call rfl rfl rfl ((ACalls.two (w5.mono hle7).symm (hle7 _ _ x5) bx5 (coTake_ok d S _ g7 B i5 (by simp; omega) hback)).mono ?_)
    rintro _ H8 ⟨B8, ⟨t8, rfl, d8⟩, w8, x8, bx8⟩
    repeat (first
    | refine AOps.op rfl rfl ?_ | refine AOps.load rfl rfl rfl rfl rfl ?_ | refine AOps.nil ?_ | refine AWP.seq ?_ | refine AWP.region ?_ | refine AWP.block ?_ | refine AWP.skip ?_ | refine AWP.exit ?_ | refine AWP.scope ?_ | refine AWP.label ?_)
    refine AOps.allocH rfl rfl fun y hy => ?_
    refine AOps.storeH rfl rfl rfl (Heap.set_same _ _ _) rfl rfl ?_
    rw [Heap.set_set]
    obtain ⟨ay, by8⟩ := w8.out hy
    have x9 : (H8.set y (.box (tx t t8).cells)) x = some (abox ⟨dd, t, bb⟩) := by
      rw [Heap.set_ne]
      · exact x8
      · rintro rfl; rw [hy] at x8; cases x8
    have w9 := w8.mono (Heap.le_set (x := .box (tx t t8).cells) hy)
    have y9 : (H8.set y (.box (tx t t8).cells)) y = some (.box (tx t t8).cells) := Heap.set_same _ _ _
    obtain ⟨H9, hH9⟩ : ∃ H9, H8.set y (.box [.int .i64 t.origin, .int .i64 t.seq, .int .i64 t.deps.a, .int .i64 t.deps.b, .int .i64 t.deps.c, .sl (t.writes.map wr) t8]) = H9 := ⟨_, rfl⟩
    rw [show H8.set y (.box (tx t t8).cells) = H9 from hH9] at x9 w9 y9
    rw [hH9]
    clear hH9
    repeat (first
    | refine AOps.op rfl rfl ?_ | refine AOps.load rfl rfl rfl rfl rfl ?_ | refine AOps.nil ?_ | refine AWP.seq ?_ | refine AWP.region ?_ | refine AWP.block ?_ | refine AWP.skip ?_ | refine AWP.exit ?_ | refine AWP.scope ?_ | refine AWP.label ?_)
    repeat (first | refine AOps.unguard rfl rfl rfl ?_ | refine AOps.op rfl rfl ?_ | refine AOps.load rfl rfl rfl rfl rfl ?_)
    rw [show ((pb.length : Int) != (((encB pb).length : Nat) : Int)) = false by rw [encB_length]; simp]
    repeat (first | refine AOps.unguard rfl rfl rfl ?_ | refine AOps.op rfl rfl ?_ | refine AOps.load rfl rfl rfl rfl rfl ?_)
    refine AOps.load rfl (cellsAt_ptr y9) rfl rfl rfl ?_
    repeat (first | refine AOps.unguard rfl rfl rfl ?_ | refine AOps.op rfl rfl ?_ | refine AOps.load rfl rfl rfl rfl rfl ?_)
    refine AOps.load rfl (cellsAt_ptr x9) rfl rfl rfl ?_
    repeat (first | refine AOps.unguard rfl rfl rfl ?_ | refine AOps.op rfl rfl ?_ | refine AOps.load rfl rfl rfl rfl rfl ?_)
    refine AOps.call (vs := [tx t t8, tx t .no]) rfl rfl rfl ((R6Same_spec t t t8 .no (by omega) (by omega) H9).mono ?_)
    rintro _ H9 ⟨rfl, rfl⟩
    rw [show decide (t = t) = true by simp]
    repeat (first | refine AOps.unguard rfl rfl rfl ?_ | refine AOps.op rfl rfl ?_ | refine AOps.load rfl rfl rfl rfl rfl ?_)
    refine AOps.call rfl rfl rfl ((cClock_spec c S' H9 (c5.mono w9.b)).mono ?_)
    rintro _ H9 ⟨rfl, rfl⟩
    repeat (first | refine AOps.unguard rfl rfl rfl ?_ | refine AOps.op rfl rfl ?_ | refine AOps.load rfl rfl rfl rfl rfl ?_)
    refine AOps.call rfl rfl rfl ((cClock_spec d S' H9 (d8.mono w9.a)).mono ?_)
    rintro _ H9 ⟨rfl, rfl⟩
    repeat (first | refine AOps.unguard rfl rfl rfl ?_ | refine AOps.op rfl rfl ?_ | refine AOps.load rfl rfl rfl rfl rfl ?_)
    refine AOps.step rfl rfl (OpT.eqAgg eqTy_ck rfl rfl (aeq_ck S'.c S'.c) (.inr rfl) ?_)
    rw [show decide (S'.c = S'.c) = true by simp]
    repeat (first | refine AOps.unguard rfl rfl rfl ?_ | refine AOps.op rfl rfl ?_ | refine AOps.load rfl rfl rfl rfl rfl ?_)
    repeat (first
    | refine AOps.op rfl rfl ?_ | refine AOps.load rfl rfl rfl rfl rfl ?_ | refine AOps.nil ?_ | refine AWP.seq ?_ | refine AWP.region ?_ | refine AWP.block ?_ | refine AWP.skip ?_ | refine AWP.exit ?_ | refine AWP.scope ?_ | refine AWP.label ?_)
    refine AWP.cond rfl (fun h => by simp at h) (fun _ => ?_)
    repeat (first
    | refine AOps.op rfl rfl ?_ | refine AOps.load rfl rfl rfl rfl rfl ?_ | refine AOps.nil ?_ | refine AWP.seq ?_ | refine AWP.region ?_ | refine AWP.block ?_ | refine AWP.skip ?_ | refine AWP.exit ?_ | refine AWP.scope ?_ | refine AWP.label ?_)
    exact ⟨(i + 1, S', H9, A5, B8), by ((try dsimp only); omega), ⟨by ((try dsimp only); omega), hok, w9.symm, c5, d8⟩, ⟨rfl, rfl, rfl, rfl, rfl, congrArg (fun x => some (AV.int .i64 x)) ei, trivial⟩, rfl, Heap.le_refl _⟩
  · have h : l.length ≤ i := by simp at h; omega
    repeat (first
    | refine AOps.op rfl rfl ?_ | refine AOps.load rfl rfl rfl rfl rfl ?_ | refine AOps.nil ?_ | refine AWP.seq ?_ | refine AWP.region ?_ | refine AWP.block ?_ | refine AWP.skip ?_ | refine AWP.exit ?_ | refine AWP.scope ?_ | refine AWP.label ?_)
    refine AWP.ret ?_
    exact ⟨_, _, rfl, rfl, Heap.le_refl _, rfl⟩
end Go.Proofs.Ytlbnhokhhangdaa

/- The statements of layer 6: what is read is what was told. -/
namespace Go.Proofs.Ytlbnhokhhangdaa
open Go Go.Am Go.Pk Go.Lib
set_option linter.unusedVariables false
set_option linter.unusedSimpArgs false
set_option maxRecDepth 10000
attribute [local irreducible] AOps AWP DRun ACalls

/-- A call that needs the first heap alone: the second one, and all else, stay. -/
theorem ACalls.first {f : FuncId} {args : List AV} {H A B : Heap} {K1 : AV → Heap → Prop} (h : Two H A B) (hc : ACalls Q.prog f args A K1) :
    ACalls Q.prog f args H fun r H' => ∃ A', K1 r A' ∧ Two H' A' B ∧ ∀ x o, H x = some o → A x = none → H' x = some o ∧ A' x = none :=
  (ACalls.frame h.a hc).mono fun r H' ⟨A', k1, k2, k3, k4⟩ => by
    have hB := Heap.le_minus h.b h.d
    refine ⟨A', k1, ⟨k2, hB.trans k3, k4.le (Heap.le_refl _) hB⟩, fun x o hx hax => ?_⟩
    have hm : (H.minus A) x = some o := by simp only [Heap.minus, hax]; exact hx
    exact ⟨k3 _ _ hm, k4.symm.none hm⟩

/-- A new block beside two heaps. -/
theorem Two.new {H A B : Heap} (h : Two H A B) {x : Nat} (hx : H x = none) (o : AObj) : Two (H.set x o) A B ∧ (H.set x o) x = some o ∧ A x = none ∧ B x = none ∧ ∀ y p, H y = some p → (H.set x o) y = some p :=
  ⟨h.mono (Heap.le_set hx), Heap.set_same _ _ _, (h.out hx).1, (h.out hx).2, fun y p e => by
    rw [Heap.set_ne]
    · exact e
    · rintro rfl; rw [hx] at e; cases e⟩

def tbox (t : Txn) (tag : Tag) : AObj := .box [.int .i64 t.origin, .int .i64 t.seq, .int .i64 t.deps.a, .int .i64 t.deps.b, .int .i64 t.deps.c, .sl (t.writes.map wr) tag]
def kbox (c : Clk) : AObj := .box [.int .i64 c.a, .int .i64 c.b, .int .i64 c.c]

attribute [local irreducible] tputE ttake tput

set_option maxHeartbeats 1000000 in
theorem TxnCanonical_spec (l : List TAct) :
    ACalls Q.prog 4 [.sl (l.map ac) .no] Heap.nil fun r H' => r = .bool true := by
  refine ACalls.body (N := 98) Try.func4 rfl rfl rfl rfl ?_
  repeat (first
    | refine AOps.op rfl rfl ?_ | refine AOps.load rfl rfl rfl rfl rfl ?_ | refine AOps.nil ?_ | refine AWP.seq ?_ | refine AWP.region ?_ | refine AWP.block ?_ | refine AWP.skip ?_ | refine AWP.exit ?_ | refine AWP.scope ?_ | refine AWP.label ?_)
  refine AOps.call rfl rfl rfl ((awake6_spec Heap.nil).mono ?_)
  rintro _ H0 rfl
  repeat (first
    | refine AOps.op rfl rfl ?_ | refine AOps.load rfl rfl rfl rfl rfl ?_ | refine AOps.nil ?_ | refine AWP.seq ?_ | refine AWP.region ?_ | refine AWP.block ?_ | refine AWP.skip ?_ | refine AWP.exit ?_ | refine AWP.scope ?_ | refine AWP.label ?_)
  refine AWP.cond rfl (fun h => by simp at h) (fun _ => ?_)
  repeat (first
    | refine AOps.op rfl rfl ?_ | refine AOps.load rfl rfl rfl rfl rfl ?_ | refine AOps.nil ?_ | refine AWP.seq ?_ | refine AWP.region ?_ | refine AWP.block ?_ | refine AWP.skip ?_ | refine AWP.exit ?_ | refine AWP.scope ?_ | refine AWP.label ?_)
  refine AOps.call rfl rfl rfl ((large_spec l .no H0).mono ?_)
  rintro _ H0 ⟨rfl, rfl⟩
  repeat (first
    | refine AOps.op rfl rfl ?_ | refine AOps.load rfl rfl rfl rfl rfl ?_ | refine AOps.nil ?_ | refine AWP.seq ?_ | refine AWP.region ?_ | refine AWP.block ?_ | refine AWP.skip ?_ | refine AWP.exit ?_ | refine AWP.scope ?_ | refine AWP.label ?_)
  refine AWP.cond rfl (fun h => ?_) (fun hlarge => ?_)
  · repeat (first
    | refine AOps.op rfl rfl ?_ | refine AOps.load rfl rfl rfl rfl rfl ?_ | refine AOps.nil ?_ | refine AWP.seq ?_ | refine AWP.region ?_ | refine AWP.block ?_ | refine AWP.skip ?_ | refine AWP.exit ?_ | refine AWP.scope ?_ | refine AWP.label ?_)
    refine AWP.ret ?_
    exact ⟨_, _, rfl, rfl, Heap.le_refl _, rfl⟩
  obtain ⟨l30, lacts⟩ := alarge_no hlarge
  repeat (first
    | refine AOps.op rfl rfl ?_ | refine AOps.load rfl rfl rfl rfl rfl ?_ | refine AOps.nil ?_ | refine AWP.seq ?_ | refine AWP.region ?_ | refine AWP.block ?_ | refine AWP.skip ?_ | refine AWP.exit ?_ | refine AWP.scope ?_ | refine AWP.label ?_)
  refine AOps.call rfl rfl rfl ((cNew_spec H0).mono ?_)
  rintro _ H1 ⟨c, rfl, hl1, hc1⟩
  refine AOps.call rfl rfl rfl ((cNew_spec H1).mono ?_)
  rintro _ H2 ⟨d, rfl, hl2, hd2⟩
  have htwo : Two H2 (H1.minus H0) (H2.minus H1) := ⟨(Heap.minus_le _ _).trans hl2, Heap.minus_le _ _, fun b => by
    simp only [Heap.minus]
    cases e : H1 b with
    | none => left; split <;> rfl
    | some x => exact .inr rfl⟩
  repeat (first
    | refine AOps.op rfl rfl ?_ | refine AOps.load rfl rfl rfl rfl rfl ?_ | refine AOps.nil ?_ | refine AWP.seq ?_ | refine AWP.region ?_ | refine AWP.block ?_ | refine AWP.skip ?_ | refine AWP.exit ?_ | refine AWP.scope ?_ | refine AWP.label ?_)
  refine AOps.or (j := 2) (y := false) [_, _] rfl rfl rfl rfl rfl rfl rfl (fun hb => ?_) ?_
  · repeat (first | refine AOps.unguard rfl rfl (by assumption) ?_ | refine AOps.op rfl rfl ?_ | refine AOps.load rfl rfl rfl rfl rfl ?_)
    exact AOps.nil (GuardEnd.of 2 rfl rfl rfl rfl rfl)
  repeat (first
    | refine AOps.op rfl rfl ?_ | refine AOps.load rfl rfl rfl rfl rfl ?_ | refine AOps.nil ?_ | refine AWP.seq ?_ | refine AWP.region ?_ | refine AWP.block ?_ | refine AWP.skip ?_ | refine AWP.exit ?_ | refine AWP.scope ?_ | refine AWP.label ?_)
  refine AWP.cond rfl (fun h => by simp at h) (fun _ => ?_)
  repeat (first
    | refine AOps.op rfl rfl ?_ | refine AOps.load rfl rfl rfl rfl rfl ?_ | refine AOps.nil ?_ | refine AWP.seq ?_ | refine AWP.region ?_ | refine AWP.skip ?_ | refine AWP.exit ?_ | refine AWP.scope ?_ | refine AWP.label ?_)
  refine AWP.block ?_
  refine AWP.loopA (α := Nat × Cod × Heap × Heap × Heap) (fun a => a.1 ≤ l.length ∧ a.2.1.ok ∧ Two a.2.2.1 a.2.2.2.1 a.2.2.2.2 ∧ CodAt a.2.2.2.1 c a.2.1 ∧ CodAt a.2.2.2.2 d a.2.1) (fun a => l.length - a.1)
    (fun a => [(3, .ptr c 0), (4, .ptr d 0), (25, .sl (l.map ac) .no), (26, .int .i64 l.length), (27, .int .i64 a.1)]) (fun _ => []) (fun a => a.2.2.1)
    (0, Cod.nil, H2, H1.minus H0, H2.minus H1) ⟨by simp, Cod.nil_ok, htwo, hc1, hd2⟩ ⟨rfl, rfl, rfl, ?_, rfl, trivial⟩ rfl (Heap.le_refl _) ?_
  · exact congrArg (fun n : Nat => some (AV.int .i64 n)) (ac_len l)
  rintro ⟨i, S, H3, A, B⟩ ⟨i1, i2, i3, i4, i5⟩
  simp only at i1 i2 i3 i4 i5
  dsimp only
  repeat (first
    | refine AOps.op rfl rfl ?_ | refine AOps.load rfl rfl rfl rfl rfl ?_ | refine AOps.nil ?_ | refine AWP.seq ?_ | refine AWP.region ?_ | refine AWP.block ?_ | refine AWP.skip ?_ | refine AWP.exit ?_ | refine AWP.scope ?_ | refine AWP.label ?_)
  refine AWP.cond rfl (fun h => ?_) (fun h => ?_)
  · have hlt : i < l.length := by simp at h; omega
    have ei : IntKind.i64.wrap ((i : Int) + 1) = ((i + 1 : Nat) : Int) := wrap_i64 (n := i + 1) (by omega)
    obtain ⟨a, ha⟩ : ∃ a, l[i]? = some a := ⟨l[i], List.getElem?_eq_getElem hlt⟩
    obtain ⟨ha1, ha2⟩ := lacts a (List.mem_of_getElem? ha)
    obtain ⟨dd, t0, bb⟩ := a
    simp only at ha1 ha2
    repeat (first
    | refine AOps.op rfl rfl ?_ | refine AOps.load rfl rfl rfl rfl rfl ?_ | refine AOps.nil ?_ | refine AWP.seq ?_ | refine AWP.region ?_ | refine AWP.block ?_ | refine AWP.skip ?_ | refine AWP.exit ?_ | refine AWP.scope ?_ | refine AWP.label ?_)
    refine AOps.indexSl rfl rfl rfl rfl rfl rfl (by omega) (getD_ac ha) rfl rfl ?_
    repeat (first
    | refine AOps.op rfl rfl ?_ | refine AOps.load rfl rfl rfl rfl rfl ?_ | refine AOps.nil ?_ | refine AWP.seq ?_ | refine AWP.region ?_ | refine AWP.block ?_ | refine AWP.skip ?_ | refine AWP.exit ?_ | refine AWP.scope ?_ | refine AWP.label ?_)
    refine AOps.allocH rfl rfl fun x hx => ?_
    refine AOps.storeH rfl rfl rfl (Heap.set_same _ _ _) rfl rfl ?_
    rw [Heap.set_set]
    obtain ⟨w4, x4, ax, bx, -⟩ := i3.new hx (abox ⟨dd, t0, bb⟩)
    obtain ⟨H4, hH4⟩ : ∃ H4, H3.set x (.box [.int .i64 dd, .int .i64 t0.origin, .int .i64 t0.seq, .int .i64 t0.deps.a, .int .i64 t0.deps.b, .int .i64 t0.deps.c, .sl (t0.writes.map wr) .no, .sl (encB bb) .no]) = H4 := ⟨_, rfl⟩
    rw [show H3.set x (abox ⟨dd, t0, bb⟩) = H4 from hH4] at w4 x4
    rw [hH4]
    clear hH4
    repeat (first
    | refine AOps.op rfl rfl ?_ | refine AOps.load rfl rfl rfl rfl rfl ?_ | refine AOps.nil ?_ | refine AWP.seq ?_ | refine AWP.region ?_ | refine AWP.block ?_ | refine AWP.skip ?_ | refine AWP.exit ?_ | refine AWP.scope ?_ | refine AWP.label ?_)
    refine AOps.call rfl rfl rfl ((cClock_spec c S H4 (i4.mono w4.a)).mono ?_)
    rintro _ H4 ⟨rfl, rfl⟩
    refine AOps.allocH rfl rfl fun y hy => ?_
    refine AOps.storeH rfl rfl rfl (Heap.set_same _ _ _) rfl rfl ?_
    rw [Heap.set_set]
    obtain ⟨w5, y5, ay, byy, old5⟩ := w4.new hy (kbox S.c)
    have x5 := old5 _ _ x4
    obtain ⟨H5, hH5⟩ : ∃ H5, H4.set y (.box [.int .i64 S.c.a, .int .i64 S.c.b, .int .i64 S.c.c]) = H5 := ⟨_, rfl⟩
    rw [show H4.set y (kbox S.c) = H5 from hH5] at w5 y5 x5
    rw [hH5]
    clear hH5 old5
    repeat (first
    | refine AOps.op rfl rfl ?_ | refine AOps.load rfl rfl rfl rfl rfl ?_ | refine AOps.nil ?_ | refine AWP.seq ?_ | refine AWP.region ?_ | refine AWP.block ?_ | refine AWP.skip ?_ | refine AWP.exit ?_ | refine AWP.scope ?_ | refine AWP.label ?_)
    refine AOps.load rfl (cellsAt_ptr x5) rfl rfl rfl ?_
    refine AOps.call rfl rfl rfl ((ACalls.first w5 (coTake_spec c S bb .no A i4 (by omega))).mono ?_)
    rintro r H6 ⟨A6, k6, w6, old6⟩
    obtain ⟨x6, ax6⟩ := old6 _ _ x5 ax
    obtain ⟨y6, ay6⟩ := old6 _ _ y5 ay
    unfold takeOut at k6
    cases htk : ttake S bb with
    | error e =>
      rw [htk] at k6
      obtain ⟨rfl, c6⟩ := k6
      have he := ttake_err htk
      repeat (first
    | refine AOps.op rfl rfl ?_ | refine AOps.load rfl rfl rfl rfl rfl ?_ | refine AOps.nil ?_ | refine AWP.seq ?_ | refine AWP.region ?_ | refine AWP.block ?_ | refine AWP.skip ?_ | refine AWP.exit ?_ | refine AWP.scope ?_ | refine AWP.label ?_)
      refine AOps.allocH rfl rfl fun z hz => ?_
      refine AOps.storeH rfl rfl rfl (Heap.set_same _ _ _) rfl rfl ?_
      rw [Heap.set_set]
      obtain ⟨w7, z7, az, bz, old7⟩ := w6.new hz (tbox Txn.zero .full)
      have y7 := old7 _ _ y6
      obtain ⟨H7, hH7⟩ : ∃ H7, H6.set z (.box [.int .i64 0, .int .i64 0, .int .i64 0, .int .i64 0, .int .i64 0, .sl [] .full]) = H7 := ⟨_, rfl⟩
      rw [show H6.set z (tbox Txn.zero .full) = H7 from hH7] at w7 z7 y7
      rw [show H6.set z (.box [.int .i64 Txn.zero.origin, .int .i64 Txn.zero.seq, .int .i64 Txn.zero.deps.a, .int .i64 Txn.zero.deps.b, .int .i64 Txn.zero.deps.c, .sl (Txn.zero.writes.map wr) .full]) = H7 from hH7]
      clear hH7
      repeat (first
    | refine AOps.op rfl rfl ?_ | refine AOps.load rfl rfl rfl rfl rfl ?_ | refine AOps.nil ?_ | refine AWP.seq ?_ | refine AWP.region ?_ | refine AWP.block ?_ | refine AWP.skip ?_ | refine AWP.exit ?_ | refine AWP.scope ?_ | refine AWP.label ?_)
      refine AWP.cond rfl (fun _ => ?_) (fun h => by simp at h; omega)
      repeat (first
    | refine AOps.op rfl rfl ?_ | refine AOps.load rfl rfl rfl rfl rfl ?_ | refine AOps.nil ?_ | refine AWP.seq ?_ | refine AWP.region ?_ | refine AWP.block ?_ | refine AWP.skip ?_ | refine AWP.exit ?_ | refine AWP.scope ?_ | refine AWP.label ?_)
      refine AWP.draw [[], [0], [], [0, 1, 2], [0, 1, 2, 3], [0, 1, 2, 3, 4], [0, 1, 2, 3, 4, 5], [0, 1, 2, 3, 4, 5, 6], [0, 1, 2, 3, 4, 5, 6, 7], [0, 1, 2, 3, 4, 5, 6, 7, 8], [0, 1, 2, 3, 4, 5, 6, 7, 8, 9], [0, 1, 2, 3, 4, 5, 6, 7, 8, 9, 10], [0, 1, 2, 3, 4, 5, 6, 7, 8, 9, 10, 11], [0, 1, 2, 3, 4, 5, 6, 7, 8, 9, 10, 11, 12]] [(0, .pure), (2, .read), (1, .eff), (3, .pure), (4, .pure), (5, .pure), (6, .pure), (7, .pure), (8, .pure), (9, .pure), (10, .read), (11, .pure), (12, .pure), (13, .pure)] rfl ?_
      repeat (first | refine DRun.op rfl rfl rfl ?_ | refine DRun.loadI rfl rfl rfl rfl rfl ?_ | refine DRun.load rfl rfl rfl rfl rfl rfl ?_ | refine DRun.opG rfl rfl rfl rfl rfl ?_ | refine DRun.loadG rfl rfl rfl rfl rfl rfl rfl rfl ?_ | refine DRun.nil ?_)
      refine DRun.load rfl rfl rfl (cellsAt_ptr y7) rfl rfl ?_
      refine DRun.eff rfl rfl rfl (OpT.callF rfl rfl ((cClock_spec c S H7 (c6.mono w7.a)).mono ?_))
      rintro _ H7 ⟨rfl, rfl⟩
      refine ⟨?_, ?_⟩
      · repeat (first | exact Chk.nil | refine Chk.pre rfl ?_ | refine Chk.load rfl (cellsAt_ptr y7) rfl rfl ?_)
      refine DRun.pureT rfl rfl rfl (fun loc H => OpT.eqAgg eqTy_ck rfl rfl (aeq_ck S.c S.c) (.inr rfl) ⟨rfl, rfl, rfl⟩) ?_
      rw [show decide (S.c = S.c) = true by simp]
      repeat (first | refine DRun.op rfl rfl rfl ?_ | refine DRun.loadI rfl rfl rfl rfl rfl ?_ | refine DRun.load rfl rfl rfl rfl rfl rfl ?_ | refine DRun.opG rfl rfl rfl rfl rfl ?_ | refine DRun.loadG rfl rfl rfl rfl rfl rfl rfl rfl ?_ | refine DRun.nil ?_)
      refine DRun.loadG rfl rfl rfl rfl rfl (cellsAt_ptr z7) rfl rfl ?_
      repeat (first | refine DRun.op rfl rfl rfl ?_ | refine DRun.loadI rfl rfl rfl rfl rfl ?_ | refine DRun.load rfl rfl rfl rfl rfl rfl ?_ | refine DRun.opG rfl rfl rfl rfl rfl ?_ | refine DRun.loadG rfl rfl rfl rfl rfl rfl rfl rfl ?_ | refine DRun.nil ?_)
      refine AWP.cond rfl (fun h => by simp [Txn.zero] at h) (fun _ => ?_)
      repeat (first
    | refine AOps.op rfl rfl ?_ | refine AOps.load rfl rfl rfl rfl rfl ?_ | refine AOps.nil ?_ | refine AWP.seq ?_ | refine AWP.region ?_ | refine AWP.block ?_ | refine AWP.skip ?_ | refine AWP.exit ?_ | refine AWP.scope ?_ | refine AWP.label ?_)
      exact ⟨(i + 1, S, H7, A6, B), by ((try dsimp only); omega), ⟨by ((try dsimp only); omega), i2, w7, c6, i5⟩, ⟨rfl, rfl, rfl, rfl, congrArg (fun x => some (AV.int .i64 x)) ei, trivial⟩, rfl, Heap.le_refl _⟩
    | ok v =>
      obtain ⟨t, n, S'⟩ := v
      rw [htk] at k6
      obtain ⟨tg, rfl, c6⟩ := k6
      obtain ⟨hc, hn1, hn2, hput⟩ := ttake_inv i2.1 htk
      obtain ⟨hok, -⟩ := ttake_ok i2 htk
      have hE : tputE S t = (bb.take n, 0, S') := by unfold tputE; rw [if_pos hc, hput]
      have hw16 := (tcheck_ok hc).2.2.2.2.1
      simp only at c6
      dsimp only
      repeat (first
    | refine AOps.op rfl rfl ?_ | refine AOps.load rfl rfl rfl rfl rfl ?_ | refine AOps.nil ?_ | refine AWP.seq ?_ | refine AWP.region ?_ | refine AWP.block ?_ | refine AWP.skip ?_ | refine AWP.exit ?_ | refine AWP.scope ?_ | refine AWP.label ?_)
      refine AOps.allocH rfl rfl fun z hz => ?_
      refine AOps.storeH rfl rfl rfl (Heap.set_same _ _ _) rfl rfl ?_
      rw [Heap.set_set]
      obtain ⟨w7, z7, az, bz, old7⟩ := w6.new hz (tbox t tg)
      have x7 := old7 _ _ x6
      obtain ⟨H7, hH7⟩ : ∃ H7, H6.set z (.box [.int .i64 t.origin, .int .i64 t.seq, .int .i64 t.deps.a, .int .i64 t.deps.b, .int .i64 t.deps.c, .sl (t.writes.map wr) tg]) = H7 := ⟨_, rfl⟩
      rw [show H6.set z (tbox t tg) = H7 from hH7] at w7 z7 x7
      rw [hH7]
      clear hH7 old7
      repeat (first
    | refine AOps.op rfl rfl ?_ | refine AOps.load rfl rfl rfl rfl rfl ?_ | refine AOps.nil ?_ | refine AWP.seq ?_ | refine AWP.region ?_ | refine AWP.block ?_ | refine AWP.skip ?_ | refine AWP.exit ?_ | refine AWP.scope ?_ | refine AWP.label ?_)
      refine AWP.cond rfl (fun h => by simp at h) (fun _ => ?_)
      repeat (first
    | refine AOps.op rfl rfl ?_ | refine AOps.load rfl rfl rfl rfl rfl ?_ | refine AOps.nil ?_ | refine AWP.seq ?_ | refine AWP.region ?_ | refine AWP.block ?_ | refine AWP.skip ?_ | refine AWP.exit ?_ | refine AWP.scope ?_ | refine AWP.label ?_)
      refine AOps.load rfl (cellsAt_ptr z7) rfl rfl rfl ?_
      refine AOps.call (vs := [.ptr d 0, tx t tg]) rfl rfl rfl ((ACalls.first w7.symm (coPut_spec d S t tg (by omega) B i5)).mono ?_)
      rintro _ H8 ⟨B8, ⟨tp, rfl, d8⟩, w8, old8⟩
      rw [hE] at d8 ⊢
      simp only at d8
      dsimp only
      obtain ⟨x8, bx8⟩ := old8 _ _ x7 bx
      obtain ⟨z8, bz8⟩ := old8 _ _ z7 bz
      have hlt1 : decide ((n : Int) < 1) = false := decide_eq_false (by omega)
      repeat (first
    | refine AOps.op rfl rfl ?_ | refine AOps.load rfl rfl rfl rfl rfl ?_ | refine AOps.nil ?_ | refine AWP.seq ?_ | refine AWP.region ?_ | refine AWP.block ?_ | refine AWP.skip ?_ | refine AWP.exit ?_ | refine AWP.scope ?_ | refine AWP.label ?_)
      repeat (first | refine AOps.unguard rfl rfl rfl ?_ | refine AOps.op rfl rfl ?_ | refine AOps.load rfl rfl rfl rfl rfl ?_)
      rw [hlt1]
      repeat (first | refine AOps.unguard rfl rfl rfl ?_ | refine AOps.op rfl rfl ?_ | refine AOps.load rfl rfl rfl rfl rfl ?_)
      refine AOps.load rfl (cellsAt_ptr x8) rfl rfl rfl ?_
      repeat (first | refine AOps.unguard rfl rfl rfl ?_ | refine AOps.op rfl rfl ?_ | refine AOps.load rfl rfl rfl rfl rfl ?_)
      rw [show decide ((n : Int) > ((encB bb).length : Nat)) = false from decide_eq_false (by rw [encB_length]; omega)]
      repeat (first | refine AOps.unguard rfl rfl rfl ?_ | refine AOps.op rfl rfl ?_ | refine AOps.load rfl rfl rfl rfl rfl ?_)
      refine AOps.load rfl (cellsAt_ptr x8) rfl rfl rfl ?_
      repeat (first | refine AOps.unguard rfl rfl rfl ?_ | refine AOps.op rfl rfl ?_ | refine AOps.load rfl rfl rfl rfl rfl ?_)
      refine AOps.step rfl rfl (cutTo n rfl rfl hn2 ?_)
      repeat (first | refine AOps.unguard rfl rfl rfl ?_ | refine AOps.op rfl rfl ?_ | refine AOps.load rfl rfl rfl rfl rfl ?_)
      refine AOps.call rfl rfl rfl ((R1Same_spec (bb.take n) (bb.take n) tp .no (by simp; omega) (by simp; omega) H8).mono ?_)
      rintro _ H8 ⟨rfl, rfl⟩
      rw [show decide (bb.take n = bb.take n) = true by simp]
      repeat (first | refine AOps.unguard rfl rfl rfl ?_ | refine AOps.op rfl rfl ?_ | refine AOps.load rfl rfl rfl rfl rfl ?_)
      refine AOps.load rfl (cellsAt_ptr z8) rfl rfl rfl ?_
      repeat (first | refine AOps.unguard rfl rfl rfl ?_ | refine AOps.op rfl rfl ?_ | refine AOps.load rfl rfl rfl rfl rfl ?_)
      refine AOps.call (vs := [tx t tg]) rfl rfl rfl ((Check_spec t tg (by omega) H8).mono ?_)
      rintro _ H8 ⟨rfl, rfl⟩
      rw [hc]
      repeat (first | refine AOps.unguard rfl rfl rfl ?_ | refine AOps.op rfl rfl ?_ | refine AOps.load rfl rfl rfl rfl rfl ?_)
      refine AOps.call rfl rfl rfl ((cClock_spec d S' H8 (d8.mono w8.a)).mono ?_)
      rintro _ H8 ⟨rfl, rfl⟩
      repeat (first | refine AOps.unguard rfl rfl rfl ?_ | refine AOps.op rfl rfl ?_ | refine AOps.load rfl rfl rfl rfl rfl ?_)
      refine AOps.call rfl rfl rfl ((cClock_spec c S' H8 (c6.mono w8.b)).mono ?_)
      rintro _ H8 ⟨rfl, rfl⟩
      repeat (first | refine AOps.unguard rfl rfl rfl ?_ | refine AOps.op rfl rfl ?_ | refine AOps.load rfl rfl rfl rfl rfl ?_)
      refine AOps.step rfl rfl (OpT.eqAgg eqTy_ck rfl rfl (aeq_ck S'.c S'.c) (.inr rfl) ?_)
      rw [show decide (S'.c = S'.c) = true by simp]
      repeat (first | refine AOps.unguard rfl rfl rfl ?_ | refine AOps.op rfl rfl ?_ | refine AOps.load rfl rfl rfl rfl rfl ?_)
      repeat (first
    | refine AOps.op rfl rfl ?_ | refine AOps.load rfl rfl rfl rfl rfl ?_ | refine AOps.nil ?_ | refine AWP.seq ?_ | refine AWP.region ?_ | refine AWP.block ?_ | refine AWP.skip ?_ | refine AWP.exit ?_ | refine AWP.scope ?_ | refine AWP.label ?_)
      refine AWP.cond rfl (fun h => by simp at h) (fun _ => ?_)
      repeat (first
    | refine AOps.op rfl rfl ?_ | refine AOps.load rfl rfl rfl rfl rfl ?_ | refine AOps.nil ?_ | refine AWP.seq ?_ | refine AWP.region ?_ | refine AWP.block ?_ | refine AWP.skip ?_ | refine AWP.exit ?_ | refine AWP.scope ?_ | refine AWP.label ?_)
      exact ⟨(i + 1, S', H8, A6, B8), by ((try dsimp only); omega), ⟨by ((try dsimp only); omega), hok, w8.symm, c6, d8⟩, ⟨rfl, rfl, rfl, rfl, congrArg (fun x => some (AV.int .i64 x)) ei, trivial⟩, rfl, Heap.le_refl _⟩
  · have h : l.length ≤ i := by simp at h; omega
    repeat (first
    | refine AOps.op rfl rfl ?_ | refine AOps.load rfl rfl rfl rfl rfl ?_ | refine AOps.nil ?_ | refine AWP.seq ?_ | refine AWP.region ?_ | refine AWP.block ?_ | refine AWP.skip ?_ | refine AWP.exit ?_ | refine AWP.scope ?_ | refine AWP.label ?_)
    refine AWP.ret ?_
    exact ⟨_, _, rfl, rfl, Heap.le_refl _, rfl⟩
end Go.Proofs.Ytlbnhokhhangdaa

/- The statements of layer 6: act by act as the document says. -/
namespace Go.Proofs.Ytlbnhokhhangdaa
open Go Go.Am Go.Pk Go.Lib
set_option linter.unusedVariables false
set_option linter.unusedSimpArgs false
set_option maxRecDepth 10000
attribute [local irreducible] AOps AWP DRun ACalls

attribute [local irreducible] tputE ttake tput tcheck

/-- A new coder of the document's. -/
theorem Two.coder {H A : Heap} (hA : A.le H) {q : Nat} (hq : H q = none) : Two (H.set q (rcbox Clk.zero (.sl [] .full) (.sl [] .full) 0)) A (Heap.one q (rcbox Clk.zero (.sl [] .full) (.sl [] .full) 0)) ∧
    RCodAt (Heap.one q (rcbox Clk.zero (.sl [] .full) (.sl [] .full) 0)) q Cod.nil := by
  have hAq : A q = none := by
    cases e : A q with
    | none => rfl
    | some y => rw [hA _ _ e] at hq; cases hq
  exact ⟨⟨hA.trans (Heap.le_set hq), Heap.one_le.2 (Heap.set_same _ _ _), Disj.one hAq⟩, Dic.nil_ok, rfl, _, _, Heap.set_same _ _ _, .inl ⟨rfl, rfl⟩, .inl ⟨rfl, rfl⟩⟩

theorem coTake_res (c : Nat) (S : Cod) (b : Str) (tag : Tag) (H : Heap) (h : CodAt H c S) (hb : b.length < 2 ^ 40) :
    ACalls Q.prog 14 [.ptr c 0, .sl (encB b) tag] H fun r H' => ∃ tag', r = .tuple [tx (tres S b).1 tag', .int .i64 ((tres S b).2.1 : Nat), .int .i64 ((tres S b).2.2.1 : Nat)] ∧ CodAt H' c (tres S b).2.2.2 :=
  (coTake_spec c S b tag H h hb).mono fun r H' k => by
    unfold takeOut at k
    unfold tres
    cases e : ttake S b with
    | ok v => rw [e] at k; exact k
    | error n => rw [e] at k; exact ⟨.full, k.1, k.2⟩

theorem R6Take_res (r : Nat) (S : Cod) (b : Str) (tag : Tag) (H : Heap) (h : RCodAt H r S) (hb : b.length < 2 ^ 40) (hnow : S.d.now < 2 ^ 50) :
    ACalls Q.prog 20 [.ptr r 0, .sl (encB b) tag] H fun x H' => ∃ tag', x = .tuple [tx (tres S b).1 tag', .int .i64 ((tres S b).2.1 : Nat), .int .i64 ((tres S b).2.2.1 : Nat)] ∧ RCodAt H' r (tres S b).2.2.2 :=
  (R6Take_spec r S b tag H h hb hnow).mono fun x H' ⟨_, k⟩ => by
    unfold tres
    cases e : ttake S b with
    | ok v => rw [e] at k; exact k
    | error n => rw [e] at k; exact ⟨.full, k.1, k.2⟩

attribute [local irreducible] tres

set_option maxHeartbeats 2000000 in
theorem TxnDoes_spec (l : List TAct) :
    ACalls Q.prog 5 [.sl (l.map ac) .no] Heap.nil fun r H' => r = .bool true := by
  refine ACalls.body (N := 112) Try.func5 rfl rfl rfl rfl ?_
  repeat (first
    | refine AOps.op rfl rfl ?_ | refine AOps.load rfl rfl rfl rfl rfl ?_ | refine AOps.nil ?_ | refine AWP.seq ?_ | refine AWP.region ?_ | refine AWP.block ?_ | refine AWP.skip ?_ | refine AWP.exit ?_ | refine AWP.scope ?_ | refine AWP.label ?_)
  refine AOps.call rfl rfl rfl ((awake6_spec Heap.nil).mono ?_)
  rintro _ H0 rfl
  repeat (first
    | refine AOps.op rfl rfl ?_ | refine AOps.load rfl rfl rfl rfl rfl ?_ | refine AOps.nil ?_ | refine AWP.seq ?_ | refine AWP.region ?_ | refine AWP.block ?_ | refine AWP.skip ?_ | refine AWP.exit ?_ | refine AWP.scope ?_ | refine AWP.label ?_)
  refine AWP.cond rfl (fun h => by simp at h) (fun _ => ?_)
  repeat (first
    | refine AOps.op rfl rfl ?_ | refine AOps.load rfl rfl rfl rfl rfl ?_ | refine AOps.nil ?_ | refine AWP.seq ?_ | refine AWP.region ?_ | refine AWP.block ?_ | refine AWP.skip ?_ | refine AWP.exit ?_ | refine AWP.scope ?_ | refine AWP.label ?_)
  refine AOps.call rfl rfl rfl ((large_spec l .no H0).mono ?_)
  rintro _ H0 ⟨rfl, rfl⟩
  repeat (first
    | refine AOps.op rfl rfl ?_ | refine AOps.load rfl rfl rfl rfl rfl ?_ | refine AOps.nil ?_ | refine AWP.seq ?_ | refine AWP.region ?_ | refine AWP.block ?_ | refine AWP.skip ?_ | refine AWP.exit ?_ | refine AWP.scope ?_ | refine AWP.label ?_)
  refine AWP.cond rfl (fun h => ?_) (fun hlarge => ?_)
  · repeat (first
    | refine AOps.op rfl rfl ?_ | refine AOps.load rfl rfl rfl rfl rfl ?_ | refine AOps.nil ?_ | refine AWP.seq ?_ | refine AWP.region ?_ | refine AWP.block ?_ | refine AWP.skip ?_ | refine AWP.exit ?_ | refine AWP.scope ?_ | refine AWP.label ?_)
    refine AWP.ret ?_
    exact ⟨_, _, rfl, rfl, Heap.le_refl _, rfl⟩
  obtain ⟨l30, lacts⟩ := alarge_no hlarge
  repeat (first
    | refine AOps.op rfl rfl ?_ | refine AOps.load rfl rfl rfl rfl rfl ?_ | refine AOps.nil ?_ | refine AWP.seq ?_ | refine AWP.region ?_ | refine AWP.block ?_ | refine AWP.skip ?_ | refine AWP.exit ?_ | refine AWP.scope ?_ | refine AWP.label ?_)
  refine AOps.call rfl rfl rfl ((cNew_spec H0).mono ?_)
  rintro _ H1 ⟨c, rfl, hl1, hc1⟩
  repeat (first
    | refine AOps.op rfl rfl ?_ | refine AOps.load rfl rfl rfl rfl rfl ?_ | refine AOps.nil ?_ | refine AWP.seq ?_ | refine AWP.region ?_ | refine AWP.block ?_ | refine AWP.skip ?_ | refine AWP.exit ?_ | refine AWP.scope ?_ | refine AWP.label ?_)
  refine AOps.boxH rfl rfl rfl rfl fun q hq => ?_
  obtain ⟨htwo, hr2⟩ := Two.coder (Heap.minus_le H1 H0) hq
  repeat (first
    | refine AOps.op rfl rfl ?_ | refine AOps.load rfl rfl rfl rfl rfl ?_ | refine AOps.nil ?_ | refine AWP.seq ?_ | refine AWP.region ?_ | refine AWP.block ?_ | refine AWP.skip ?_ | refine AWP.exit ?_ | refine AWP.scope ?_ | refine AWP.label ?_)
  refine AWP.cond rfl (fun h => by simp at h) (fun _ => ?_)
  repeat (first
    | refine AOps.op rfl rfl ?_ | refine AOps.load rfl rfl rfl rfl rfl ?_ | refine AOps.nil ?_ | refine AWP.seq ?_ | refine AWP.region ?_ | refine AWP.skip ?_ | refine AWP.exit ?_ | refine AWP.scope ?_ | refine AWP.label ?_)
  refine AWP.block ?_
  refine AWP.loopA (α := Nat × Cod × Nat × Heap × Heap × Heap) (fun a => a.1 ≤ l.length ∧ a.2.1.ok ∧ Two a.2.2.2.1 a.2.2.2.2.1 a.2.2.2.2.2 ∧ CodAt a.2.2.2.2.1 c a.2.1 ∧ RCodAt a.2.2.2.2.2 a.2.2.1 a.2.1 ∧ a.2.1.d.now ≤ 16 * a.1) (fun a => l.length - a.1)
    (fun a => [(3, .ptr c 0), (4, .ptr a.2.2.1 0), (26, .sl (l.map ac) .no), (27, .int .i64 l.length), (28, .int .i64 a.1)]) (fun _ => []) (fun a => a.2.2.2.1)
    (0, Cod.nil, q, H1.set q (rcbox Clk.zero (.sl [] .full) (.sl [] .full) 0), H1.minus H0, Heap.one q (rcbox Clk.zero (.sl [] .full) (.sl [] .full) 0)) ⟨by simp, Cod.nil_ok, htwo, hc1, hr2, by simp [Cod.nil, Dic.nil]⟩ ⟨rfl, rfl, rfl, ?_, rfl, trivial⟩ rfl (Heap.le_refl _) ?_
  · exact congrArg (fun n : Nat => some (AV.int .i64 n)) (ac_len l)
  clear htwo hr2 hq
  rintro ⟨i, S, r, H3, A, B⟩ ⟨i1, i2, i3, i4, i5, i6⟩
  simp only at i1 i2 i3 i4 i5 i6
  dsimp only
  repeat (first
    | refine AOps.op rfl rfl ?_ | refine AOps.load rfl rfl rfl rfl rfl ?_ | refine AOps.nil ?_ | refine AWP.seq ?_ | refine AWP.region ?_ | refine AWP.block ?_ | refine AWP.skip ?_ | refine AWP.exit ?_ | refine AWP.scope ?_ | refine AWP.label ?_)
  refine AWP.cond rfl (fun h => ?_) (fun h => ?_)
  · have hlt : i < l.length := by simp at h; omega
    have ei : IntKind.i64.wrap ((i : Int) + 1) = ((i + 1 : Nat) : Int) := wrap_i64 (n := i + 1) (by omega)
    obtain ⟨a, ha⟩ : ∃ a, l[i]? = some a := ⟨l[i], List.getElem?_eq_getElem hlt⟩
    obtain ⟨ha1, ha2⟩ := lacts a (List.mem_of_getElem? ha)
    obtain ⟨dd, t, bb⟩ := a
    simp only at ha1 ha2
    repeat (first
    | refine AOps.op rfl rfl ?_ | refine AOps.load rfl rfl rfl rfl rfl ?_ | refine AOps.nil ?_ | refine AWP.seq ?_ | refine AWP.region ?_ | refine AWP.block ?_ | refine AWP.skip ?_ | refine AWP.exit ?_ | refine AWP.scope ?_ | refine AWP.label ?_)
    refine AOps.indexSl rfl rfl rfl rfl rfl rfl (by omega) (getD_ac ha) rfl rfl ?_
    repeat (first
    | refine AOps.op rfl rfl ?_ | refine AOps.load rfl rfl rfl rfl rfl ?_ | refine AOps.nil ?_ | refine AWP.seq ?_ | refine AWP.region ?_ | refine AWP.block ?_ | refine AWP.skip ?_ | refine AWP.exit ?_ | refine AWP.scope ?_ | refine AWP.label ?_)
    refine AOps.allocH rfl rfl fun x hx => ?_
    refine AOps.storeH rfl rfl rfl (Heap.set_same _ _ _) rfl rfl ?_
    rw [Heap.set_set]
    obtain ⟨w4, x4, ax, bx, -⟩ := i3.new hx (abox ⟨dd, t, bb⟩)
    obtain ⟨H4, hH4⟩ : ∃ H4, H3.set x (.box [.int .i64 dd, .int .i64 t.origin, .int .i64 t.seq, .int .i64 t.deps.a, .int .i64 t.deps.b, .int .i64 t.deps.c, .sl (t.writes.map wr) .no, .sl (encB bb) .no]) = H4 := ⟨_, rfl⟩
    rw [show H3.set x (abox ⟨dd, t, bb⟩) = H4 from hH4] at w4 x4
    rw [hH4]
    clear hH4
    repeat (first
    | refine AOps.op rfl rfl ?_ | refine AOps.load rfl rfl rfl rfl rfl ?_ | refine AOps.nil ?_ | refine AWP.seq ?_ | refine AWP.region ?_ | refine AWP.block ?_ | refine AWP.skip ?_ | refine AWP.exit ?_ | refine AWP.scope ?_ | refine AWP.label ?_)
    refine AWP.draw [[], [0], [0, 1], [], [3], [0, 1, 2, 3, 4], [0, 1, 2, 3, 4, 5]] [(0, .pure), (1, .read), (2, .pure), (3, .pure), (4, .read), (5, .pure), (6, .pure)] rfl ?_
    repeat (first | refine DRun.op rfl rfl rfl ?_ | refine DRun.loadI rfl rfl rfl rfl rfl ?_ | refine DRun.load rfl rfl rfl rfl rfl rfl ?_ | refine DRun.nil ?_)
    refine DRun.load rfl rfl rfl (cellsAt_ptr x4) rfl rfl ?_
    repeat (first | refine DRun.op rfl rfl rfl ?_ | refine DRun.loadI rfl rfl rfl rfl rfl ?_ | refine DRun.load rfl rfl rfl rfl rfl rfl ?_ | refine DRun.nil ?_)
    refine DRun.callP (vs := [tx t .no]) rfl rfl rfl rfl (fun H => Check_spec t .no (by omega) H) ?_
    repeat (first | refine DRun.op rfl rfl rfl ?_ | refine DRun.loadI rfl rfl rfl rfl rfl ?_ | refine DRun.load rfl rfl rfl rfl rfl rfl ?_ | refine DRun.nil ?_)
    refine DRun.load rfl rfl rfl (cellsAt_ptr x4) rfl rfl ?_
    refine DRun.callP (vs := [tx t .no]) rfl rfl rfl rfl (fun H => R6Check_spec t .no (by omega) H) ?_
    repeat (first | refine DRun.op rfl rfl rfl ?_ | refine DRun.loadI rfl rfl rfl rfl rfl ?_ | refine DRun.load rfl rfl rfl rfl rfl rfl ?_ | refine DRun.nil ?_)
    refine AWP.cond rfl (fun h => by simp at h) (fun _ => ?_)
    repeat (first
    | refine AOps.op rfl rfl ?_ | refine AOps.load rfl rfl rfl rfl rfl ?_ | refine AOps.nil ?_ | refine AWP.seq ?_ | refine AWP.region ?_ | refine AWP.block ?_ | refine AWP.skip ?_ | refine AWP.exit ?_ | refine AWP.scope ?_ | refine AWP.label ?_)
    refine AOps.load rfl (cellsAt_ptr x4) rfl rfl rfl ?_
    repeat (first
    | refine AOps.op rfl rfl ?_ | refine AOps.load rfl rfl rfl rfl rfl ?_ | refine AOps.nil ?_ | refine AWP.seq ?_ | refine AWP.region ?_ | refine AWP.skip ?_ | refine AWP.exit ?_ | refine AWP.scope ?_ | refine AWP.label ?_)
    refine AWP.thnA (α := Cod × Nat × Heap × Heap × Heap) (fun a => a.1.ok ∧ Two a.2.2.1 a.2.2.2.1 a.2.2.2.2 ∧ CodAt a.2.2.2.1 c a.1 ∧ RCodAt a.2.2.2.2 a.2.1 a.1 ∧ a.1.d.now ≤ 16 * (i + 1))
      (fun a => [(3, .ptr c 0), (4, .ptr a.2.1 0), (26, .sl (l.map ac) .no), (27, .int .i64 l.length), (28, .int .i64 i)]) (fun _ => []) (fun a => a.2.2.1) ?_ ?_
    · refine AWP.block ?_
      repeat (first
    | refine AOps.op rfl rfl ?_ | refine AOps.load rfl rfl rfl rfl rfl ?_ | refine AOps.nil ?_ | refine AWP.seq ?_ | refine AWP.region ?_ | refine AWP.block ?_ | refine AWP.skip ?_ | refine AWP.exit ?_ | refine AWP.scope ?_ | refine AWP.label ?_)
      refine AWP.cond rfl (fun h => ?_) (fun h => ?_)
      · repeat (first
    | refine AOps.op rfl rfl ?_ | refine AOps.load rfl rfl rfl rfl rfl ?_ | refine AOps.nil ?_ | refine AWP.seq ?_ | refine AWP.region ?_ | refine AWP.block ?_ | refine AWP.skip ?_ | refine AWP.exit ?_ | refine AWP.scope ?_ | refine AWP.label ?_)
        refine AOps.load rfl (cellsAt_ptr x4) rfl rfl rfl ?_
        refine AOps.call (vs := [.ptr c 0, tx t .no]) rfl rfl rfl ((ACalls.first w4 (coPut_spec c S t .no (by omega) A i4)).mono ?_)
        rintro _ H5 ⟨A5, ⟨tp, rfl, c5⟩, w5, old5⟩
        obtain ⟨x5, -⟩ := old5 _ _ x4 ax
        repeat (first
    | refine AOps.op rfl rfl ?_ | refine AOps.load rfl rfl rfl rfl rfl ?_ | refine AOps.nil ?_ | refine AWP.seq ?_ | refine AWP.region ?_ | refine AWP.block ?_ | refine AWP.skip ?_ | refine AWP.exit ?_ | refine AWP.scope ?_ | refine AWP.label ?_)
        refine AOps.load rfl (cellsAt_ptr x5) rfl rfl rfl ?_
        refine AOps.call (vs := [.ptr r 0, tx t .no]) rfl rfl rfl ((ACalls.first w5.symm (R6Put_spec r S t .no (by omega) B i5 (by omega))).mono ?_)
        rintro _ H6 ⟨B6, ⟨tq, rfl, r6, -⟩, w6, old6⟩
        have hlen := tputE_len i2 t
        have hok := tputE_ok i2 t
        have hnow := tputE_now (S := S) t
        generalize tputE S t = P at *
        obtain ⟨pb, pe, S'⟩ := P
        simp only at c5 r6 hlen hok hnow
        dsimp only
        repeat (first
    | refine AOps.op rfl rfl ?_ | refine AOps.load rfl rfl rfl rfl rfl ?_ | refine AOps.nil ?_ | refine AWP.seq ?_ | refine AWP.region ?_ | refine AWP.block ?_ | refine AWP.skip ?_ | refine AWP.exit ?_ | refine AWP.scope ?_ | refine AWP.label ?_)
        refine AOps.call rfl rfl rfl ((R1Same_spec pb pb tp tq (by omega) (by omega) H6).mono ?_)
        rintro _ H6 ⟨rfl, rfl⟩
        rw [show decide (pb = pb) = true by simp]
        repeat (first | refine AOps.unguard rfl rfl rfl ?_ | refine AOps.op rfl rfl ?_ | refine AOps.load rfl rfl rfl rfl rfl ?_)
        rw [show ((pe : Int) != (pe : Int)) = false by simp]
        repeat (first | refine AOps.unguard rfl rfl rfl ?_ | refine AOps.op rfl rfl ?_ | refine AOps.load rfl rfl rfl rfl rfl ?_)
        refine AOps.nil ?_
        refine AWP.cond rfl (fun h => by simp at h) (fun _ => ?_)
        repeat (first
    | refine AOps.op rfl rfl ?_ | refine AOps.load rfl rfl rfl rfl rfl ?_ | refine AOps.nil ?_ | refine AWP.seq ?_ | refine AWP.region ?_ | refine AWP.block ?_ | refine AWP.skip ?_ | refine AWP.exit ?_ | refine AWP.scope ?_ | refine AWP.label ?_)
        exact ⟨(S', r, H6, A5, B6), ⟨hok, w6.symm, c5, r6, by ((try dsimp only); omega)⟩, ⟨rfl, rfl, rfl, rfl, rfl, trivial⟩, rfl, Heap.le_refl _⟩
      repeat (first
    | refine AOps.op rfl rfl ?_ | refine AOps.load rfl rfl rfl rfl rfl ?_ | refine AOps.nil ?_ | refine AWP.seq ?_ | refine AWP.region ?_ | refine AWP.block ?_ | refine AWP.skip ?_ | refine AWP.exit ?_ | refine AWP.scope ?_ | refine AWP.label ?_)
      refine AWP.cond rfl (fun h => ?_) (fun h => ?_)
      · repeat (first
    | refine AOps.op rfl rfl ?_ | refine AOps.load rfl rfl rfl rfl rfl ?_ | refine AOps.nil ?_ | refine AWP.seq ?_ | refine AWP.region ?_ | refine AWP.block ?_ | refine AWP.skip ?_ | refine AWP.exit ?_ | refine AWP.scope ?_ | refine AWP.label ?_)
        refine AOps.load rfl (cellsAt_ptr x4) rfl rfl rfl ?_
        refine AOps.call rfl rfl rfl ((ACalls.first w4 (coTake_res c S bb .no A i4 (by omega))).mono ?_)
        rintro _ H5 ⟨A5, ⟨tp, rfl, c5⟩, w5, old5⟩
        obtain ⟨x5, -⟩ := old5 _ _ x4 ax
        obtain ⟨hok, hnow, hwl, -⟩ := tres_ok i2 bb
        have hR := R6Take_res r S bb .no B i5 (by omega) (by omega)
        generalize tres S bb = P at *
        obtain ⟨T, n, e, S'⟩ := P
        simp only at c5 hok hnow hwl hR
        dsimp only
        repeat (first
    | refine AOps.op rfl rfl ?_ | refine AOps.load rfl rfl rfl rfl rfl ?_ | refine AOps.nil ?_ | refine AWP.seq ?_ | refine AWP.region ?_ | refine AWP.block ?_ | refine AWP.skip ?_ | refine AWP.exit ?_ | refine AWP.scope ?_ | refine AWP.label ?_)
        refine AOps.allocH rfl rfl fun y hy => ?_
        refine AOps.storeH rfl rfl rfl (Heap.set_same _ _ _) rfl rfl ?_
        rw [Heap.set_set]
        obtain ⟨w6, y6, ay, byy, old6⟩ := w5.new hy (tbox T tp)
        have x6 := old6 _ _ x5
        obtain ⟨H6, hH6⟩ : ∃ H6, H5.set y (.box [.int .i64 T.origin, .int .i64 T.seq, .int .i64 T.deps.a, .int .i64 T.deps.b, .int .i64 T.deps.c, .sl (T.writes.map wr) tp]) = H6 := ⟨_, rfl⟩
        rw [show H5.set y (tbox T tp) = H6 from hH6] at w6 y6 x6
        rw [hH6]
        clear hH6 old6
        repeat (first
    | refine AOps.op rfl rfl ?_ | refine AOps.load rfl rfl rfl rfl rfl ?_ | refine AOps.nil ?_ | refine AWP.seq ?_ | refine AWP.region ?_ | refine AWP.block ?_ | refine AWP.skip ?_ | refine AWP.exit ?_ | refine AWP.scope ?_ | refine AWP.label ?_)
        refine AOps.load rfl (cellsAt_ptr x6) rfl rfl rfl ?_
        refine AOps.call rfl rfl rfl ((ACalls.first w6.symm hR).mono ?_)
        rintro _ H7 ⟨B7, ⟨tq, rfl, r7⟩, w7, old7⟩
        obtain ⟨y7, -⟩ := old7 _ _ y6 byy
        repeat (first
    | refine AOps.op rfl rfl ?_ | refine AOps.load rfl rfl rfl rfl rfl ?_ | refine AOps.nil ?_ | refine AWP.seq ?_ | refine AWP.region ?_ | refine AWP.block ?_ | refine AWP.skip ?_ | refine AWP.exit ?_ | refine AWP.scope ?_ | refine AWP.label ?_)
        refine AOps.allocH rfl rfl fun z hz => ?_
        refine AOps.storeH rfl rfl rfl (Heap.set_same _ _ _) rfl rfl ?_
        rw [Heap.set_set]
        obtain ⟨w8, z8, az, bz, old8⟩ := w7.new hz (tbox T tq)
        have y8 := old8 _ _ y7
        obtain ⟨H8, hH8⟩ : ∃ H8, H7.set z (.box [.int .i64 T.origin, .int .i64 T.seq, .int .i64 T.deps.a, .int .i64 T.deps.b, .int .i64 T.deps.c, .sl (T.writes.map wr) tq]) = H8 := ⟨_, rfl⟩
        rw [show H7.set z (tbox T tq) = H8 from hH8] at w8 z8 y8
        rw [hH8]
        clear hH8 old8
        repeat (first
    | refine AOps.op rfl rfl ?_ | refine AOps.load rfl rfl rfl rfl rfl ?_ | refine AOps.nil ?_ | refine AWP.seq ?_ | refine AWP.region ?_ | refine AWP.block ?_ | refine AWP.skip ?_ | refine AWP.exit ?_ | refine AWP.scope ?_ | refine AWP.label ?_)
        refine AOps.load rfl (cellsAt_ptr y8) rfl rfl rfl ?_
        refine AOps.load rfl (cellsAt_ptr z8) rfl rfl rfl ?_
        refine AOps.call (vs := [tx T tp, tx T tq]) rfl rfl rfl ((R6Same_spec T T tp tq (by omega) (by omega) H8).mono ?_)
        rintro _ H8 ⟨rfl, rfl⟩
        rw [show decide (T = T) = true by simp]
        repeat (first | refine AOps.unguard rfl rfl rfl ?_ | refine AOps.op rfl rfl ?_ | refine AOps.load rfl rfl rfl rfl rfl ?_)
        rw [show ((n : Int) != (n : Int)) = false by simp]
        repeat (first | refine AOps.unguard rfl rfl rfl ?_ | refine AOps.op rfl rfl ?_ | refine AOps.load rfl rfl rfl rfl rfl ?_)
        rw [show ((e : Int) != (e : Int)) = false by simp]
        repeat (first | refine AOps.unguard rfl rfl rfl ?_ | refine AOps.op rfl rfl ?_ | refine AOps.load rfl rfl rfl rfl rfl ?_)
        refine AOps.nil ?_
        refine AWP.cond rfl (fun h => by simp at h) (fun _ => ?_)
        repeat (first
    | refine AOps.op rfl rfl ?_ | refine AOps.load rfl rfl rfl rfl rfl ?_ | refine AOps.nil ?_ | refine AWP.seq ?_ | refine AWP.region ?_ | refine AWP.block ?_ | refine AWP.skip ?_ | refine AWP.exit ?_ | refine AWP.scope ?_ | refine AWP.label ?_)
        exact ⟨(S', r, H8, A5, B7), ⟨hok, w8.symm, c5, r7, by ((try dsimp only); omega)⟩, ⟨rfl, rfl, rfl, rfl, rfl, trivial⟩, rfl, Heap.le_refl _⟩
      repeat (first
    | refine AOps.op rfl rfl ?_ | refine AOps.load rfl rfl rfl rfl rfl ?_ | refine AOps.nil ?_ | refine AWP.seq ?_ | refine AWP.region ?_ | refine AWP.block ?_ | refine AWP.skip ?_ | refine AWP.exit ?_ | refine AWP.scope ?_ | refine AWP.label ?_)
      refine AWP.cond rfl (fun h => ?_) (fun h => ?_)
      · repeat (first
    | refine AOps.op rfl rfl ?_ | refine AOps.load rfl rfl rfl rfl rfl ?_ | refine AOps.nil ?_ | refine AWP.seq ?_ | refine AWP.region ?_ | refine AWP.block ?_ | refine AWP.skip ?_ | refine AWP.exit ?_ | refine AWP.scope ?_ | refine AWP.label ?_)
        refine AOps.call rfl rfl rfl ((ACalls.first w4 (cReset_spec c S A i4)).mono ?_)
        rintro _ H5 ⟨A5, c5, w5, -⟩
        repeat (first
    | refine AOps.op rfl rfl ?_ | refine AOps.load rfl rfl rfl rfl rfl ?_ | refine AOps.nil ?_ | refine AWP.seq ?_ | refine AWP.region ?_ | refine AWP.block ?_ | refine AWP.skip ?_ | refine AWP.exit ?_ | refine AWP.scope ?_ | refine AWP.label ?_)
        refine AOps.boxH rfl rfl rfl rfl fun q5 hq5 => ?_
        obtain ⟨w6, r6⟩ := Two.coder w5.a hq5
        repeat (first
    | refine AOps.op rfl rfl ?_ | refine AOps.load rfl rfl rfl rfl rfl ?_ | refine AOps.nil ?_ | refine AWP.seq ?_ | refine AWP.region ?_ | refine AWP.block ?_ | refine AWP.skip ?_ | refine AWP.exit ?_ | refine AWP.scope ?_ | refine AWP.label ?_)
        exact ⟨(Cod.nil, q5, _, A5, _), ⟨Cod.nil_ok, w6, c5, r6, by simp [Cod.nil, Dic.nil]⟩, ⟨rfl, rfl, rfl, rfl, rfl, trivial⟩, rfl, Heap.le_refl _⟩
      · repeat (first
    | refine AOps.op rfl rfl ?_ | refine AOps.load rfl rfl rfl rfl rfl ?_ | refine AOps.nil ?_ | refine AWP.seq ?_ | refine AWP.region ?_ | refine AWP.block ?_ | refine AWP.skip ?_ | refine AWP.exit ?_ | refine AWP.scope ?_ | refine AWP.label ?_)
        exact ⟨(S, r, H4, A, B), ⟨i2, w4, i4, i5, by ((try dsimp only); omega)⟩, ⟨rfl, rfl, rfl, rfl, rfl, trivial⟩, rfl, Heap.le_refl _⟩
    clear i2 i3 i4 i5 i6 w4 x4 ax bx hx
    rintro ⟨S, r, H5, A, B⟩ ⟨i2, i3, i4, i5, i6⟩
    simp only at i2 i3 i4 i5 i6
    dsimp only
    obtain ⟨hok, hco, ks, ws, r1, r2, r3⟩ := id i5
    have r5 := i3.b _ _ r1
    repeat (first
    | refine AOps.op rfl rfl ?_ | refine AOps.load rfl rfl rfl rfl rfl ?_ | refine AOps.nil ?_ | refine AWP.seq ?_ | refine AWP.region ?_ | refine AWP.block ?_ | refine AWP.skip ?_ | refine AWP.exit ?_ | refine AWP.scope ?_ | refine AWP.label ?_)
    refine AWP.draw [[], [0], [], [2], [2, 3], [2, 3, 4], [0, 1, 2, 3, 4, 5]] [(0, .pure), (2, .pure), (3, .pure), (4, .pure), (5, .read), (1, .eff), (6, .pure)] rfl ?_
    repeat (first | refine DRun.op rfl rfl rfl ?_ | refine DRun.loadI rfl rfl rfl rfl rfl ?_ | refine DRun.load rfl rfl rfl rfl rfl rfl ?_ | refine DRun.nil ?_)
    refine DRun.load rfl rfl rfl (cellsAt_ptr r5) rfl rfl ?_
    refine DRun.eff rfl rfl rfl (OpT.callF rfl rfl ((cClock_spec c S H5 (i4.mono i3.a)).mono ?_))
    rintro _ H5 ⟨rfl, rfl⟩
    refine ⟨?_, ?_⟩
    · repeat (first | exact Chk.nil | refine Chk.pre rfl ?_ | refine Chk.load rfl (cellsAt_ptr r5) rfl rfl ?_)
    refine DRun.pureT rfl rfl rfl (fun loc H => OpT.eqAgg eqTy_ck rfl rfl (aeq_ck S.c S.c) (.inr rfl) ⟨rfl, rfl, rfl⟩) ?_
    rw [show decide (S.c = S.c) = true by simp]
    repeat (first | refine DRun.op rfl rfl rfl ?_ | refine DRun.loadI rfl rfl rfl rfl rfl ?_ | refine DRun.load rfl rfl rfl rfl rfl rfl ?_ | refine DRun.nil ?_)
    refine AWP.cond rfl (fun h => by simp at h) (fun _ => ?_)
    repeat (first
    | refine AOps.op rfl rfl ?_ | refine AOps.load rfl rfl rfl rfl rfl ?_ | refine AOps.nil ?_ | refine AWP.seq ?_ | refine AWP.region ?_ | refine AWP.block ?_ | refine AWP.skip ?_ | refine AWP.exit ?_ | refine AWP.scope ?_ | refine AWP.label ?_)
    exact ⟨(i + 1, S, r, H5, A, B), by ((try dsimp only); omega), ⟨by ((try dsimp only); omega), i2, i3, i4, i5, i6⟩, ⟨rfl, rfl, rfl, rfl, congrArg (fun x => some (AV.int .i64 x)) ei, trivial⟩, rfl, Heap.le_refl _⟩
  · have h : l.length ≤ i := by simp at h; omega
    repeat (first
    | refine AOps.op rfl rfl ?_ | refine AOps.load rfl rfl rfl rfl rfl ?_ | refine AOps.nil ?_ | refine AWP.seq ?_ | refine AWP.region ?_ | refine AWP.block ?_ | refine AWP.skip ?_ | refine AWP.exit ?_ | refine AWP.scope ?_ | refine AWP.label ?_)
    refine AWP.ret ?_
    exact ⟨_, _, rfl, rfl, Heap.le_refl _, rfl⟩
end Go.Proofs.Ytlbnhokhhangdaa
