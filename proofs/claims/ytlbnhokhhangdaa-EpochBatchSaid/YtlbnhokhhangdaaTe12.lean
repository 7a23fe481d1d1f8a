/- The texts of this part, one behind the other: what is proved of the model and of the functions that the law reaches. -/
import Derived.Test.YtlbnhokhhangdaaTe11
import Derived.Test.YtlbnhokhhangdaaTe1
/- The statements of layer 6: what is too large; telling, with why not. -/
namespace Go.Proofs.Ytlbnhokhhangdaa
open Go Go.Am Go.Pk Go.Lib
set_option linter.unusedVariables false
set_option linter.unusedSimpArgs false
set_option maxRecDepth 10000
attribute [local irreducible] AOps AWP DRun ACalls

abbrev ac (a : TAct) : AV := .agg [.int .i64 a.d, .int .i64 a.t.origin, .int .i64 a.t.seq, .int .i64 a.t.deps.a, .int .i64 a.t.deps.b, .int .i64 a.t.deps.c, .sl (a.t.writes.map wr) .no, .sl (encB a.b) .no]

theorem Large_spec (t : Txn) (tag : Tag) (H : Heap) : ACalls Q.prog 39 [tx t tag] H fun r H' => r = .bool t.large ∧ H' = H := by
  obtain ⟨o, s, c, ws⟩ := t
  refine ACalls.body (N := 27) Try.func39 rfl rfl rfl rfl ?_
  repeat (first | refine AOps.op rfl rfl ?_ | refine AOps.load rfl rfl rfl rfl rfl ?_)
  refine AWP.seq (AWP.region ?_)
  refine AOps.boxL 0 rfl rfl rfl rfl rfl ?_
  repeat (first
    | refine AOps.op rfl rfl ?_ | refine AOps.load rfl rfl rfl rfl rfl ?_ | refine AOps.nil ?_ | refine AWP.seq ?_ | refine AWP.region ?_ | refine AWP.block ?_ | refine AWP.skip ?_ | refine AWP.exit ?_ | refine AWP.scope ?_ | refine AWP.label ?_)
  refine AWP.cond rfl (fun h => ?_) (fun h => ?_)
  · have h : 40 < ws.length := by simp at h; omega
    repeat (first
    | refine AOps.op rfl rfl ?_ | refine AOps.load rfl rfl rfl rfl rfl ?_ | refine AOps.nil ?_ | refine AWP.seq ?_ | refine AWP.region ?_ | refine AWP.block ?_ | refine AWP.skip ?_ | refine AWP.exit ?_ | refine AWP.scope ?_ | refine AWP.label ?_)
    refine AWP.ret ?_
    refine ⟨_, _, rfl, rfl, Heap.le_refl _, ?_, rfl⟩
    simp [Txn.large, h]; rfl
  have h40 : ws.length ≤ 40 := by simp at h; omega
  repeat (first
    | refine AOps.op rfl rfl ?_ | refine AOps.load rfl rfl rfl rfl rfl ?_ | refine AOps.nil ?_ | refine AWP.seq ?_ | refine AWP.region ?_ | refine AWP.skip ?_ | refine AWP.exit ?_ | refine AWP.scope ?_ | refine AWP.label ?_)
  refine AWP.block ?_
  refine AWP.loopA (α := Nat) (fun i => i ≤ ws.length ∧ (ws.take i).any Wr.wide = false) (fun i => ws.length - i)
    (fun i => [(10, .sl (ws.map wr) tag), (11, .int .i64 ws.length), (12, .int .i64 i)]) (fun _ => [(tx ⟨o, s, c, ws⟩ tag).cells]) (fun _ => H) 0 ⟨by simp, by simp⟩ ⟨rfl, ?_, rfl, trivial⟩ rfl (Heap.le_refl _) ?_
  · exact congrArg (fun n : Nat => some (AV.int .i64 n)) (wr_len ws)
  rintro i ⟨i1, i2⟩
  repeat (first
    | refine AOps.op rfl rfl ?_ | refine AOps.load rfl rfl rfl rfl rfl ?_ | refine AOps.nil ?_ | refine AWP.seq ?_ | refine AWP.region ?_ | refine AWP.block ?_ | refine AWP.skip ?_ | refine AWP.exit ?_ | refine AWP.scope ?_ | refine AWP.label ?_)
  refine AWP.cond rfl (fun h => ?_) (fun h => ?_)
  · have hlt : i < ws.length := by simp at h; omega
    have ei : IntKind.i64.wrap ((i : Int) + 1) = ((i + 1 : Nat) : Int) := wrap_i64 (n := i + 1) (by omega)
    obtain ⟨w, hw⟩ : ∃ w, ws[i]? = some w := ⟨ws[i], List.getElem?_eq_getElem hlt⟩
    repeat (first
    | refine AOps.op rfl rfl ?_ | refine AOps.load rfl rfl rfl rfl rfl ?_ | refine AOps.nil ?_ | refine AWP.seq ?_ | refine AWP.region ?_ | refine AWP.block ?_ | refine AWP.skip ?_ | refine AWP.exit ?_ | refine AWP.scope ?_ | refine AWP.label ?_)
    refine AOps.indexSl rfl rfl rfl rfl rfl rfl (by omega) (getD_wr hw) rfl rfl ?_
    repeat (first
    | refine AOps.op rfl rfl ?_ | refine AOps.load rfl rfl rfl rfl rfl ?_ | refine AOps.nil ?_ | refine AWP.seq ?_ | refine AWP.region ?_ | refine AWP.block ?_ | refine AWP.skip ?_ | refine AWP.exit ?_ | refine AWP.scope ?_ | refine AWP.label ?_)
    refine AOps.allocH rfl rfl fun x hx => ?_
    refine AOps.storeH rfl rfl rfl (Heap.set_same _ _ _) rfl rfl ?_
    rw [Heap.set_set]
    have hbx := Heap.set_same H x (.box [.str w.key, .str w.value, .bool w.gone])
    have hle := Heap.le_set (x := .box [.str w.key, .str w.value, .bool w.gone]) hx
    generalize H.set x (.box [.str w.key, .str w.value, .bool w.gone]) = H1 at *
    repeat (first
    | refine AOps.op rfl rfl ?_ | refine AOps.load rfl rfl rfl rfl rfl ?_ | refine AOps.nil ?_ | refine AWP.seq ?_ | refine AWP.region ?_ | refine AWP.block ?_ | refine AWP.skip ?_ | refine AWP.exit ?_ | refine AWP.scope ?_ | refine AWP.label ?_)
    refine AOps.load rfl (cellsAt_ptr hbx) rfl rfl rfl ?_
    repeat (first
    | refine AOps.op rfl rfl ?_ | refine AOps.load rfl rfl rfl rfl rfl ?_ | refine AOps.nil ?_ | refine AWP.seq ?_ | refine AWP.region ?_ | refine AWP.block ?_ | refine AWP.skip ?_ | refine AWP.exit ?_ | refine AWP.scope ?_ | refine AWP.label ?_)
    refine AOps.or (j := 4) (y := decide ((w.value.length : Int) > 9000)) [_, _, _, _] rfl rfl rfl rfl rfl rfl rfl (fun hb => ?_) ?_
    · repeat (first | refine AOps.unguard rfl rfl (by assumption) ?_ | refine AOps.op rfl rfl ?_ | refine AOps.load rfl rfl rfl rfl rfl ?_)
      refine AOps.load rfl (cellsAt_ptr hbx) rfl rfl rfl ?_
      repeat (first | refine AOps.unguard rfl rfl (by assumption) ?_ | refine AOps.op rfl rfl ?_ | refine AOps.load rfl rfl rfl rfl rfl ?_)
      exact AOps.nil (GuardEnd.of 4 rfl rfl rfl rfl rfl)
    repeat (first
    | refine AOps.op rfl rfl ?_ | refine AOps.load rfl rfl rfl rfl rfl ?_ | refine AOps.nil ?_ | refine AWP.seq ?_ | refine AWP.region ?_ | refine AWP.block ?_ | refine AWP.skip ?_ | refine AWP.exit ?_ | refine AWP.scope ?_ | refine AWP.label ?_)
    have hwd : (decide ((w.key.length : Int) > 9000) || decide ((w.value.length : Int) > 9000)) = w.wide := by
      rw [Bool.eq_iff_iff]; simp [Wr.wide]; omega
    refine AWP.cond rfl (fun h => ?_) (fun h => ?_)
    · have h : ws.any Wr.wide = true := List.any_eq_true.2 ⟨w, List.mem_of_getElem? hw, by rw [← hwd]; exact h⟩
      repeat (first
    | refine AOps.op rfl rfl ?_ | refine AOps.load rfl rfl rfl rfl rfl ?_ | refine AOps.nil ?_ | refine AWP.seq ?_ | refine AWP.region ?_ | refine AWP.block ?_ | refine AWP.skip ?_ | refine AWP.exit ?_ | refine AWP.scope ?_ | refine AWP.label ?_)
      refine AWP.ret ?_
      refine ⟨_, _, rfl, rfl, hle, ?_, rfl⟩
      simp [Txn.large, h]; rfl
    · repeat (first
    | refine AOps.op rfl rfl ?_ | refine AOps.load rfl rfl rfl rfl rfl ?_ | refine AOps.nil ?_ | refine AWP.seq ?_ | refine AWP.region ?_ | refine AWP.block ?_ | refine AWP.skip ?_ | refine AWP.exit ?_ | refine AWP.scope ?_ | refine AWP.label ?_)
      exact ⟨i + 1, by omega, ⟨by omega, any_take hw i2 (by rw [← hwd]; exact h)⟩, ⟨rfl, rfl, congrArg (fun x => some (AV.int .i64 x)) ei, trivial⟩, rfl, hle⟩
  · have h : ws.length ≤ i := by simp at h; omega
    rw [List.take_of_length_le h] at i2
    repeat (first
    | refine AOps.op rfl rfl ?_ | refine AOps.load rfl rfl rfl rfl rfl ?_ | refine AOps.nil ?_ | refine AWP.seq ?_ | refine AWP.region ?_ | refine AWP.block ?_ | refine AWP.skip ?_ | refine AWP.exit ?_ | refine AWP.scope ?_ | refine AWP.label ?_)
    refine AWP.ret ?_
    refine ⟨_, _, rfl, rfl, Heap.le_refl _, ?_, rfl⟩
    have : ¬ 40 < ws.length := by omega
    simp [Txn.large, this, i2]; rfl

theorem getD_ac {l : List TAct} {i : Nat} {a : TAct} (h : l[i]? = some a) : (l.map ac)[((i : Nat) : Int).toNat]? = some (ac a) := by simp [h]
theorem ac_len (l : List TAct) : (l.map ac).length = l.length := List.length_map _

theorem large_spec (l : List TAct) (tag : Tag) (H : Heap) :
    ACalls Q.prog 10 [.sl (l.map ac) tag] H fun r H' => r = .bool (alarge l) ∧ H' = H := by
  refine ACalls.body (N := 24) Try.func10 rfl rfl rfl rfl ?_
  repeat (first
    | refine AOps.op rfl rfl ?_ | refine AOps.load rfl rfl rfl rfl rfl ?_ | refine AOps.nil ?_ | refine AWP.seq ?_ | refine AWP.region ?_ | refine AWP.block ?_ | refine AWP.skip ?_ | refine AWP.exit ?_ | refine AWP.scope ?_ | refine AWP.label ?_)
  refine AWP.cond rfl (fun h => ?_) (fun h => ?_)
  · have h : 30 < l.length := by simp at h; omega
    repeat (first
    | refine AOps.op rfl rfl ?_ | refine AOps.load rfl rfl rfl rfl rfl ?_ | refine AOps.nil ?_ | refine AWP.seq ?_ | refine AWP.region ?_ | refine AWP.block ?_ | refine AWP.skip ?_ | refine AWP.exit ?_ | refine AWP.scope ?_ | refine AWP.label ?_)
    refine AWP.ret ?_
    refine ⟨_, _, rfl, rfl, Heap.le_refl _, ?_, rfl⟩
    simp [alarge, h]; rfl
  have h30 : l.length ≤ 30 := by simp at h; omega
  repeat (first
    | refine AOps.op rfl rfl ?_ | refine AOps.load rfl rfl rfl rfl rfl ?_ | refine AOps.nil ?_ | refine AWP.seq ?_ | refine AWP.region ?_ | refine AWP.skip ?_ | refine AWP.exit ?_ | refine AWP.scope ?_ | refine AWP.label ?_)
  refine AWP.block ?_
  refine AWP.loopA (α := Nat) (fun i => i ≤ l.length ∧ (l.take i).any TAct.large = false) (fun i => l.length - i)
    (fun i => [(8, .sl (l.map ac) tag), (9, .int .i64 l.length), (10, .int .i64 i)]) (fun _ => []) (fun _ => H) 0 ⟨by simp, by simp⟩ ⟨rfl, ?_, rfl, trivial⟩ rfl (Heap.le_refl _) ?_
  · exact congrArg (fun n : Nat => some (AV.int .i64 n)) (ac_len l)
  rintro i ⟨i1, i2⟩
  repeat (first
    | refine AOps.op rfl rfl ?_ | refine AOps.load rfl rfl rfl rfl rfl ?_ | refine AOps.nil ?_ | refine AWP.seq ?_ | refine AWP.region ?_ | refine AWP.block ?_ | refine AWP.skip ?_ | refine AWP.exit ?_ | refine AWP.scope ?_ | refine AWP.label ?_)
  refine AWP.cond rfl (fun h => ?_) (fun h => ?_)
  · have hlt : i < l.length := by simp at h; omega
    have ei : IntKind.i64.wrap ((i : Int) + 1) = ((i + 1 : Nat) : Int) := wrap_i64 (n := i + 1) (by omega)
    obtain ⟨a, ha⟩ : ∃ a, l[i]? = some a := ⟨l[i], List.getElem?_eq_getElem hlt⟩
    repeat (first
    | refine AOps.op rfl rfl ?_ | refine AOps.load rfl rfl rfl rfl rfl ?_ | refine AOps.nil ?_ | refine AWP.seq ?_ | refine AWP.region ?_ | refine AWP.block ?_ | refine AWP.skip ?_ | refine AWP.exit ?_ | refine AWP.scope ?_ | refine AWP.label ?_)
    refine AOps.indexSl rfl rfl rfl rfl rfl rfl (by omega) (getD_ac ha) rfl rfl ?_
    repeat (first
    | refine AOps.op rfl rfl ?_ | refine AOps.load rfl rfl rfl rfl rfl ?_ | refine AOps.nil ?_ | refine AWP.seq ?_ | refine AWP.region ?_ | refine AWP.block ?_ | refine AWP.skip ?_ | refine AWP.exit ?_ | refine AWP.scope ?_ | refine AWP.label ?_)
    refine AOps.allocH rfl rfl fun x hx => ?_
    refine AOps.storeH rfl rfl rfl (Heap.set_same _ _ _) rfl rfl ?_
    rw [Heap.set_set]
    obtain ⟨d, ⟨o, s, c, ws⟩, b⟩ := a
    have hbx := Heap.set_same H x (.box [.int .i64 d, .int .i64 o, .int .i64 s, .int .i64 c.a, .int .i64 c.b, .int .i64 c.c, .sl (ws.map wr) .no, .sl (encB b) .no])
    have hle := Heap.le_set (x := .box [.int .i64 d, .int .i64 o, .int .i64 s, .int .i64 c.a, .int .i64 c.b, .int .i64 c.c, .sl (ws.map wr) .no, .sl (encB b) .no]) hx
    generalize H.set x (.box [.int .i64 d, .int .i64 o, .int .i64 s, .int .i64 c.a, .int .i64 c.b, .int .i64 c.c, .sl (ws.map wr) .no, .sl (encB b) .no]) = H1 at *
    repeat (first
    | refine AOps.op rfl rfl ?_ | refine AOps.load rfl rfl rfl rfl rfl ?_ | refine AOps.nil ?_ | refine AWP.seq ?_ | refine AWP.region ?_ | refine AWP.block ?_ | refine AWP.skip ?_ | refine AWP.exit ?_ | refine AWP.scope ?_ | refine AWP.label ?_)
    refine AOps.load rfl (cellsAt_ptr hbx) rfl rfl rfl ?_
    refine AOps.call rfl rfl rfl ((Large_spec ⟨o, s, c, ws⟩ .no H1).mono ?_)
    rintro _ H1 ⟨rfl, rfl⟩
    repeat (first
    | refine AOps.op rfl rfl ?_ | refine AOps.load rfl rfl rfl rfl rfl ?_ | refine AOps.nil ?_ | refine AWP.seq ?_ | refine AWP.region ?_ | refine AWP.block ?_ | refine AWP.skip ?_ | refine AWP.exit ?_ | refine AWP.scope ?_ | refine AWP.label ?_)
    refine AOps.or (j := 3) (y := decide ((b.length : Int) > 9000)) [_, _, _, _] rfl rfl rfl rfl rfl rfl rfl (fun hb => ?_) ?_
    · repeat (first | refine AOps.unguard rfl rfl (by assumption) ?_ | refine AOps.op rfl rfl ?_ | refine AOps.load rfl rfl rfl rfl rfl ?_)
      refine AOps.load rfl (cellsAt_ptr hbx) rfl rfl rfl ?_
      repeat (first | refine AOps.unguard rfl rfl (by assumption) ?_ | refine AOps.op rfl rfl ?_ | refine AOps.load rfl rfl rfl rfl rfl ?_)
      exact AOps.nil (GuardEnd.of 4 rfl rfl rfl rfl (congrArg (fun n : Nat => some (AV.bool (decide ((n : Int) > 9000)))) (encB_length b)))
    repeat (first
    | refine AOps.op rfl rfl ?_ | refine AOps.load rfl rfl rfl rfl rfl ?_ | refine AOps.nil ?_ | refine AWP.seq ?_ | refine AWP.region ?_ | refine AWP.block ?_ | refine AWP.skip ?_ | refine AWP.exit ?_ | refine AWP.scope ?_ | refine AWP.label ?_)
    have hwd : (Txn.large ⟨o, s, c, ws⟩ || decide ((b.length : Int) > 9000)) = TAct.large ⟨d, ⟨o, s, c, ws⟩, b⟩ := by
      have : decide ((b.length : Int) > 9000) = decide (9000 < b.length) := by rw [decide_eq_decide]; omega
      rw [this]; rfl
    refine AWP.cond rfl (fun h => ?_) (fun h => ?_)
    · have h : l.any TAct.large = true := List.any_eq_true.2 ⟨_, List.mem_of_getElem? ha, by rw [← hwd]; exact h⟩
      repeat (first
    | refine AOps.op rfl rfl ?_ | refine AOps.load rfl rfl rfl rfl rfl ?_ | refine AOps.nil ?_ | refine AWP.seq ?_ | refine AWP.region ?_ | refine AWP.block ?_ | refine AWP.skip ?_ | refine AWP.exit ?_ | refine AWP.scope ?_ | refine AWP.label ?_)
      refine AWP.ret ?_
      refine ⟨_, _, rfl, rfl, hle, ?_, rfl⟩
      simp [alarge, h]; rfl
    · repeat (first
    | refine AOps.op rfl rfl ?_ | refine AOps.load rfl rfl rfl rfl rfl ?_ | refine AOps.nil ?_ | refine AWP.seq ?_ | refine AWP.region ?_ | refine AWP.block ?_ | refine AWP.skip ?_ | refine AWP.exit ?_ | refine AWP.scope ?_ | refine AWP.label ?_)
      exact ⟨i + 1, by omega, ⟨by omega, any_take ha i2 (by rw [← hwd]; exact h)⟩, ⟨rfl, rfl, congrArg (fun x => some (AV.int .i64 x)) ei, trivial⟩, rfl, hle⟩
  · have h : l.length ≤ i := by simp at h; omega
    rw [List.take_of_length_le h] at i2
    repeat (first
    | refine AOps.op rfl rfl ?_ | refine AOps.load rfl rfl rfl rfl rfl ?_ | refine AOps.nil ?_ | refine AWP.seq ?_ | refine AWP.region ?_ | refine AWP.block ?_ | refine AWP.skip ?_ | refine AWP.exit ?_ | refine AWP.scope ?_ | refine AWP.label ?_)
    refine AWP.ret ?_
    refine ⟨_, _, rfl, rfl, Heap.le_refl _, ?_, rfl⟩
    have : ¬ 30 < l.length := by omega
    simp [alarge, this, i2]; rfl

theorem coPut_spec (c : Nat) (S : Cod) (t : Txn) (tag : Tag) (hl : t.writes.length < 2 ^ 40) (H : Heap) (h : CodAt H c S) :
    ACalls Q.prog 12 [.ptr c 0, tx t tag] H fun x H' => ∃ tag', x = .tuple [.sl (encB (tputE S t).1) tag', .int .i64 (tputE S t).2.1] ∧ CodAt H' c (tputE S t).2.2 := by
  by_cases ht : tcheck t = 0
  · have e : tputE S t = ((tput S t).1, 0, (tput S t).2) := by unfold tputE; rw [if_pos ht]
    rw [e]
    exact cPut_ok c S t tag H h ht
  · have e : tputE S t = ([], tcheck t, S) := by unfold tputE; rw [if_neg ht]
    rw [e]
    have hcheck := Check_spec t tag hl
    obtain ⟨o, s, k, ws⟩ := t
    refine ACalls.body (N := 91) Try.func12 rfl rfl rfl rfl ?_
    repeat (first | refine AOps.op rfl rfl ?_ | refine AOps.load rfl rfl rfl rfl rfl ?_)
    refine AWP.seq (AWP.region ?_)
    refine AOps.boxL 0 rfl rfl rfl rfl rfl ?_
    repeat (first
    | refine AOps.op rfl rfl ?_ | refine AOps.load rfl rfl rfl rfl rfl ?_ | refine AOps.nil ?_ | refine AWP.seq ?_ | refine AWP.region ?_ | refine AWP.block ?_ | refine AWP.skip ?_ | refine AWP.exit ?_ | refine AWP.scope ?_ | refine AWP.label ?_)
    refine AOps.call rfl rfl rfl ((hcheck H).mono ?_)
    rintro _ H ⟨rfl, rfl⟩
    repeat (first
    | refine AOps.op rfl rfl ?_ | refine AOps.load rfl rfl rfl rfl rfl ?_ | refine AOps.nil ?_ | refine AWP.seq ?_ | refine AWP.region ?_ | refine AWP.block ?_ | refine AWP.skip ?_ | refine AWP.exit ?_ | refine AWP.scope ?_ | refine AWP.label ?_)
    refine AWP.cond rfl (fun _ => ?_) (fun h => by simp at h; omega)
    repeat (first
    | refine AOps.op rfl rfl ?_ | refine AOps.load rfl rfl rfl rfl rfl ?_ | refine AOps.nil ?_ | refine AWP.seq ?_ | refine AWP.region ?_ | refine AWP.block ?_ | refine AWP.skip ?_ | refine AWP.exit ?_ | refine AWP.scope ?_ | refine AWP.label ?_)
    refine AWP.ret ?_
    exact ⟨_, _, rfl, rfl, Heap.le_refl _, .full, rfl, h⟩

theorem R6Put_spec (r : Nat) (S : Cod) (t : Txn) (tag : Tag) (hl : t.writes.length < 2 ^ 40) (H : Heap) (h : RCodAt H r S) (hnow : S.d.now < 2 ^ 50) :
    ACalls Q.prog 19 [.ptr r 0, tx t tag] H fun x H' => ∃ tag', x = .tuple [.sl (encB (tputE S t).1) tag', .int .i64 (tputE S t).2.1] ∧ RCodAt H' r (tputE S t).2.2 ∧ (H.del r).le H' := by
  by_cases ht : tcheck t = 0
  · have e : tputE S t = ((tput S t).1, 0, (tput S t).2) := by unfold tputE; rw [if_pos ht]
    rw [e]
    exact R6Put_ok r S t tag H h ht hnow
  · have e : tputE S t = ([], tcheck t, S) := by unfold tputE; rw [if_neg ht]
    rw [e]
    have hcheck := R6Check_spec t tag hl
    obtain ⟨o, s, k, ws⟩ := t
    refine ACalls.body (N := 105) Try.func19 rfl rfl rfl rfl ?_
    repeat (first | refine AOps.op rfl rfl ?_ | refine AOps.load rfl rfl rfl rfl rfl ?_)
    refine AWP.seq (AWP.region ?_)
    refine AOps.boxL 0 rfl rfl rfl rfl rfl ?_
    repeat (first
    | refine AOps.op rfl rfl ?_ | refine AOps.load rfl rfl rfl rfl rfl ?_ | refine AOps.nil ?_ | refine AWP.seq ?_ | refine AWP.region ?_ | refine AWP.block ?_ | refine AWP.skip ?_ | refine AWP.exit ?_ | refine AWP.scope ?_ | refine AWP.label ?_)
    refine AOps.call rfl rfl rfl ((hcheck H).mono ?_)
    rintro _ H ⟨rfl, rfl⟩
    repeat (first
    | refine AOps.op rfl rfl ?_ | refine AOps.load rfl rfl rfl rfl rfl ?_ | refine AOps.nil ?_ | refine AWP.seq ?_ | refine AWP.region ?_ | refine AWP.block ?_ | refine AWP.skip ?_ | refine AWP.exit ?_ | refine AWP.scope ?_ | refine AWP.label ?_)
    refine AWP.cond rfl (fun _ => ?_) (fun h => by simp at h; omega)
    repeat (first
    | refine AOps.op rfl rfl ?_ | refine AOps.load rfl rfl rfl rfl rfl ?_ | refine AOps.nil ?_ | refine AWP.seq ?_ | refine AWP.region ?_ | refine AWP.block ?_ | refine AWP.skip ?_ | refine AWP.exit ?_ | refine AWP.scope ?_ | refine AWP.label ?_)
    refine AOps.call rfl rfl rfl ((hcheck H).mono ?_)
    rintro _ H ⟨rfl, rfl⟩
    repeat (first
    | refine AOps.op rfl rfl ?_ | refine AOps.load rfl rfl rfl rfl rfl ?_ | refine AOps.nil ?_ | refine AWP.seq ?_ | refine AWP.region ?_ | refine AWP.block ?_ | refine AWP.skip ?_ | refine AWP.exit ?_ | refine AWP.scope ?_ | refine AWP.label ?_)
    refine AWP.ret ?_
    exact ⟨_, _, rfl, rfl, Heap.le_refl _, .full, rfl, h, Heap.del_le _ _⟩
end Go.Proofs.Ytlbnhokhhangdaa

/- The statements of layer 6: the answers that are fixed. -/
namespace Go.Proofs.Ytlbnhokhhangdaa
open Go Go.Am Go.Pk Go.Lib
set_option linter.unusedVariables false
set_option linter.unusedSimpArgs false
set_option maxRecDepth 10000
attribute [local irreducible] AOps AWP DRun ACalls

theorem coTake_ok (c : Nat) (S : Cod) (b : Str) (tag : Tag) (H : Heap) (h : CodAt H c S) (hb : b.length < 2 ^ 40) {t : Txn} {n : Nat} {S' : Cod} (e : ttake S b = .ok (t, n, S')) :
    ACalls Q.prog 14 [.ptr c 0, .sl (encB b) tag] H fun r H' => ∃ tag', r = .tuple [tx t tag', .int .i64 (n : Nat), .int .i64 0] ∧ CodAt H' c S' :=
  (coTake_spec c S b tag H h hb).mono fun r H' k => by unfold takeOut at k; rw [e] at k; exact k

theorem coTake_err (c : Nat) (S : Cod) (b : Str) (tag : Tag) (H : Heap) (h : CodAt H c S) (hb : b.length < 2 ^ 40) {n : Nat} (e : ttake S b = .error n) :
    ACalls Q.prog 14 [.ptr c 0, .sl (encB b) tag] H fun r H' => r = .tuple [tx Txn.zero .full, .int .i64 0, .int .i64 (n : Nat)] ∧ CodAt H' c S :=
  (coTake_spec c S b tag H h hb).mono fun r H' k => by unfold takeOut at k; rw [e] at k; exact k

attribute [local irreducible] tputE ttake

set_option maxHeartbeats 1000000 in
theorem awake6_spec (H : Heap) : ACalls Q.prog 9 [] H fun r H' => r = .bool true := by
  refine ACalls.body (N := 162) Try.func9 rfl rfl rfl rfl ?_
  repeat (first
    | refine AOps.op rfl rfl ?_ | refine AOps.load rfl rfl rfl rfl rfl ?_ | refine AOps.nil ?_ | refine AWP.seq ?_ | refine AWP.region ?_ | refine AWP.block ?_ | refine AWP.skip ?_ | refine AWP.exit ?_ | refine AWP.scope ?_ | refine AWP.label ?_)
  refine AOps.call rfl rfl rfl ((cNew_spec H).mono ?_)
  rintro _ H1 ⟨c, rfl, hl1, hc1⟩
  repeat (first
    | refine AOps.op rfl rfl ?_ | refine AOps.load rfl rfl rfl rfl rfl ?_ | refine AOps.nil ?_ | refine AWP.seq ?_ | refine AWP.region ?_ | refine AWP.block ?_ | refine AWP.skip ?_ | refine AWP.exit ?_ | refine AWP.scope ?_ | refine AWP.label ?_)
  refine AWP.cond rfl (fun h => by simp at h) (fun _ => ?_)
  repeat (first
    | refine AOps.op rfl rfl ?_ | refine AOps.load rfl rfl rfl rfl rfl ?_ | refine AOps.nil ?_ | refine AWP.seq ?_ | refine AWP.region ?_ | refine AWP.block ?_ | refine AWP.skip ?_ | refine AWP.exit ?_ | refine AWP.scope ?_ | refine AWP.label ?_)
  refine AOps.buildSlice (els := [⟨[97], [120], false⟩].map wr) rfl rfl rfl ?_
  repeat (first
    | refine AOps.op rfl rfl ?_ | refine AOps.load rfl rfl rfl rfl rfl ?_ | refine AOps.nil ?_ | refine AWP.seq ?_ | refine AWP.region ?_ | refine AWP.block ?_ | refine AWP.skip ?_ | refine AWP.exit ?_ | refine AWP.scope ?_ | refine AWP.label ?_)
  refine AOps.allocL 0 rfl rfl rfl rfl ?_
  refine AOps.storeL rfl rfl rfl rfl ?_
  repeat (first
    | refine AOps.op rfl rfl ?_ | refine AOps.load rfl rfl rfl rfl rfl ?_ | refine AOps.nil ?_ | refine AWP.seq ?_ | refine AWP.region ?_ | refine AWP.block ?_ | refine AWP.skip ?_ | refine AWP.exit ?_ | refine AWP.scope ?_ | refine AWP.label ?_)
  refine AOps.buildSlice (els := [⟨[97], [], true⟩].map wr) rfl rfl rfl ?_
  repeat (first
    | refine AOps.op rfl rfl ?_ | refine AOps.load rfl rfl rfl rfl rfl ?_ | refine AOps.nil ?_ | refine AWP.seq ?_ | refine AWP.region ?_ | refine AWP.block ?_ | refine AWP.skip ?_ | refine AWP.exit ?_ | refine AWP.scope ?_ | refine AWP.label ?_)
  refine AOps.allocL 1 rfl rfl rfl rfl ?_
  refine AOps.storeL rfl rfl rfl rfl ?_
  replace hc1 := hc1.mono (Heap.minus_le H1 H)
  repeat (first
    | refine AOps.op rfl rfl ?_ | refine AOps.load rfl rfl rfl rfl rfl ?_ | refine AOps.nil ?_ | refine AWP.seq ?_ | refine AWP.region ?_ | refine AWP.block ?_ | refine AWP.skip ?_ | refine AWP.exit ?_ | refine AWP.scope ?_ | refine AWP.label ?_)
  refine AOps.call (vs := [.ptr c 0, tx tOne .full]) rfl rfl rfl ((coPut_spec c Cod.nil tOne .full (by decide) H1 hc1).mono ?_)
  rintro _ H2 ⟨ta, rfl, hc2⟩
  rw [put_one] at hc2 ⊢
  simp only at hc2
  dsimp only
  repeat (first
    | refine AOps.op rfl rfl ?_ | refine AOps.load rfl rfl rfl rfl rfl ?_ | refine AOps.nil ?_ | refine AWP.seq ?_ | refine AWP.region ?_ | refine AWP.block ?_ | refine AWP.skip ?_ | refine AWP.exit ?_ | refine AWP.scope ?_ | refine AWP.label ?_)
  refine AOps.call (vs := [.ptr c 0, tx tTwo .full]) rfl rfl rfl ((coPut_spec c cOne tTwo .full (by decide) H2 hc2).mono ?_)
  rintro _ H3 ⟨tb, rfl, hc3⟩
  rw [put_two] at hc3 ⊢
  simp only at hc3
  dsimp only
  repeat (first
    | refine AOps.op rfl rfl ?_ | refine AOps.load rfl rfl rfl rfl rfl ?_ | refine AOps.nil ?_ | refine AWP.seq ?_ | refine AWP.region ?_ | refine AWP.block ?_ | refine AWP.skip ?_ | refine AWP.exit ?_ | refine AWP.scope ?_ | refine AWP.label ?_)
  refine AOps.call (vs := [.ptr c 0, tx tOne .full]) rfl rfl rfl ((coPut_spec c cTwo tOne .full (by decide) H3 hc3).mono ?_)
  rintro _ H4 ⟨tc, rfl, hc4⟩
  rw [put_again]
  repeat (first
    | refine AOps.op rfl rfl ?_ | refine AOps.load rfl rfl rfl rfl rfl ?_ | refine AOps.nil ?_ | refine AWP.seq ?_ | refine AWP.region ?_ | refine AWP.block ?_ | refine AWP.skip ?_ | refine AWP.exit ?_ | refine AWP.scope ?_ | refine AWP.label ?_)
  refine AOps.call rfl rfl rfl ((cNew_spec H4).mono ?_)
  rintro _ H5 ⟨d, rfl, hl5, hd5⟩
  replace hd5 := hd5.mono (Heap.minus_le H5 H4)
  repeat (first
    | refine AOps.op rfl rfl ?_ | refine AOps.load rfl rfl rfl rfl rfl ?_ | refine AOps.nil ?_ | refine AWP.seq ?_ | refine AWP.region ?_ | refine AWP.block ?_ | refine AWP.skip ?_ | refine AWP.exit ?_ | refine AWP.scope ?_ | refine AWP.label ?_)
  refine AWP.cond rfl (fun h => by simp at h) (fun _ => ?_)
  repeat (first
    | refine AOps.op rfl rfl ?_ | refine AOps.load rfl rfl rfl rfl rfl ?_ | refine AOps.nil ?_ | refine AWP.seq ?_ | refine AWP.region ?_ | refine AWP.block ?_ | refine AWP.skip ?_ | refine AWP.exit ?_ | refine AWP.scope ?_ | refine AWP.label ?_)
  refine AOps.buildSlice (els := encB []) rfl rfl rfl ?_
  repeat (first
    | refine AOps.op rfl rfl ?_ | refine AOps.load rfl rfl rfl rfl rfl ?_ | refine AOps.nil ?_ | refine AWP.seq ?_ | refine AWP.region ?_ | refine AWP.block ?_ | refine AWP.skip ?_ | refine AWP.exit ?_ | refine AWP.scope ?_ | refine AWP.label ?_)
  refine appB H5 (Heap.le_refl _) rfl rfl rfl rfl rfl trivial (by decide) fun g6 H6 a6 b6 => ?_
  refine AOps.buildSlice (els := encB [9]) rfl rfl rfl ?_
  refine appB H6 (Heap.le_refl _) rfl rfl rfl rfl rfl a6 (by decide) fun g7 H7 a7 b7 => ?_
  have hd7 : CodAt H7 d Cod.nil := by
    have e : hbase H7 g7 = H5 := b7.trans b6
    exact hd5.mono (by rw [← e]; exact hbase_le _ _)
  refine AOps.call rfl rfl rfl ((coTake_ok d Cod.nil _ g7 H7 hd7 (by decide) (take_one [9])).mono ?_)
  rintro _ H8 ⟨t1, rfl, hd8⟩
  repeat (first
    | refine AOps.op rfl rfl ?_ | refine AOps.load rfl rfl rfl rfl rfl ?_ | refine AOps.nil ?_ | refine AWP.seq ?_ | refine AWP.region ?_ | refine AWP.block ?_ | refine AWP.skip ?_ | refine AWP.exit ?_ | refine AWP.scope ?_ | refine AWP.label ?_)
  refine AOps.allocL 2 rfl rfl rfl rfl ?_
  refine AOps.storeL rfl rfl rfl rfl ?_
  repeat (first
    | refine AOps.op rfl rfl ?_ | refine AOps.load rfl rfl rfl rfl rfl ?_ | refine AOps.nil ?_ | refine AWP.seq ?_ | refine AWP.region ?_ | refine AWP.block ?_ | refine AWP.skip ?_ | refine AWP.exit ?_ | refine AWP.scope ?_ | refine AWP.label ?_)
  refine AOps.buildSlice (els := encB [1, 2, 0, 2, 0, 1, 1]) rfl rfl rfl ?_
  refine AOps.call rfl rfl rfl ((coTake_err d cOne _ .full H8 hd8 (by decide) take_short).mono ?_)
  rintro _ H9 ⟨rfl, hd9⟩
  repeat (first
    | refine AOps.op rfl rfl ?_ | refine AOps.load rfl rfl rfl rfl rfl ?_ | refine AOps.nil ?_ | refine AWP.seq ?_ | refine AWP.region ?_ | refine AWP.block ?_ | refine AWP.skip ?_ | refine AWP.exit ?_ | refine AWP.scope ?_ | refine AWP.label ?_)
  refine AOps.allocL 3 rfl rfl rfl rfl ?_
  refine AOps.storeL rfl rfl rfl rfl ?_
  repeat (first
    | refine AOps.op rfl rfl ?_ | refine AOps.load rfl rfl rfl rfl rfl ?_ | refine AOps.nil ?_ | refine AWP.seq ?_ | refine AWP.region ?_ | refine AWP.block ?_ | refine AWP.skip ?_ | refine AWP.exit ?_ | refine AWP.scope ?_ | refine AWP.label ?_)
  refine AOps.call rfl rfl rfl ((coTake_ok d cOne [1, 2, 0, 2, 0, 1, 1, 0] tb H9 hd9 (by decide) (take_two [])).mono ?_)
  rintro _ H10 ⟨t2, rfl, hd10⟩
  repeat (first
    | refine AOps.op rfl rfl ?_ | refine AOps.load rfl rfl rfl rfl rfl ?_ | refine AOps.nil ?_ | refine AWP.seq ?_ | refine AWP.region ?_ | refine AWP.block ?_ | refine AWP.skip ?_ | refine AWP.exit ?_ | refine AWP.scope ?_ | refine AWP.label ?_)
  refine AOps.allocL 4 rfl rfl rfl rfl ?_
  refine AOps.storeL rfl rfl rfl rfl ?_
  repeat (first
    | refine AOps.op rfl rfl ?_ | refine AOps.load rfl rfl rfl rfl rfl ?_ | refine AOps.nil ?_ | refine AWP.seq ?_ | refine AWP.region ?_ | refine AWP.block ?_ | refine AWP.skip ?_ | refine AWP.exit ?_ | refine AWP.scope ?_ | refine AWP.label ?_)
  refine AOps.buildSlice (els := encB [3, 1, 0, 1, 0, 0]) rfl rfl rfl ?_
  refine AOps.call rfl rfl rfl ((coTake_err d cTwo _ .full H10 hd10 (by decide) take_name).mono ?_)
  rintro _ H11 ⟨rfl, hd11⟩
  repeat (first
    | refine AOps.op rfl rfl ?_ | refine AOps.load rfl rfl rfl rfl rfl ?_ | refine AOps.nil ?_ | refine AWP.seq ?_ | refine AWP.region ?_ | refine AWP.block ?_ | refine AWP.skip ?_ | refine AWP.exit ?_ | refine AWP.scope ?_ | refine AWP.label ?_)
  refine AOps.allocL 5 rfl rfl rfl rfl ?_
  refine AOps.storeL rfl rfl rfl rfl ?_
  repeat (first
    | refine AOps.op rfl rfl ?_ | refine AOps.load rfl rfl rfl rfl rfl ?_ | refine AOps.nil ?_ | refine AWP.seq ?_ | refine AWP.region ?_ | refine AWP.block ?_ | refine AWP.skip ?_ | refine AWP.exit ?_ | refine AWP.scope ?_ | refine AWP.label ?_)
  refine AOps.buildSlice (els := encB [1, 1, 0, 0, 0, 1, 0, 1, 97, 2, 120]) rfl rfl rfl ?_
  refine AOps.call rfl rfl rfl ((R1Same_spec [1, 1, 0, 0, 0, 1, 0, 1, 97, 2, 120] [1, 1, 0, 0, 0, 1, 0, 1, 97, 2, 120] ta .full (by decide) (by decide) H11).mono ?_)
  rintro _ H11 ⟨rfl, rfl⟩
  rw [show decide (([1, 1, 0, 0, 0, 1, 0, 1, 97, 2, 120] : Str) = [1, 1, 0, 0, 0, 1, 0, 1, 97, 2, 120]) = true from rfl]
  repeat (first | refine AOps.unguard rfl rfl rfl ?_ | refine AOps.op rfl rfl ?_ | refine AOps.load rfl rfl rfl rfl rfl ?_)
  refine AOps.buildSlice (els := encB [1, 2, 0, 2, 0, 1, 1, 0]) rfl rfl rfl ?_
  repeat (first | refine AOps.unguard rfl rfl rfl ?_ | refine AOps.op rfl rfl ?_ | refine AOps.load rfl rfl rfl rfl rfl ?_)
  refine AOps.call rfl rfl rfl ((R1Same_spec [1, 2, 0, 2, 0, 1, 1, 0] [1, 2, 0, 2, 0, 1, 1, 0] tb .full (by decide) (by decide) H11).mono ?_)
  rintro _ H11 ⟨rfl, rfl⟩
  rw [show decide (([1, 2, 0, 2, 0, 1, 1, 0] : Str) = [1, 2, 0, 2, 0, 1, 1, 0]) = true from rfl]
  repeat (first | refine AOps.unguard rfl rfl rfl ?_ | refine AOps.op rfl rfl ?_ | refine AOps.load rfl rfl rfl rfl rfl ?_)
  refine AOps.call (vs := [tx tOne t1, tx tOne .full]) rfl rfl rfl ((Same_spec tOne tOne t1 .full (by decide) (by decide) H11).mono ?_)
  rintro _ H11 ⟨rfl, rfl⟩
  rw [show decide (tOne = tOne) = true from rfl]
  repeat (first | refine AOps.unguard rfl rfl rfl ?_ | refine AOps.op rfl rfl ?_ | refine AOps.load rfl rfl rfl rfl rfl ?_)
  refine AOps.call (vs := [tx tTwo t2, tx tTwo .full]) rfl rfl rfl ((Same_spec tTwo tTwo t2 .full (by decide) (by decide) H11).mono ?_)
  rintro _ H11 ⟨rfl, rfl⟩
  rw [show decide (tTwo = tTwo) = true from rfl]
  repeat (first | refine AOps.unguard rfl rfl rfl ?_ | refine AOps.op rfl rfl ?_ | refine AOps.load rfl rfl rfl rfl rfl ?_)
  refine AOps.call rfl rfl rfl ((cClock_spec d cTwo H11 hd11).mono ?_)
  rintro _ H11 ⟨rfl, rfl⟩
  repeat (first | refine AOps.unguard rfl rfl rfl ?_ | refine AOps.op rfl rfl ?_ | refine AOps.load rfl rfl rfl rfl rfl ?_)
  refine AOps.step rfl rfl (OpT.eqAgg eqTy_ck rfl rfl (aeq_ck cTwo.c ⟨0, 1, 0⟩) (.inl rfl) ?_)
  rw [show decide (cTwo.c = ⟨0, 1, 0⟩) = true from rfl]
  repeat (first | refine AOps.unguard rfl rfl rfl ?_ | refine AOps.op rfl rfl ?_ | refine AOps.load rfl rfl rfl rfl rfl ?_)
  refine AOps.call (vs := [tx ⟨0, 2, Clk.zero, []⟩ .full]) rfl rfl rfl ((Check_spec ⟨0, 2, Clk.zero, []⟩ .full (by decide) H11).mono ?_)
  rintro _ H11 ⟨rfl, rfl⟩
  rw [check_deps]
  repeat (first | refine AOps.unguard rfl rfl rfl ?_ | refine AOps.op rfl rfl ?_ | refine AOps.load rfl rfl rfl rfl rfl ?_)
  refine AOps.call (vs := [tx Txn.zero .full]) rfl rfl rfl ((Check_spec Txn.zero .full (by decide) H11).mono ?_)
  rintro _ H11 ⟨rfl, rfl⟩
  rw [check_zero]
  repeat (first | refine AOps.unguard rfl rfl rfl ?_ | refine AOps.op rfl rfl ?_ | refine AOps.load rfl rfl rfl rfl rfl ?_)
  refine AOps.call (vs := [tx tOne .full, tx tTwo .full]) rfl rfl rfl ((Same_spec tOne tTwo .full .full (by decide) (by decide) H11).mono ?_)
  rintro _ H11 ⟨rfl, rfl⟩
  rw [show decide (tOne = tTwo) = false from rfl]
  repeat (first | refine AOps.unguard rfl rfl rfl ?_ | refine AOps.op rfl rfl ?_ | refine AOps.load rfl rfl rfl rfl rfl ?_)
  repeat (first
    | refine AOps.op rfl rfl ?_ | refine AOps.load rfl rfl rfl rfl rfl ?_ | refine AOps.nil ?_ | refine AWP.seq ?_ | refine AWP.region ?_ | refine AWP.block ?_ | refine AWP.skip ?_ | refine AWP.exit ?_ | refine AWP.scope ?_ | refine AWP.label ?_)
  refine AWP.ret ?_
  exact ⟨_, _, rfl, rfl, Heap.le_refl _, rfl⟩
end Go.Proofs.Ytlbnhokhhangdaa

/- The statements of layer 6: what one coder tells another one reads. -/
namespace Go.Proofs.Ytlbnhokhhangdaa
open Go Go.Am Go.Pk Go.Lib
set_option linter.unusedVariables false
set_option linter.unusedSimpArgs false
set_option maxRecDepth 10000
attribute [local irreducible] AOps AWP DRun ACalls

theorem Disj.over {A B C : Heap} (h : Disj A B) (k : Disj A C) : Disj A (B.over C) := fun b => by
  rcases h b with c | c
  · exact .inl c
  · rcases k b with d | d
    · exact .inl d
    · right; simp only [Heap.over, c]; exact d

theorem Disj.one {A : Heap} {b : Nat} {x : AObj} (h : A b = none) : Disj A (Heap.one b x) := (Heap.one_disj h).symm

/-- Two heaps of their own in one. -/
structure Two (H A B : Heap) : Prop where
  a : A.le H
  b : B.le H
  d : Disj A B

theorem Two.symm {H A B : Heap} (h : Two H A B) : Two H B A := ⟨h.b, h.a, h.d.symm⟩
theorem Two.mono {H H' A B : Heap} (h : Two H A B) (hl : H.le H') : Two H' A B := ⟨h.a.trans hl, h.b.trans hl, h.d⟩
theorem Two.out {H A B : Heap} (h : Two H A B) {x : Nat} (hx : H x = none) : A x = none ∧ B x = none := by
  constructor
  · cases e : A x with
    | none => rfl
    | some y => rw [h.a _ _ e] at hx; cases hx
  · cases e : B x with
    | none => rfl
    | some y => rw [h.b _ _ e] at hx; cases hx

/-- A call that needs the first heap alone: the second one and one block more stay. -/
theorem ACalls.two {f : FuncId} {args : List AV} {H A B : Heap} {K1 : AV → Heap → Prop} {x : Nat} {o : AObj} (h : Two H A B) (hx : H x = some o) (hax : A x = none)
    (hc : ACalls Q.prog f args A K1) : ACalls Q.prog f args H fun r H' => ∃ A', K1 r A' ∧ Two H' A' B ∧ H' x = some o ∧ A' x = none :=
  (ACalls.beside (B := (Heap.one x o).over B) h.a (Heap.over_le (Heap.one_le.2 hx) h.b) (Disj.over (Disj.one hax) h.d) hc).mono fun r H' ⟨A', k1, k2, k3, k4⟩ => by
    have hx' : ((Heap.one x o).over B) x = some o := Heap.le_over _ _ _ _ (Heap.set_same _ _ _)
    refine ⟨A', k1, ⟨k2, ?_, ?_⟩, k3 _ _ hx', k4.symm.none hx'⟩
    · intro b y e
      by_cases c : b = x
      · subst c
        have := h.b _ _ e
        rw [hx] at this; cases this
        exact k3 _ _ hx'
      · refine k3 _ _ ?_
        have : (Heap.one x o) b = none := by unfold Heap.one; rw [Heap.set_ne _ _ c]; rfl
        simp only [Heap.over, this]; exact e
    · intro b
      rcases k4 b with c | c
      · exact .inl c
      · right
        simp only [Heap.over] at c
        split at c
        · cases c
        · exact c

theorem tputE_e (S : Cod) (t : Txn) : (tputE S t).2.1 = tcheck t := by
  unfold tputE
  split
  · rename_i h; rw [h]
  · rfl

def abox (a : TAct) : AObj := .box [.int .i64 a.d, .int .i64 a.t.origin, .int .i64 a.t.seq, .int .i64 a.t.deps.a, .int .i64 a.t.deps.b, .int .i64 a.t.deps.c, .sl (a.t.writes.map wr) .no, .sl (encB a.b) .no]

theorem alarge_no {l : List TAct} (h : alarge l = false) : l.length ≤ 30 ∧ ∀ a ∈ l, a.t.writes.length ≤ 40 ∧ a.b.length ≤ 9000 := by
  simp only [alarge, Bool.or_eq_false_iff, decide_eq_false_iff_not, List.any_eq_false] at h
  refine ⟨by omega, fun a ha => ?_⟩
  have := h.2 a ha
  simp only [TAct.large, Txn.large, Bool.or_eq_true, decide_eq_true_eq, not_or] at this
  omega

attribute [local irreducible] tputE ttake tput

set_option maxHeartbeats 1000000 in
theorem TxnBack_spec (l : List TAct) (rest : Str) :
    ACalls Q.prog 3 [.sl (l.map ac) .no, .sl (encB rest) .no] Heap.nil fun r H' => r = .bool true := by
  refine ACalls.body (N := 85) Try.func3 rfl rfl rfl rfl ?_
  repeat (first
    | refine AOps.op rfl rfl ?_ | refine AOps.load rfl rfl rfl rfl rfl ?_ | refine AOps.nil ?_ | refine AWP.seq ?_ | refine AWP.region ?_ | refine AWP.block ?_ | refine AWP.skip ?_ | refine AWP.exit ?_ | refine AWP.scope ?_ | refine AWP.label ?_)
  refine AOps.call rfl rfl rfl ((awake6_spec Heap.nil).mono ?_)
  rintro _ H0 rfl
  repeat (first
    | refine AOps.op rfl rfl ?_ | refine AOps.load rfl rfl rfl rfl rfl ?_ | refine AOps.nil ?_ | refine AWP.seq ?_ | refine AWP.region ?_ | refine AWP.block ?_ | refine AWP.skip ?_ | refine AWP.exit ?_ | refine AWP.scope ?_ | refine AWP.label ?_)
  refine AWP.cond rfl (fun h => by simp at h) (fun _ => ?_)
  repeat (first
    | refine AOps.op rfl rfl ?_ | refine AOps.load rfl rfl rfl rfl rfl ?_ | refine AOps.nil ?_ | refine AWP.seq ?_ | refine AWP.region ?_ | refine AWP.block ?_ | refine AWP.skip ?_ | refine AWP.exit ?_ | refine AWP.scope ?_ | refine AWP.label ?_)
  refine AOps.call rfl rfl rfl ((large_spec l .no H0).mono ?_)
  rintro _ H0 ⟨rfl, rfl⟩
  repeat (first
    | refine AOps.op rfl rfl ?_ | refine AOps.load rfl rfl rfl rfl rfl ?_ | refine AOps.nil ?_ | refine AWP.seq ?_ | refine AWP.region ?_ | refine AWP.block ?_ | refine AWP.skip ?_ | refine AWP.exit ?_ | refine AWP.scope ?_ | refine AWP.label ?_)
  refine AOps.or (j := 2) (y := decide ((rest.length : Int) > 9000)) [_, _, _] rfl rfl rfl rfl rfl rfl rfl (fun hb => ?_) ?_
  · repeat (first | refine AOps.unguard rfl rfl (by assumption) ?_ | refine AOps.op rfl rfl ?_ | refine AOps.load rfl rfl rfl rfl rfl ?_)
    exact AOps.nil (GuardEnd.of 3 rfl rfl rfl rfl (congrArg (fun n : Nat => some (AV.bool (decide ((n : Int) > 9000)))) (encB_length rest)))
  repeat (first
    | refine AOps.op rfl rfl ?_ | refine AOps.load rfl rfl rfl rfl rfl ?_ | refine AOps.nil ?_ | refine AWP.seq ?_ | refine AWP.region ?_ | refine AWP.block ?_ | refine AWP.skip ?_ | refine AWP.exit ?_ | refine AWP.scope ?_ | refine AWP.label ?_)
  refine AWP.cond rfl (fun h => ?_) (fun h => ?_)
  · repeat (first
    | refine AOps.op rfl rfl ?_ | refine AOps.load rfl rfl rfl rfl rfl ?_ | refine AOps.nil ?_ | refine AWP.seq ?_ | refine AWP.region ?_ | refine AWP.block ?_ | refine AWP.skip ?_ | refine AWP.exit ?_ | refine AWP.scope ?_ | refine AWP.label ?_)
    refine AWP.ret ?_
    exact ⟨_, _, rfl, rfl, Heap.le_refl _, rfl⟩
  obtain ⟨hlarge, hrest⟩ : alarge l = false ∧ rest.length ≤ 9000 := by
    simp only [Bool.or_eq_false_iff, decide_eq_false_iff_not] at h
    exact ⟨h.1, by omega⟩
  obtain ⟨l30, lacts⟩ := alarge_no hlarge
  repeat (first
    | refine AOps.op rfl rfl ?_ | refine AOps.load rfl rfl rfl rfl rfl ?_ | refine AOps.nil ?_ | refine AWP.seq ?_ | refine AWP.region ?_ | refine AWP.block ?_ | refine AWP.skip ?_ | refine AWP.exit ?_ | refine AWP.scope ?_ | refine AWP.label ?_)
  refine AOps.call rfl rfl rfl ((cNew_spec H0).mono ?_)
  rintro _ H1 ⟨c, rfl, hl1, hc1⟩
  refine AOps.call rfl rfl rfl ((cNew_spec H1).mono ?_)
  rintro _ H2 ⟨d, rfl, hl2, hd2⟩
  have htwo : Two H2 (H1.minus H0) (H2.minus H1) := ⟨(Heap.minus_le _ _).trans hl2, Heap.minus_le _ _, fun b => by
    simp only [Heap.minus]
    cases e : H1 b with
    | none => left; split <;> rfl
    | some x => exact .inr rfl⟩
  repeat (first
    | refine AOps.op rfl rfl ?_ | refine AOps.load rfl rfl rfl rfl rfl ?_ | refine AOps.nil ?_ | refine AWP.seq ?_ | refine AWP.region ?_ | refine AWP.block ?_ | refine AWP.skip ?_ | refine AWP.exit ?_ | refine AWP.scope ?_ | refine AWP.label ?_)
  refine AOps.or (j := 2) (y := false) [_, _] rfl rfl rfl rfl rfl rfl rfl (fun hb => ?_) ?_
  · repeat (first | refine AOps.unguard rfl rfl (by assumption) ?_ | refine AOps.op rfl rfl ?_ | refine AOps.load rfl rfl rfl rfl rfl ?_)
    exact AOps.nil (GuardEnd.of 2 rfl rfl rfl rfl rfl)
  repeat (first
    | refine AOps.op rfl rfl ?_ | refine AOps.load rfl rfl rfl rfl rfl ?_ | refine AOps.nil ?_ | refine AWP.seq ?_ | refine AWP.region ?_ | refine AWP.block ?_ | refine AWP.skip ?_ | refine AWP.exit ?_ | refine AWP.scope ?_ | refine AWP.label ?_)
  refine AWP.cond rfl (fun h => by simp at h) (fun _ => ?_)
  repeat (first
    | refine AOps.op rfl rfl ?_ | refine AOps.load rfl rfl rfl rfl rfl ?_ | refine AOps.nil ?_ | refine AWP.seq ?_ | refine AWP.region ?_ | refine AWP.skip ?_ | refine AWP.exit ?_ | refine AWP.scope ?_ | refine AWP.label ?_)
  refine AWP.block ?_
  refine AWP.loopA (α := Nat × Cod × Heap × Heap × Heap) (fun a => a.1 ≤ l.length ∧ a.2.1.ok ∧ Two a.2.2.1 a.2.2.2.1 a.2.2.2.2 ∧ CodAt a.2.2.2.1 c a.2.1 ∧ CodAt a.2.2.2.2 d a.2.1) (fun a => l.length - a.1)
    (fun a => [(1, .sl (encB rest) .no), (5, .ptr c 0), (6, .ptr d 0), (31, .sl (l.map ac) .no), (32, .int .i64 l.length), (33, .int .i64 a.1)]) (fun _ => []) (fun a => a.2.2.1)
    (0, Cod.nil, H2, H1.minus H0, H2.minus H1) ⟨by simp, Cod.nil_ok, htwo, hc1, hd2⟩ ⟨rfl, rfl, rfl, rfl, ?_, rfl, trivial⟩ rfl (Heap.le_refl _) ?_
  · exact congrArg (fun n : Nat => some (AV.int .i64 n)) (ac_len l)
  rintro ⟨i, S, H3, A, B⟩ ⟨i1, i2, i3, i4, i5⟩
  simp only at i1 i2 i3 i4 i5
  dsimp only
  repeat (first
    | refine AOps.op rfl rfl ?_ | refine AOps.load rfl rfl rfl rfl rfl ?_ | refine AOps.nil ?_ | refine AWP.seq ?_ | refine AWP.region ?_ | refine AWP.block ?_ | refine AWP.skip ?_ | refine AWP.exit ?_ | refine AWP.scope ?_ | refine AWP.label ?_)
  refine AWP.cond rfl (fun h => ?_) (fun h => ?_)
  · have hlt : i < l.length := by simp at h; omega
    have ei : IntKind.i64.wrap ((i : Int) + 1) = ((i + 1 : Nat) : Int) := wrap_i64 (n := i + 1) (by omega)
    obtain ⟨a, ha⟩ : ∃ a, l[i]? = some a := ⟨l[i], List.getElem?_eq_getElem hlt⟩
    obtain ⟨ha1, ha2⟩ := lacts a (List.mem_of_getElem? ha)
    obtain ⟨dd, t, bb⟩ := a
    simp only at ha1 ha2
    repeat (first
    | refine AOps.op rfl rfl ?_ | refine AOps.load rfl rfl rfl rfl rfl ?_ | refine AOps.nil ?_ | refine AWP.seq ?_ | refine AWP.region ?_ | refine AWP.block ?_ | refine AWP.skip ?_ | refine AWP.exit ?_ | refine AWP.scope ?_ | refine AWP.label ?_)
    refine AOps.indexSl rfl rfl rfl rfl rfl rfl (by omega) (getD_ac ha) rfl rfl ?_
    repeat (first
    | refine AOps.op rfl rfl ?_ | refine AOps.load rfl rfl rfl rfl rfl ?_ | refine AOps.nil ?_ | refine AWP.seq ?_ | refine AWP.region ?_ | refine AWP.block ?_ | refine AWP.skip ?_ | refine AWP.exit ?_ | refine AWP.scope ?_ | refine AWP.label ?_)
    refine AOps.allocH rfl rfl fun x hx => ?_
    refine AOps.storeH rfl rfl rfl (Heap.set_same _ _ _) rfl rfl ?_
    rw [Heap.set_set]
    obtain ⟨ax, bx⟩ := i3.out hx
    have hbx := Heap.set_same H3 x (abox ⟨dd, t, bb⟩)
    have i3' := i3.mono (Heap.le_set (x := abox ⟨dd, t, bb⟩) hx)
    obtain ⟨H4, hH4⟩ : ∃ H4, H3.set x (.box [.int .i64 dd, .int .i64 t.origin, .int .i64 t.seq, .int .i64 t.deps.a, .int .i64 t.deps.b, .int .i64 t.deps.c, .sl (t.writes.map wr) .no, .sl (encB bb) .no]) = H4 := ⟨_, rfl⟩
    rw [show H3.set x (abox ⟨dd, t, bb⟩) = H4 from hH4] at hbx i3'
    rw [hH4]
    clear hH4
    repeat (first
    | refine AOps.op rfl rfl ?_ | refine AOps.load rfl rfl rfl rfl rfl ?_ | refine AOps.nil ?_ | refine AWP.seq ?_ | refine AWP.region ?_ | refine AWP.block ?_ | refine AWP.skip ?_ | refine AWP.exit ?_ | refine AWP.scope ?_ | refine AWP.label ?_)
    refine AOps.load rfl (cellsAt_ptr hbx) rfl rfl rfl ?_
    refine AOps.call (vs := [.ptr c 0, tx t .no]) rfl rfl rfl ((ACalls.two i3' hbx ax (coPut_spec c S t .no (by omega) A i4)).mono ?_)
    rintro _ H5 ⟨A5, ⟨t5, rfl, c5⟩, w5, x5, ax5⟩
    repeat (first
    | refine AOps.op rfl rfl ?_ | refine AOps.load rfl rfl rfl rfl rfl ?_ | refine AOps.nil ?_ | refine AWP.seq ?_ | refine AWP.region ?_ | refine AWP.block ?_ | refine AWP.skip ?_ | refine AWP.exit ?_ | refine AWP.scope ?_ | refine AWP.label ?_)
    refine AOps.load rfl (cellsAt_ptr x5) rfl rfl rfl ?_
    refine AOps.call (vs := [tx t .no]) rfl rfl rfl ((Check_spec t .no (by omega) H5).mono ?_)
    rintro _ H5 ⟨rfl, rfl⟩
    repeat (first
    | refine AOps.op rfl rfl ?_ | refine AOps.load rfl rfl rfl rfl rfl ?_ | refine AOps.nil ?_ | refine AWP.seq ?_ | refine AWP.region ?_ | refine AWP.block ?_ | refine AWP.skip ?_ | refine AWP.exit ?_ | refine AWP.scope ?_ | refine AWP.label ?_)
    rw [tputE_e]
    refine AWP.cond rfl (fun h => by simp at h) (fun _ => ?_)
    repeat (first
    | refine AOps.op rfl rfl ?_ | refine AOps.load rfl rfl rfl rfl rfl ?_ | refine AOps.nil ?_ | refine AWP.seq ?_ | refine AWP.region ?_ | refine AWP.block ?_ | refine AWP.skip ?_ | refine AWP.exit ?_ | refine AWP.scope ?_ | refine AWP.label ?_)
    refine AWP.cond rfl (fun h => ?_) (fun h => ?_)
    · have hc : ¬ tcheck t = 0 := by simp at h; omega
      have e : tputE S t = ([], tcheck t, S) := by unfold tputE; rw [if_neg hc]
      rw [e] at c5
      repeat (first
    | refine AOps.op rfl rfl ?_ | refine AOps.load rfl rfl rfl rfl rfl ?_ | refine AOps.nil ?_ | refine AWP.seq ?_ | refine AWP.region ?_ | refine AWP.block ?_ | refine AWP.skip ?_ | refine AWP.exit ?_ | refine AWP.scope ?_ | refine AWP.label ?_)
      exact ⟨(i + 1, S, H5, A5, B), by ((try dsimp only); omega), ⟨by ((try dsimp only); omega), i2, w5, c5, i5⟩, ⟨rfl, rfl, rfl, rfl, rfl, congrArg (fun x => some (AV.int .i64 x)) ei, trivial⟩, rfl, Heap.le_refl _⟩
    have hc : tcheck t = 0 := by simp at h; omega
    have e : tputE S t = ((tput S t).1, 0, (tput S t).2) := by unfold tputE; rw [if_pos hc]
    have hlen := tput_len i2 hc
    have hback := back i2 hc rest
    have hok := tput_ok i2 hc
    rw [e] at c5 ⊢
    simp only at c5
    dsimp only
    generalize tput S t = P at *
    obtain ⟨pb, S'⟩ := P
    simp only at c5 hlen hback hok
    dsimp only
    repeat (first
    | refine AOps.op rfl rfl ?_ | refine AOps.load rfl rfl rfl rfl rfl ?_ | refine AOps.nil ?_ | refine AWP.seq ?_ | refine AWP.region ?_ | refine AWP.block ?_ | refine AWP.skip ?_ | refine AWP.exit ?_ | refine AWP.scope ?_ | refine AWP.label ?_)
    refine AOps.buildSlice (els := encB []) rfl rfl rfl ?_
    repeat (first
    | refine AOps.op rfl rfl ?_ | refine AOps.load rfl rfl rfl rfl rfl ?_ | refine AOps.nil ?_ | refine AWP.seq ?_ | refine AWP.region ?_ | refine AWP.block ?_ | refine AWP.skip ?_ | refine AWP.exit ?_ | refine AWP.scope ?_ | refine AWP.label ?_)
    refine appB H5 (Heap.le_refl _) rfl rfl rfl rfl rfl trivial (by simp; omega) fun g6 H6 a6 b6 => ?_
    repeat (first
    | refine AOps.op rfl rfl ?_ | refine AOps.load rfl rfl rfl rfl rfl ?_ | refine AOps.nil ?_ | refine AWP.seq ?_ | refine AWP.region ?_ | refine AWP.block ?_ | refine AWP.skip ?_ | refine AWP.exit ?_ | refine AWP.scope ?_ | refine AWP.label ?_)
    refine appB H6 (Heap.le_refl _) rfl rfl rfl rfl rfl a6 (by simp; omega) fun g7 H7 a7 b7 => ?_
    have hb7 : hbase H7 g7 = H5 := b7.trans b6
    have hle7 : H5.le H7 := by rw [← hb7]; exact hbase_le _ _
    have bx5 : B x = none := bx
    refine AOps.call rfl rfl rfl ((ACalls.two (w5.mono hle7).symm (hle7 _ _ x5) bx5 (coTake_ok d S _ g7 B i5 (by simp; omega) hback)).mono ?_)
    rintro _ H8 ⟨B8, ⟨t8, rfl, d8⟩, w8, x8, bx8⟩
    repeat (first
    | refine AOps.op rfl rfl ?_ | refine AOps.load rfl rfl rfl rfl rfl ?_ | refine AOps.nil ?_ | refine AWP.seq ?_ | refine AWP.region ?_ | refine AWP.block ?_ | refine AWP.skip ?_ | refine AWP.exit ?_ | refine AWP.scope ?_ | refine AWP.label ?_)
    refine AOps.allocH rfl rfl fun y hy => ?_
    refine AOps.storeH rfl rfl rfl (Heap.set_same _ _ _) rfl rfl ?_
    rw [Heap.set_set]
    obtain ⟨ay, by8⟩ := w8.out hy
    have x9 : (H8.set y (.box (tx t t8).cells)) x = some (abox ⟨dd, t, bb⟩) := by
      rw [Heap.set_ne]
      · exact x8
      · rintro rfl; rw [hy] at x8; cases x8
    have w9 := w8.mono (Heap.le_set (x := .box (tx t t8).cells) hy)
    have y9 : (H8.set y (.box (tx t t8).cells)) y = some (.box (tx t t8).cells) := Heap.set_same _ _ _
    obtain ⟨H9, hH9⟩ : ∃ H9, H8.set y (.box [.int .i64 t.origin, .int .i64 t.seq, .int .i64 t.deps.a, .int .i64 t.deps.b, .int .i64 t.deps.c, .sl (t.writes.map wr) t8]) = H9 := ⟨_, rfl⟩
    rw [show H8.set y (.box (tx t t8).cells) = H9 from hH9] at x9 w9 y9
    rw [hH9]
    clear hH9
    repeat (first
    | refine AOps.op rfl rfl ?_ | refine AOps.load rfl rfl rfl rfl rfl ?_ | refine AOps.nil ?_ | refine AWP.seq ?_ | refine AWP.region ?_ | refine AWP.block ?_ | refine AWP.skip ?_ | refine AWP.exit ?_ | refine AWP.scope ?_ | refine AWP.label ?_)
    repeat (first | refine AOps.unguard rfl rfl rfl ?_ | refine AOps.op rfl rfl ?_ | refine AOps.load rfl rfl rfl rfl rfl ?_)
    rw [show ((pb.length : Int) != (((encB pb).length : Nat) : Int)) = false by rw [encB_length]; simp]
    repeat (first | refine AOps.unguard rfl rfl rfl ?_ | refine AOps.op rfl rfl ?_ | refine AOps.load rfl rfl rfl rfl rfl ?_)
    refine AOps.load rfl (cellsAt_ptr y9) rfl rfl rfl ?_
    repeat (first | refine AOps.unguard rfl rfl rfl ?_ | refine AOps.op rfl rfl ?_ | refine AOps.load rfl rfl rfl rfl rfl ?_)
    refine AOps.load rfl (cellsAt_ptr x9) rfl rfl rfl ?_
    repeat (first | refine AOps.unguard rfl rfl rfl ?_ | refine AOps.op rfl rfl ?_ | refine AOps.load rfl rfl rfl rfl rfl ?_)
    refine AOps.call (vs := [tx t t8, tx t .no]) rfl rfl rfl ((R6Same_spec t t t8 .no (by omega) (by omega) H9).mono ?_)
    rintro _ H9 ⟨rfl, rfl⟩
    rw [show decide (t = t) = true by simp]
    repeat (first | refine AOps.unguard rfl rfl rfl ?_ | refine AOps.op rfl rfl ?_ | refine AOps.load rfl rfl rfl rfl rfl ?_)
    refine AOps.call rfl rfl rfl ((cClock_spec c S' H9 (c5.mono w9.b)).mono ?_)
    rintro _ H9 ⟨rfl, rfl⟩
    repeat (first | refine AOps.unguard rfl rfl rfl ?_ | refine AOps.op rfl rfl ?_ | refine AOps.load rfl rfl rfl rfl rfl ?_)
    refine AOps.call rfl rfl rfl ((cClock_spec d S' H9 (d8.mono w9.a)).mono ?_)
    rintro _ H9 ⟨rfl, rfl⟩
    repeat (first | refine AOps.unguard rfl rfl rfl ?_ | refine AOps.op rfl rfl ?_ | refine AOps.load rfl rfl rfl rfl rfl ?_)
    refine AOps.step rfl rfl (OpT.eqAgg eqTy_ck rfl rfl (aeq_ck S'.c S'.c) (.inr rfl) ?_)
    rw [show decide (S'.c = S'.c) = true by simp]
    repeat (first | refine AOps.unguard rfl rfl rfl ?_ | refine AOps.op rfl rfl ?_ | refine AOps.load rfl rfl rfl rfl rfl ?_)
    repeat (first
    | refine AOps.op rfl rfl ?_ | refine AOps.load rfl rfl rfl rfl rfl ?_ | refine AOps.nil ?_ | refine AWP.seq ?_ | refine AWP.region ?_ | refine AWP.block ?_ | refine AWP.skip ?_ | refine AWP.exit ?_ | refine AWP.scope ?_ | refine AWP.label ?_)
    refine AWP.cond rfl (fun h => by simp at h) (fun _ => ?_)
    repeat (first
    | refine AOps.op rfl rfl ?_ | refine AOps.load rfl rfl rfl rfl rfl ?_ | refine AOps.nil ?_ | refine AWP.seq ?_ | refine AWP.region ?_ | refine AWP.block ?_ | refine AWP.skip ?_ | refine AWP.exit ?_ | refine AWP.scope ?_ | refine AWP.label ?_)
    exact ⟨(i + 1, S', H9, A5, B8), by ((try dsimp only); omega), ⟨by ((try dsimp only); omega), hok, w9.symm, c5, d8⟩, ⟨rfl, rfl, rfl, rfl, rfl, congrArg (fun x => some (AV.int .i64 x)) ei, trivial⟩, rfl, Heap.le_refl _⟩
  · have h : l.length ≤ i := by simp at h; omega
    repeat (first
    | refine AOps.op rfl rfl ?_ | refine AOps.load rfl rfl rfl rfl rfl ?_ | refine AOps.nil ?_ | refine AWP.seq ?_ | refine AWP.region ?_ | refine AWP.block ?_ | refine AWP.skip ?_ | refine AWP.exit ?_ | refine AWP.scope ?_ | refine AWP.label ?_)
    refine AWP.ret ?_
    exact ⟨_, _, rfl, rfl, Heap.le_refl _, rfl⟩
end Go.Proofs.Ytlbnhokhhangdaa

/- The statements of layer 6: what is read is what was told. -/
namespace Go.Proofs.Ytlbnhokhhangdaa
open Go Go.Am Go.Pk Go.Lib
set_option linter.unusedVariables false
set_option linter.unusedSimpArgs false
set_option maxRecDepth 10000
attribute [local irreducible] AOps AWP DRun ACalls

/-- A call that needs the first heap alone: the second one, and all else, stay. -/
theorem ACalls.first {f : FuncId} {args : List AV} {H A B : Heap} {K1 : AV → Heap → Prop} (h : Two H A B) (hc : ACalls Q.prog f args A K1) :
    ACalls Q.prog f args H fun r H' => ∃ A', K1 r A' ∧ Two H' A' B ∧ ∀ x o, H x = some o → A x = none → H' x = some o ∧ A' x = none :=
  (ACalls.frame h.a hc).mono fun r H' ⟨A', k1, k2, k3, k4⟩ => by
    have hB := Heap.le_minus h.b h.d
    refine ⟨A', k1, ⟨k2, hB.trans k3, k4.le (Heap.le_refl _) hB⟩, fun x o hx hax => ?_⟩
    have hm : (H.minus A) x = some o := by simp only [Heap.minus, hax]; exact hx
    exact ⟨k3 _ _ hm, k4.symm.none hm⟩

/-- A new block beside two heaps. -/
theorem Two.new {H A B : Heap} (h : Two H A B) {x : Nat} (hx : H x = none) (o : AObj) : Two (H.set x o) A B ∧ (H.set x o) x = some o ∧ A x = none ∧ B x = none ∧ ∀ y p, H y = some p → (H.set x o) y = some p :=
  ⟨h.mono (Heap.le_set hx), Heap.set_same _ _ _, (h.out hx).1, (h.out hx).2, fun y p e => by
    rw [Heap.set_ne]
    · exact e
    · rintro rfl; rw [hx] at e; cases e⟩

def tbox (t : Txn) (tag : Tag) : AObj := .box [.int .i64 t.origin, .int .i64 t.seq, .int .i64 t.deps.a, .int .i64 t.deps.b, .int .i64 t.deps.c, .sl (t.writes.map wr) tag]
def kbox (c : Clk) : AObj := .box [.int .i64 c.a, .int .i64 c.b, .int .i64 c.c]

attribute [local irreducible] tputE ttake tput

set_option maxHeartbeats 1000000 in
theorem TxnCanonical_spec (l : List TAct) :
    ACalls Q.prog 4 [.sl (l.map ac) .no] Heap.nil fun r H' => r = .bool true := by
  refine ACalls.body (N := 98) Try.func4 rfl rfl rfl rfl ?_
  repeat (first
    | refine AOps.op rfl rfl ?_ | refine AOps.load rfl rfl rfl rfl rfl ?_ | refine AOps.nil ?_ | refine AWP.seq ?_ | refine AWP.region ?_ | refine AWP.block ?_ | refine AWP.skip ?_ | refine AWP.exit ?_ | refine AWP.scope ?_ | refine AWP.label ?_)
  refine AOps.call rfl rfl rfl ((awake6_spec Heap.nil).mono ?_)
  rintro _ H0 rfl
  repeat (first
    | refine AOps.op rfl rfl ?_ | refine AOps.load rfl rfl rfl rfl rfl ?_ | refine AOps.nil ?_ | refine AWP.seq ?_ | refine AWP.region ?_ | refine AWP.block ?_ | refine AWP.skip ?_ | refine AWP.exit ?_ | refine AWP.scope ?_ | refine AWP.label ?_)
  refine AWP.cond rfl (fun h => by simp at h) (fun _ => ?_)
  repeat (first
    | refine AOps.op rfl rfl ?_ | refine AOps.load rfl rfl rfl rfl rfl ?_ | refine AOps.nil ?_ | refine AWP.seq ?_ | refine AWP.region ?_ | refine AWP.block ?_ | refine AWP.skip ?_ | refine AWP.exit ?_ | refine AWP.scope ?_ | refine AWP.label ?_)
  refine AOps.call rfl rfl rfl ((large_spec l .no H0).mono ?_)
  rintro _ H0 ⟨rfl, rfl⟩
  repeat (first
    | refine AOps.op rfl rfl ?_ | refine AOps.load rfl rfl rfl rfl rfl ?_ | refine AOps.nil ?_ | refine AWP.seq ?_ | refine AWP.region ?_ | refine AWP.block ?_ | refine AWP.skip ?_ | refine AWP.exit ?_ | refine AWP.scope ?_ | refine AWP.label ?_)
  refine AWP.cond rfl (fun h => ?_) (fun hlarge => ?_)
  · repeat (first
    | refine AOps.op rfl rfl ?_ | refine AOps.load rfl rfl rfl rfl rfl ?_ | refine AOps.nil ?_ | refine AWP.seq ?_ | refine AWP.region ?_ | refine AWP.block ?_ | refine AWP.skip ?_ | refine AWP.exit ?_ | refine AWP.scope ?_ | refine AWP.label ?_)
    refine AWP.ret ?_
    exact ⟨_, _, rfl, rfl, Heap.le_refl _, rfl⟩
  obtain ⟨l30, lacts⟩ := alarge_no hlarge
  repeat (first
    | refine AOps.op rfl rfl ?_ | refine AOps.load rfl rfl rfl rfl rfl ?_ | refine AOps.nil ?_ | refine AWP.seq ?_ | refine AWP.region ?_ | refine AWP.block ?_ | refine AWP.skip ?_ | refine AWP.exit ?_ | refine AWP.scope ?_ | refine AWP.label ?_)
  refine AOps.call rfl rfl rfl ((cNew_spec H0).mono ?_)
  rintro _ H1 ⟨c, rfl, hl1, hc1⟩
  refine AOps.call rfl rfl rfl ((cNew_spec H1).mono ?_)
  rintro _ H2 ⟨d, rfl, hl2, hd2⟩
  have htwo : Two H2 (H1.minus H0) (H2.minus H1) := ⟨(Heap.minus_le _ _).trans hl2, Heap.minus_le _ _, fun b => by
    simp only [Heap.minus]
    cases e : H1 b with
    | none => left; split <;> rfl
    | some x => exact .inr rfl⟩
  repeat (first
    | refine AOps.op rfl rfl ?_ | refine AOps.load rfl rfl rfl rfl rfl ?_ | refine AOps.nil ?_ | refine AWP.seq ?_ | refine AWP.region ?_ | refine AWP.block ?_ | refine AWP.skip ?_ | refine AWP.exit ?_ | refine AWP.scope ?_ | refine AWP.label ?_)
  refine AOps.or (j := 2) (y := false) [_, _] rfl rfl rfl rfl rfl rfl rfl (fun hb => ?_) ?_
  · repeat (first | refine AOps.unguard rfl rfl (by assumption) ?_ | refine AOps.op rfl rfl ?_ | refine AOps.load rfl rfl rfl rfl rfl ?_)
    exact AOps.nil (GuardEnd.of 2 rfl rfl rfl rfl rfl)
  repeat (first
    | refine AOps.op rfl rfl ?_ | refine AOps.load rfl rfl rfl rfl rfl ?_ | refine AOps.nil ?_ | refine AWP.seq ?_ | refine AWP.region ?_ | refine AWP.block ?_ | refine AWP.skip ?_ | refine AWP.exit ?_ | refine AWP.scope ?_ | refine AWP.label ?_)
  refine AWP.cond rfl (fun h => by simp at h) (fun _ => ?_)
  repeat (first
    | refine AOps.op rfl rfl ?_ | refine AOps.load rfl rfl rfl rfl rfl ?_ | refine AOps.nil ?_ | refine AWP.seq ?_ | refine AWP.region ?_ | refine AWP.skip ?_ | refine AWP.exit ?_ | refine AWP.scope ?_ | refine AWP.label ?_)
  refine AWP.block ?_
  refine AWP.loopA (α := Nat × Cod × Heap × Heap × Heap) (fun a => a.1 ≤ l.length ∧ a.2.1.ok ∧ Two a.2.2.1 a.2.2.2.1 a.2.2.2.2 ∧ CodAt a.2.2.2.1 c a.2.1 ∧ CodAt a.2.2.2.2 d a.2.1) (fun a => l.length - a.1)
    (fun a => [(3, .ptr c 0), (4, .ptr d 0), (25, .sl (l.map ac) .no), (26, .int .i64 l.length), (27, .int .i64 a.1)]) (fun _ => []) (fun a => a.2.2.1)
    (0, Cod.nil, H2, H1.minus H0, H2.minus H1) ⟨by simp, Cod.nil_ok, htwo, hc1, hd2⟩ ⟨rfl, rfl, rfl, ?_, rfl, trivial⟩ rfl (Heap.le_refl _) ?_
  · exact congrArg (fun n : Nat => some (AV.int .i64 n)) (ac_len l)
  rintro ⟨i, S, H3, A, B⟩ ⟨i1, i2, i3, i4, i5⟩
  simp only at i1 i2 i3 i4 i5
  dsimp only
  repeat (first
    | refine AOps.op rfl rfl ?_ | refine AOps.load rfl rfl rfl rfl rfl ?_ | refine AOps.nil ?_ | refine AWP.seq ?_ | refine AWP.region ?_ | refine AWP.block ?_ | refine AWP.skip ?_ | refine AWP.exit ?_ | refine AWP.scope ?_ | refine AWP.label ?_)
  refine AWP.cond rfl (fun h => ?_) (fun h => ?_)
  · have hlt : i < l.length := by simp at h; omega
    have ei : IntKind.i64.wrap ((i : Int) + 1) = ((i + 1 : Nat) : Int) := wrap_i64 (n := i + 1) (by omega)
    obtain ⟨a, ha⟩ : ∃ a, l[i]? = some a := ⟨l[i], List.getElem?_eq_getElem hlt⟩
    obtain ⟨ha1, ha2⟩ := lacts a (List.mem_of_getElem? ha)
    obtain ⟨dd, t0, bb⟩ := a
    simp only at ha1 ha2
    repeat (first
    | refine AOps.op rfl rfl ?_ | refine AOps.load rfl rfl rfl rfl rfl ?_ | refine AOps.nil ?_ | refine AWP.seq ?_ | refine AWP.region ?_ | refine AWP.block ?_ | refine AWP.skip ?_ | refine AWP.exit ?_ | refine AWP.scope ?_ | refine AWP.label ?_)
    refine AOps.indexSl rfl rfl rfl rfl rfl rfl (by omega) (getD_ac ha) rfl rfl ?_
    repeat (first
    | refine AOps.op rfl rfl ?_ | refine AOps.load rfl rfl rfl rfl rfl ?_ | refine AOps.nil ?_ | refine AWP.seq ?_ | refine AWP.region ?_ | refine AWP.block ?_ | refine AWP.skip ?_ | refine AWP.exit ?_ | refine AWP.scope ?_ | refine AWP.label ?_)
    refine AOps.allocH rfl rfl fun x hx => ?_
    refine AOps.storeH rfl rfl rfl (Heap.set_same _ _ _) rfl rfl ?_
    rw [Heap.set_set]
    obtain ⟨w4, x4, ax, bx, -⟩ := i3.new hx (abox ⟨dd, t0, bb⟩)
    obtain ⟨H4, hH4⟩ : ∃ H4, H3.set x (.box [.int .i64 dd, .int .i64 t0.origin, .int .i64 t0.seq, .int .i64 t0.deps.a, .int .i64 t0.deps.b, .int .i64 t0.deps.c, .sl (t0.writes.map wr) .no, .sl (encB bb) .no]) = H4 := ⟨_, rfl⟩
    rw [show H3.set x (abox ⟨dd, t0, bb⟩) = H4 from hH4] at w4 x4
    rw [hH4]
    clear hH4
    repeat (first
    | refine AOps.op rfl rfl ?_ | refine AOps.load rfl rfl rfl rfl rfl ?_ | refine AOps.nil ?_ | refine AWP.seq ?_ | refine AWP.region ?_ | refine AWP.block ?_ | refine AWP.skip ?_ | refine AWP.exit ?_ | refine AWP.scope ?_ | refine AWP.label ?_)
    refine AOps.call rfl rfl rfl ((cClock_spec c S H4 (i4.mono w4.a)).mono ?_)
    rintro _ H4 ⟨rfl, rfl⟩
    refine AOps.allocH rfl rfl fun y hy => ?_
    refine AOps.storeH rfl rfl rfl (Heap.set_same _ _ _) rfl rfl ?_
    rw [Heap.set_set]
    obtain ⟨w5, y5, ay, byy, old5⟩ := w4.new hy (kbox S.c)
    have x5 := old5 _ _ x4
    obtain ⟨H5, hH5⟩ : ∃ H5, H4.set y (.box [.int .i64 S.c.a, .int .i64 S.c.b, .int .i64 S.c.c]) = H5 := ⟨_, rfl⟩
    rw [show H4.set y (kbox S.c) = H5 from hH5] at w5 y5 x5
    rw [hH5]
    clear hH5 old5
    repeat (first
    | refine AOps.op rfl rfl ?_ | refine AOps.load rfl rfl rfl rfl rfl ?_ | refine AOps.nil ?_ | refine AWP.seq ?_ | refine AWP.region ?_ | refine AWP.block ?_ | refine AWP.skip ?_ | refine AWP.exit ?_ | refine AWP.scope ?_ | refine AWP.label ?_)
    refine AOps.load rfl (cellsAt_ptr x5) rfl rfl rfl ?_
    refine AOps.call rfl rfl rfl ((ACalls.first w5 (coTake_spec c S bb .no A i4 (by omega))).mono ?_)
    rintro r H6 ⟨A6, k6, w6, old6⟩
    obtain ⟨x6, ax6⟩ := old6 _ _ x5 ax
    obtain ⟨y6, ay6⟩ := old6 _ _ y5 ay
    unfold takeOut at k6
    cases htk : ttake S bb with
    | error e =>
      rw [htk] at k6
      obtain ⟨rfl, c6⟩ := k6
      have he := ttake_err htk
      repeat (first
    | refine AOps.op rfl rfl ?_ | refine AOps.load rfl rfl rfl rfl rfl ?_ | refine AOps.nil ?_ | refine AWP.seq ?_ | refine AWP.region ?_ | refine AWP.block ?_ | refine AWP.skip ?_ | refine AWP.exit ?_ | refine AWP.scope ?_ | refine AWP.label ?_)
      refine AOps.allocH rfl rfl fun z hz => ?_
      refine AOps.storeH rfl rfl rfl (Heap.set_same _ _ _) rfl rfl ?_
      rw [Heap.set_set]
      obtain ⟨w7, z7, az, bz, old7⟩ := w6.new hz (tbox Txn.zero .full)
      have y7 := old7 _ _ y6
      obtain ⟨H7, hH7⟩ : ∃ H7, H6.set z (.box [.int .i64 0, .int .i64 0, .int .i64 0, .int .i64 0, .int .i64 0, .sl [] .full]) = H7 := ⟨_, rfl⟩
      rw [show H6.set z (tbox Txn.zero .full) = H7 from hH7] at w7 z7 y7
      rw [show H6.set z (.box [.int .i64 Txn.zero.origin, .int .i64 Txn.zero.seq, .int .i64 Txn.zero.deps.a, .int .i64 Txn.zero.deps.b, .int .i64 Txn.zero.deps.c, .sl (Txn.zero.writes.map wr) .full]) = H7 from hH7]
      clear hH7
      repeat (first
    | refine AOps.op rfl rfl ?_ | refine AOps.load rfl rfl rfl rfl rfl ?_ | refine AOps.nil ?_ | refine AWP.seq ?_ | refine AWP.region ?_ | refine AWP.block ?_ | refine AWP.skip ?_ | refine AWP.exit ?_ | refine AWP.scope ?_ | refine AWP.label ?_)
      refine AWP.cond rfl (fun _ => ?_) (fun h => by simp at h; omega)
      repeat (first
    | refine AOps.op rfl rfl ?_ | refine AOps.load rfl rfl rfl rfl rfl ?_ | refine AOps.nil ?_ | refine AWP.seq ?_ | refine AWP.region ?_ | refine AWP.block ?_ | refine AWP.skip ?_ | refine AWP.exit ?_ | refine AWP.scope ?_ | refine AWP.label ?_)
      refine AWP.draw [[], [0], [], [0, 1, 2], [0, 1, 2, 3], [0, 1, 2, 3, 4], [0, 1, 2, 3, 4, 5], [0, 1, 2, 3, 4, 5, 6], [0, 1, 2, 3, 4, 5, 6, 7], [0, 1, 2, 3, 4, 5, 6, 7, 8], [0, 1, 2, 3, 4, 5, 6, 7, 8, 9], [0, 1, 2, 3, 4, 5, 6, 7, 8, 9, 10], [0, 1, 2, 3, 4, 5, 6, 7, 8, 9, 10, 11], [0, 1, 2, 3, 4, 5, 6, 7, 8, 9, 10, 11, 12]] [(0, .pure), (2, .read), (1, .eff), (3, .pure), (4, .pure), (5, .pure), (6, .pure), (7, .pure), (8, .pure), (9, .pure), (10, .read), (11, .pure), (12, .pure), (13, .pure)] rfl ?_
      repeat (first | refine DRun.op rfl rfl rfl ?_ | refine DRun.loadI rfl rfl rfl rfl rfl ?_ | refine DRun.load rfl rfl rfl rfl rfl rfl ?_ | refine DRun.opG rfl rfl rfl rfl rfl ?_ | refine DRun.loadG rfl rfl rfl rfl rfl rfl rfl rfl ?_ | refine DRun.nil ?_)
      refine DRun.load rfl rfl rfl (cellsAt_ptr y7) rfl rfl ?_
      refine DRun.eff rfl rfl rfl (OpT.callF rfl rfl ((cClock_spec c S H7 (c6.mono w7.a)).mono ?_))
      rintro _ H7 ⟨rfl, rfl⟩
      refine ⟨?_, ?_⟩
      · repeat (first | exact Chk.nil | refine Chk.pre rfl ?_ | refine Chk.load rfl (cellsAt_ptr y7) rfl rfl ?_)
      refine DRun.pureT rfl rfl rfl (fun loc H => OpT.eqAgg eqTy_ck rfl rfl (aeq_ck S.c S.c) (.inr rfl) ⟨rfl, rfl, rfl⟩) ?_
      rw [show decide (S.c = S.c) = true by simp]
      repeat (first | refine DRun.op rfl rfl rfl ?_ | refine DRun.loadI rfl rfl rfl rfl rfl ?_ | refine DRun.load rfl rfl rfl rfl rfl rfl ?_ | refine DRun.opG rfl rfl rfl rfl rfl ?_ | refine DRun.loadG rfl rfl rfl rfl rfl rfl rfl rfl ?_ | refine DRun.nil ?_)
      refine DRun.loadG rfl rfl rfl rfl rfl (cellsAt_ptr z7) rfl rfl ?_
      repeat (first | refine DRun.op rfl rfl rfl ?_ | refine DRun.loadI rfl rfl rfl rfl rfl ?_ | refine DRun.load rfl rfl rfl rfl rfl rfl ?_ | refine DRun.opG rfl rfl rfl rfl rfl ?_ | refine DRun.loadG rfl rfl rfl rfl rfl rfl rfl rfl ?_ | refine DRun.nil ?_)
      refine AWP.cond rfl (fun h => by simp [Txn.zero] at h) (fun _ => ?_)
      repeat (first
    | refine AOps.op rfl rfl ?_ | refine AOps.load rfl rfl rfl rfl rfl ?_ | refine AOps.nil ?_ | refine AWP.seq ?_ | refine AWP.region ?_ | refine AWP.block ?_ | refine AWP.skip ?_ | refine AWP.exit ?_ | refine AWP.scope ?_ | refine AWP.label ?_)
      exact ⟨(i + 1, S, H7, A6, B), by ((try dsimp only); omega), ⟨by ((try dsimp only); omega), i2, w7, c6, i5⟩, ⟨rfl, rfl, rfl, rfl, congrArg (fun x => some (AV.int .i64 x)) ei, trivial⟩, rfl, Heap.le_refl _⟩
    | ok v =>
      obtain ⟨t, n, S'⟩ := v
      rw [htk] at k6
      obtain ⟨tg, rfl, c6⟩ := k6
      obtain ⟨hc, hn1, hn2, hput⟩ := ttake_inv i2.1 htk
      obtain ⟨hok, -⟩ := ttake_ok i2 htk
      have hE : tputE S t = (bb.take n, 0, S') := by unfold tputE; rw [if_pos hc, hput]
      have hw16 := (tcheck_ok hc).2.2.2.2.1
      simp only at c6
      dsimp only
      repeat (first
    | refine AOps.op rfl rfl ?_ | refine AOps.load rfl rfl rfl rfl rfl ?_ | refine AOps.nil ?_ | refine AWP.seq ?_ | refine AWP.region ?_ | refine AWP.block ?_ | refine AWP.skip ?_ | refine AWP.exit ?_ | refine AWP.scope ?_ | refine AWP.label ?_)
      refine AOps.allocH rfl rfl fun z hz => ?_
      refine AOps.storeH rfl rfl rfl (Heap.set_same _ _ _) rfl rfl ?_
      rw [Heap.set_set]
      obtain ⟨w7, z7, az, bz, old7⟩ := w6.new hz (tbox t tg)
      have x7 := old7 _ _ x6
      obtain ⟨H7, hH7⟩ : ∃ H7, H6.set z (.box [.int .i64 t.origin, .int .i64 t.seq, .int .i64 t.deps.a, .int .i64 t.deps.b, .int .i64 t.deps.c, .sl (t.writes.map wr) tg]) = H7 := ⟨_, rfl⟩
      rw [show H6.set z (tbox t tg) = H7 from hH7] at w7 z7 x7
      rw [hH7]
      clear hH7 old7
      repeat (first
    | refine AOps.op rfl rfl ?_ | refine AOps.load rfl rfl rfl rfl rfl ?_ | refine AOps.nil ?_ | refine AWP.seq ?_ | refine AWP.region ?_ | refine AWP.block ?_ | refine AWP.skip ?_ | refine AWP.exit ?_ | refine AWP.scope ?_ | refine AWP.label ?_)
      refine AWP.cond rfl (fun h => by simp at h) (fun _ => ?_)
      repeat (first
    | refine AOps.op rfl rfl ?_ | refine AOps.load rfl rfl rfl rfl rfl ?_ | refine AOps.nil ?_ | refine AWP.seq ?_ | refine AWP.region ?_ | refine AWP.block ?_ | refine AWP.skip ?_ | refine AWP.exit ?_ | refine AWP.scope ?_ | refine AWP.label ?_)
      refine AOps.load rfl (cellsAt_ptr z7) rfl rfl rfl ?_
      refine AOps.call (vs := [.ptr d 0, tx t tg]) rfl rfl rfl ((ACalls.first w7.symm (coPut_spec d S t tg (by omega) B i5)).mono ?_)
      rintro _ H8 ⟨B8, ⟨tp, rfl, d8⟩, w8, old8⟩
      rw [hE] at d8 ⊢
      simp only at d8
      dsimp only
      obtain ⟨x8, bx8⟩ := old8 _ _ x7 bx
      obtain ⟨z8, bz8⟩ := old8 _ _ z7 bz
      have hlt1 : decide ((n : Int) < 1) = false := decide_eq_false (by omega)
      repeat (first
    | refine AOps.op rfl rfl ?_ | refine AOps.load rfl rfl rfl rfl rfl ?_ | refine AOps.nil ?_ | refine AWP.seq ?_ | refine AWP.region ?_ | refine AWP.block ?_ | refine AWP.skip ?_ | refine AWP.exit ?_ | refine AWP.scope ?_ | refine AWP.label ?_)
      repeat (first | refine AOps.unguard rfl rfl rfl ?_ | refine AOps.op rfl rfl ?_ | refine AOps.load rfl rfl rfl rfl rfl ?_)
      rw [hlt1]
      repeat (first | refine AOps.unguard rfl rfl rfl ?_ | refine AOps.op rfl rfl ?_ | refine AOps.load rfl rfl rfl rfl rfl ?_)
      refine AOps.load rfl (cellsAt_ptr x8) rfl rfl rfl ?_
      repeat (first | refine AOps.unguard rfl rfl rfl ?_ | refine AOps.op rfl rfl ?_ | refine AOps.load rfl rfl rfl rfl rfl ?_)
      rw [show decide ((n : Int) > ((encB bb).length : Nat)) = false from decide_eq_false (by rw [encB_length]; omega)]
      repeat (first | refine AOps.unguard rfl rfl rfl ?_ | refine AOps.op rfl rfl ?_ | refine AOps.load rfl rfl rfl rfl rfl ?_)
      refine AOps.load rfl (cellsAt_ptr x8) rfl rfl rfl ?_
      repeat (first | refine AOps.unguard rfl rfl rfl ?_ | refine AOps.op rfl rfl ?_ | refine AOps.load rfl rfl rfl rfl rfl ?_)
      refine AOps.step rfl rfl (cutTo n rfl rfl hn2 ?_)
      repeat (first | refine AOps.unguard rfl rfl rfl ?_ | refine AOps.op rfl rfl ?_ | refine AOps.load rfl rfl rfl rfl rfl ?_)
      refine AOps.call rfl rfl rfl ((R1Same_spec (bb.take n) (bb.take n) tp .no (by simp; omega) (by simp; omega) H8).mono ?_)
      rintro _ H8 ⟨rfl, rfl⟩
      rw [show decide (bb.take n = bb.take n) = true by simp]
      repeat (first | refine AOps.unguard rfl rfl rfl ?_ | refine AOps.op rfl rfl ?_ | refine AOps.load rfl rfl rfl rfl rfl ?_)
      refine AOps.load rfl (cellsAt_ptr z8) rfl rfl rfl ?_
      repeat (first | refine AOps.unguard rfl rfl rfl ?_ | refine AOps.op rfl rfl ?_ | refine AOps.load rfl rfl rfl rfl rfl ?_)
      refine AOps.call (vs := [tx t tg]) rfl rfl rfl ((Check_spec t tg (by omega) H8).mono ?_)
      rintro _ H8 ⟨rfl, rfl⟩
      rw [hc]
      repeat (first | refine AOps.unguard rfl rfl rfl ?_ | refine AOps.op rfl rfl ?_ | refine AOps.load rfl rfl rfl rfl rfl ?_)
      refine AOps.call rfl rfl rfl ((cClock_spec d S' H8 (d8.mono w8.a)).mono ?_)
      rintro _ H8 ⟨rfl, rfl⟩
      repeat (first | refine AOps.unguard rfl rfl rfl ?_ | refine AOps.op rfl rfl ?_ | refine AOps.load rfl rfl rfl rfl rfl ?_)
      refine AOps.call rfl rfl rfl ((cClock_spec c S' H8 (c6.mono w8.b)).mono ?_)
      rintro _ H8 ⟨rfl, rfl⟩
      repeat (first | refine AOps.unguard rfl rfl rfl ?_ | refine AOps.op rfl rfl ?_ | refine AOps.load rfl rfl rfl rfl rfl ?_)
      refine AOps.step rfl rfl (OpT.eqAgg eqTy_ck rfl rfl (aeq_ck S'.c S'.c) (.inr rfl) ?_)
      rw [show decide (S'.c = S'.c) = true by simp]
      repeat (first | refine AOps.unguard rfl rfl rfl ?_ | refine AOps.op rfl rfl ?_ | refine AOps.load rfl rfl rfl rfl rfl ?_)
      repeat (first
    | refine AOps.op rfl rfl ?_ | refine AOps.load rfl rfl rfl rfl rfl ?_ | refine AOps.nil ?_ | refine AWP.seq ?_ | refine AWP.region ?_ | refine AWP.block ?_ | refine AWP.skip ?_ | refine AWP.exit ?_ | refine AWP.scope ?_ | refine AWP.label ?_)
      refine AWP.cond rfl (fun h => by simp at h) (fun _ => ?_)
      repeat (first
    | refine AOps.op rfl rfl ?_ | refine AOps.load rfl rfl rfl rfl rfl ?_ | refine AOps.nil ?_ | refine AWP.seq ?_ | refine AWP.region ?_ | refine AWP.block ?_ | refine AWP.skip ?_ | refine AWP.exit ?_ | refine AWP.scope ?_ | refine AWP.label ?_)
      exact ⟨(i + 1, S', H8, A6, B8), by ((try dsimp only); omega), ⟨by ((try dsimp only); omega), hok, w8.symm, c6, d8⟩, ⟨rfl, rfl, rfl, rfl, congrArg (fun x => some (AV.int .i64 x)) ei, trivial⟩, rfl, Heap.le_refl _⟩
  · have h : l.length ≤ i := by simp at h; omega
    repeat (first
    | refine AOps.op rfl rfl ?_ | refine AOps.load rfl rfl rfl rfl rfl ?_ | refine AOps.nil ?_ | refine AWP.seq ?_ | refine AWP.region ?_ | refine AWP.block ?_ | refine AWP.skip ?_ | refine AWP.exit ?_ | refine AWP.scope ?_ | refine AWP.label ?_)
    refine AWP.ret ?_
    exact ⟨_, _, rfl, rfl, Heap.le_refl _, rfl⟩
end Go.Proofs.Ytlbnhokhhangdaa

/- The statements of layer 6: act by act as the document says. -/
namespace Go.Proofs.Ytlbnhokhhangdaa
open Go Go.Am Go.Pk Go.Lib
set_option linter.unusedVariables false
set_option linter.unusedSimpArgs false
set_option maxRecDepth 10000
attribute [local irreducible] AOps AWP DRun ACalls

attribute [local irreducible] tputE ttake tput tcheck

/-- A new coder of the document's. -/
theorem Two.coder {H A : Heap} (hA : A.le H) {q : Nat} (hq : H q = none) : Two (H.set q (rcbox Clk.zero (.sl [] .full) (.sl [] .full) 0)) A (Heap.one q (rcbox Clk.zero (.sl [] .full) (.sl [] .full) 0)) ∧
    RCodAt (Heap.one q (rcbox Clk.zero (.sl [] .full) (.sl [] .full) 0)) q Cod.nil := by
  have hAq : A q = none := by
    cases e : A q with
    | none => rfl
    | some y => rw [hA _ _ e] at hq; cases hq
  exact ⟨⟨hA.trans (Heap.le_set hq), Heap.one_le.2 (Heap.set_same _ _ _), Disj.one hAq⟩, Dic.nil_ok, rfl, _, _, Heap.set_same _ _ _, .inl ⟨rfl, rfl⟩, .inl ⟨rfl, rfl⟩⟩

theorem coTake_res (c : Nat) (S : Cod) (b : Str) (tag : Tag) (H : Heap) (h : CodAt H c S) (hb : b.length < 2 ^ 40) :
    ACalls Q.prog 14 [.ptr c 0, .sl (encB b) tag] H fun r H' => ∃ tag', r = .tuple [tx (tres S b).1 tag', .int .i64 ((tres S b).2.1 : Nat), .int .i64 ((tres S b).2.2.1 : Nat)] ∧ CodAt H' c (tres S b).2.2.2 :=
  (coTake_spec c S b tag H h hb).mono fun r H' k => by
    unfold takeOut at k
    unfold tres
    cases e : ttake S b with
    | ok v => rw [e] at k; exact k
    | error n => rw [e] at k; exact ⟨.full, k.1, k.2⟩

theorem R6Take_res (r : Nat) (S : Cod) (b : Str) (tag : Tag) (H : Heap) (h : RCodAt H r S) (hb : b.length < 2 ^ 40) (hnow : S.d.now < 2 ^ 50) :
    ACalls Q.prog 20 [.ptr r 0, .sl (encB b) tag] H fun x H' => ∃ tag', x = .tuple [tx (tres S b).1 tag', .int .i64 ((tres S b).2.1 : Nat), .int .i64 ((tres S b).2.2.1 : Nat)] ∧ RCodAt H' r (tres S b).2.2.2 :=
  (R6Take_spec r S b tag H h hb hnow).mono fun x H' ⟨_, k⟩ => by
    unfold tres
    cases e : ttake S b with
    | ok v => rw [e] at k; exact k
    | error n => rw [e] at k; exact ⟨.full, k.1, k.2⟩

attribute [local irreducible] tres

set_option maxHeartbeats 2000000 in
theorem TxnDoes_spec (l : List TAct) :
    ACalls Q.prog 5 [.sl (l.map ac) .no] Heap.nil fun r H' => r = .bool true := by
  refine ACalls.body (N := 112) Try.func5 rfl rfl rfl rfl ?_
  repeat (first
    | refine AOps.op rfl rfl ?_ | refine AOps.load rfl rfl rfl rfl rfl ?_ | refine AOps.nil ?_ | refine AWP.seq ?_ | refine AWP.region ?_ | refine AWP.block ?_ | refine AWP.skip ?_ | refine AWP.exit ?_ | refine AWP.scope ?_ | refine AWP.label ?_)
  refine AOps.call rfl rfl rfl ((awake6_spec Heap.nil).mono ?_)
  rintro _ H0 rfl
  repeat (first
    | refine AOps.op rfl rfl ?_ | refine AOps.load rfl rfl rfl rfl rfl ?_ | refine AOps.nil ?_ | refine AWP.seq ?_ | refine AWP.region ?_ | refine AWP.block ?_ | refine AWP.skip ?_ | refine AWP.exit ?_ | refine AWP.scope ?_ | refine AWP.label ?_)
  refine AWP.cond rfl (fun h => by simp at h) (fun _ => ?_)
  repeat (first
    | refine AOps.op rfl rfl ?_ | refine AOps.load rfl rfl rfl rfl rfl ?_ | refine AOps.nil ?_ | refine AWP.seq ?_ | refine AWP.region ?_ | refine AWP.block ?_ | refine AWP.skip ?_ | refine AWP.exit ?_ | refine AWP.scope ?_ | refine AWP.label ?_)
  refine AOps.call rfl rfl rfl ((large_spec l .no H0).mono ?_)
  rintro _ H0 ⟨rfl, rfl⟩
  repeat (first
    | refine AOps.op rfl rfl ?_ | refine AOps.load rfl rfl rfl rfl rfl ?_ | refine AOps.nil ?_ | refine AWP.seq ?_ | refine AWP.region ?_ | refine AWP.block ?_ | refine AWP.skip ?_ | refine AWP.exit ?_ | refine AWP.scope ?_ | refine AWP.label ?_)
  refine AWP.cond rfl (fun h => ?_) (fun hlarge => ?_)
  · repeat (first
    | refine AOps.op rfl rfl ?_ | refine AOps.load rfl rfl rfl rfl rfl ?_ | refine AOps.nil ?_ | refine AWP.seq ?_ | refine AWP.region ?_ | refine AWP.block ?_ | refine AWP.skip ?_ | refine AWP.exit ?_ | refine AWP.scope ?_ | refine AWP.label ?_)
    refine AWP.ret ?_
    exact ⟨_, _, rfl, rfl, Heap.le_refl _, rfl⟩
  obtain ⟨l30, lacts⟩ := alarge_no hlarge
  repeat (first
    | refine AOps.op rfl rfl ?_ | refine AOps.load rfl rfl rfl rfl rfl ?_ | refine AOps.nil ?_ | refine AWP.seq ?_ | refine AWP.region ?_ | refine AWP.block ?_ | refine AWP.skip ?_ | refine AWP.exit ?_ | refine AWP.scope ?_ | refine AWP.label ?_)
  refine AOps.call rfl rfl rfl ((cNew_spec H0).mono ?_)
  rintro _ H1 ⟨c, rfl, hl1, hc1⟩
  repeat (first
    | refine AOps.op rfl rfl ?_ | refine AOps.load rfl rfl rfl rfl rfl ?_ | refine AOps.nil ?_ | refine AWP.seq ?_ | refine AWP.region ?_ | refine AWP.block ?_ | refine AWP.skip ?_ | refine AWP.exit ?_ | refine AWP.scope ?_ | refine AWP.label ?_)
  refine AOps.boxH rfl rfl rfl rfl fun q hq => ?_
  obtain ⟨htwo, hr2⟩ := Two.coder (Heap.minus_le H1 H0) hq
  repeat (first
    | refine AOps.op rfl rfl ?_ | refine AOps.load rfl rfl rfl rfl rfl ?_ | refine AOps.nil ?_ | refine AWP.seq ?_ | refine AWP.region ?_ | refine AWP.block ?_ | refine AWP.skip ?_ | refine AWP.exit ?_ | refine AWP.scope ?_ | refine AWP.label ?_)
  refine AWP.cond rfl (fun h => by simp at h) (fun _ => ?_)
  repeat (first
    | refine AOps.op rfl rfl ?_ | refine AOps.load rfl rfl rfl rfl rfl ?_ | refine AOps.nil ?_ | refine AWP.seq ?_ | refine AWP.region ?_ | refine AWP.skip ?_ | refine AWP.exit ?_ | refine AWP.scope ?_ | refine AWP.label ?_)
  refine AWP.block ?_
  refine AWP.loopA (α := Nat × Cod × Nat × Heap × Heap × Heap) (fun a => a.1 ≤ l.length ∧ a.2.1.ok ∧ Two a.2.2.2.1 a.2.2.2.2.1 a.2.2.2.2.2 ∧ CodAt a.2.2.2.2.1 c a.2.1 ∧ RCodAt a.2.2.2.2.2 a.2.2.1 a.2.1 ∧ a.2.1.d.now ≤ 16 * a.1) (fun a => l.length - a.1)
    (fun a => [(3, .ptr c 0), (4, .ptr a.2.2.1 0), (26, .sl (l.map ac) .no), (27, .int .i64 l.length), (28, .int .i64 a.1)]) (fun _ => []) (fun a => a.2.2.2.1)
    (0, Cod.nil, q, H1.set q (rcbox Clk.zero (.sl [] .full) (.sl [] .full) 0), H1.minus H0, Heap.one q (rcbox Clk.zero (.sl [] .full) (.sl [] .full) 0)) ⟨by simp, Cod.nil_ok, htwo, hc1, hr2, by simp [Cod.nil, Dic.nil]⟩ ⟨rfl, rfl, rfl, ?_, rfl, trivial⟩ rfl (Heap.le_refl _) ?_
  · exact congrArg (fun n : Nat => some (AV.int .i64 n)) (ac_len l)
  clear htwo hr2 hq
  rintro ⟨i, S, r, H3, A, B⟩ ⟨i1, i2, i3, i4, i5, i6⟩
  simp only at i1 i2 i3 i4 i5 i6
  dsimp only
  repeat (first
    | refine AOps.op rfl rfl ?_ | refine AOps.load rfl rfl rfl rfl rfl ?_ | refine AOps.nil ?_ | refine AWP.seq ?_ | refine AWP.region ?_ | refine AWP.block ?_ | refine AWP.skip ?_ | refine AWP.exit ?_ | refine AWP.scope ?_ | refine AWP.label ?_)
  refine AWP.cond rfl (fun h => ?_) (fun h => ?_)
  · have hlt : i < l.length := by simp at h; omega
    have ei : IntKind.i64.wrap ((i : Int) + 1) = ((i + 1 : Nat) : Int) := wrap_i64 (n := i + 1) (by omega)
    obtain ⟨a, ha⟩ : ∃ a, l[i]? = some a := ⟨l[i], List.getElem?_eq_getElem hlt⟩
    obtain ⟨ha1, ha2⟩ := lacts a (List.mem_of_getElem? ha)
    obtain ⟨dd, t, bb⟩ := a
    simp only at ha1 ha2
    repeat (first
    | refine AOps.op rfl rfl ?_ | refine AOps.load rfl rfl rfl rfl rfl ?_ | refine AOps.nil ?_ | refine AWP.seq ?_ | refine AWP.region ?_ | refine AWP.block ?_ | refine AWP.skip ?_ | refine AWP.exit ?_ | refine AWP.scope ?_ | refine AWP.label ?_)
    refine AOps.indexSl rfl rfl rfl rfl rfl rfl (by omega) (getD_ac ha) rfl rfl ?_
    repeat (first
    | refine AOps.op rfl rfl ?_ | refine AOps.load rfl rfl rfl rfl rfl ?_ | refine AOps.nil ?_ | refine AWP.seq ?_ | refine AWP.region ?_ | refine AWP.block ?_ | refine AWP.skip ?_ | refine AWP.exit ?_ | refine AWP.scope ?_ | refine AWP.label ?_)
    refine AOps.allocH rfl rfl fun x hx => ?_
    refine AOps.storeH rfl rfl rfl (Heap.set_same _ _ _) rfl rfl ?_
    rw [Heap.set_set]
    obtain ⟨w4, x4, ax, bx, -⟩ := i3.new hx (abox ⟨dd, t, bb⟩)
    obtain ⟨H4, hH4⟩ : ∃ H4, H3.set x (.box [.int .i64 dd, .int .i64 t.origin, .int .i64 t.seq, .int .i64 t.deps.a, .int .i64 t.deps.b, .int .i64 t.deps.c, .sl (t.writes.map wr) .no, .sl (encB bb) .no]) = H4 := ⟨_, rfl⟩
    rw [show H3.set x (abox ⟨dd, t, bb⟩) = H4 from hH4] at w4 x4
    rw [hH4]
    clear hH4
    repeat (first
    | refine AOps.op rfl rfl ?_ | refine AOps.load rfl rfl rfl rfl rfl ?_ | refine AOps.nil ?_ | refine AWP.seq ?_ | refine AWP.region ?_ | refine AWP.block ?_ | refine AWP.skip ?_ | refine AWP.exit ?_ | refine AWP.scope ?_ | refine AWP.label ?_)
    refine AWP.draw [[], [0], [0, 1], [], [3], [0, 1, 2, 3, 4], [0, 1, 2, 3, 4, 5]] [(0, .pure), (1, .read), (2, .pure), (3, .pure), (4, .read), (5, .pure), (6, .pure)] rfl ?_
    repeat (first | refine DRun.op rfl rfl rfl ?_ | refine DRun.loadI rfl rfl rfl rfl rfl ?_ | refine DRun.load rfl rfl rfl rfl rfl rfl ?_ | refine DRun.nil ?_)
    refine DRun.load rfl rfl rfl (cellsAt_ptr x4) rfl rfl ?_
    repeat (first | refine DRun.op rfl rfl rfl ?_ | refine DRun.loadI rfl rfl rfl rfl rfl ?_ | refine DRun.load rfl rfl rfl rfl rfl rfl ?_ | refine DRun.nil ?_)
    refine DRun.callP (vs := [tx t .no]) rfl rfl rfl rfl (fun H => Check_spec t .no (by omega) H) ?_
    repeat (first | refine DRun.op rfl rfl rfl ?_ | refine DRun.loadI rfl rfl rfl rfl rfl ?_ | refine DRun.load rfl rfl rfl rfl rfl rfl ?_ | refine DRun.nil ?_)
    refine DRun.load rfl rfl rfl (cellsAt_ptr x4) rfl rfl ?_
    refine DRun.callP (vs := [tx t .no]) rfl rfl rfl rfl (fun H => R6Check_spec t .no (by omega) H) ?_
    repeat (first | refine DRun.op rfl rfl rfl ?_ | refine DRun.loadI rfl rfl rfl rfl rfl ?_ | refine DRun.load rfl rfl rfl rfl rfl rfl ?_ | refine DRun.nil ?_)
    refine AWP.cond rfl (fun h => by simp at h) (fun _ => ?_)
    repeat (first
    | refine AOps.op rfl rfl ?_ | refine AOps.load rfl rfl rfl rfl rfl ?_ | refine AOps.nil ?_ | refine AWP.seq ?_ | refine AWP.region ?_ | refine AWP.block ?_ | refine AWP.skip ?_ | refine AWP.exit ?_ | refine AWP.scope ?_ | refine AWP.label ?_)
    refine AOps.load rfl (cellsAt_ptr x4) rfl rfl rfl ?_
    repeat (first
    | refine AOps.op rfl rfl ?_ | refine AOps.load rfl rfl rfl rfl rfl ?_ | refine AOps.nil ?_ | refine AWP.seq ?_ | refine AWP.region ?_ | refine AWP.skip ?_ | refine AWP.exit ?_ | refine AWP.scope ?_ | refine AWP.label ?_)
    refine AWP.thnA (α := Cod × Nat × Heap × Heap × Heap) (fun a => a.1.ok ∧ Two a.2.2.1 a.2.2.2.1 a.2.2.2.2 ∧ CodAt a.2.2.2.1 c a.1 ∧ RCodAt a.2.2.2.2 a.2.1 a.1 ∧ a.1.d.now ≤ 16 * (i + 1))
      (fun a => [(3, .ptr c 0), (4, .ptr a.2.1 0), (26, .sl (l.map ac) .no), (27, .int .i64 l.length), (28, .int .i64 i)]) (fun _ => []) (fun a => a.2.2.1) ?_ ?_
    · refine AWP.block ?_
      repeat (first
    | refine AOps.op rfl rfl ?_ | refine AOps.load rfl rfl rfl rfl rfl ?_ | refine AOps.nil ?_ | refine AWP.seq ?_ | refine AWP.region ?_ | refine AWP.block ?_ | refine AWP.skip ?_ | refine AWP.exit ?_ | refine AWP.scope ?_ | refine AWP.label ?_)
      refine AWP.cond rfl (fun h => ?_) (fun h => ?_)
      · repeat (first
    | refine AOps.op rfl rfl ?_ | refine AOps.load rfl rfl rfl rfl rfl ?_ | refine AOps.nil ?_ | refine AWP.seq ?_ | refine AWP.region ?_ | refine AWP.block ?_ | refine AWP.skip ?_ | refine AWP.exit ?_ | refine AWP.scope ?_ | refine AWP.label ?_)
        refine AOps.load rfl (cellsAt_ptr x4) rfl rfl rfl ?_
        refine AOps.call (vs := [.ptr c 0, tx t .no]) rfl rfl rfl ((ACalls.first w4 (coPut_spec c S t .no (by omega) A i4)).mono ?_)
        rintro _ H5 ⟨A5, ⟨tp, rfl, c5⟩, w5, old5⟩
        obtain ⟨x5, -⟩ := old5 _ _ x4 ax
        repeat (first
    | refine AOps.op rfl rfl ?_ | refine AOps.load rfl rfl rfl rfl rfl ?_ | refine AOps.nil ?_ | refine AWP.seq ?_ | refine AWP.region ?_ | refine AWP.block ?_ | refine AWP.skip ?_ | refine AWP.exit ?_ | refine AWP.scope ?_ | refine AWP.label ?_)
        refine AOps.load rfl (cellsAt_ptr x5) rfl rfl rfl ?_
        refine AOps.call (vs := [.ptr r 0, tx t .no]) rfl rfl rfl ((ACalls.first w5.symm (R6Put_spec r S t .no (by omega) B i5 (by omega))).mono ?_)
        rintro _ H6 ⟨B6, ⟨tq, rfl, r6, -⟩, w6, old6⟩
        have hlen := tputE_len i2 t
        have hok := tputE_ok i2 t
        have hnow := tputE_now (S := S) t
        generalize tputE S t = P at *
        obtain ⟨pb, pe, S'⟩ := P
        simp only at c5 r6 hlen hok hnow
        dsimp only
        repeat (first
    | refine AOps.op rfl rfl ?_ | refine AOps.load rfl rfl rfl rfl rfl ?_ | refine AOps.nil ?_ | refine AWP.seq ?_ | refine AWP.region ?_ | refine AWP.block ?_ | refine AWP.skip ?_ | refine AWP.exit ?_ | refine AWP.scope ?_ | refine AWP.label ?_)
        refine AOps.call rfl rfl rfl ((R1Same_spec pb pb tp tq (by omega) (by omega) H6).mono ?_)
        rintro _ H6 ⟨rfl, rfl⟩
        rw [show decide (pb = pb) = true by simp]
        repeat (first | refine AOps.unguard rfl rfl rfl ?_ | refine AOps.op rfl rfl ?_ | refine AOps.load rfl rfl rfl rfl rfl ?_)
        rw [show ((pe : Int) != (pe : Int)) = false by simp]
        repeat (first | refine AOps.unguard rfl rfl rfl ?_ | refine AOps.op rfl rfl ?_ | refine AOps.load rfl rfl rfl rfl rfl ?_)
        refine AOps.nil ?_
        refine AWP.cond rfl (fun h => by simp at h) (fun _ => ?_)
        repeat (first
    | refine AOps.op rfl rfl ?_ | refine AOps.load rfl rfl rfl rfl rfl ?_ | refine AOps.nil ?_ | refine AWP.seq ?_ | refine AWP.region ?_ | refine AWP.block ?_ | refine AWP.skip ?_ | refine AWP.exit ?_ | refine AWP.scope ?_ | refine AWP.label ?_)
        exact ⟨(S', r, H6, A5, B6), ⟨hok, w6.symm, c5, r6, by ((try dsimp only); omega)⟩, ⟨rfl, rfl, rfl, rfl, rfl, trivial⟩, rfl, Heap.le_refl _⟩
      repeat (first
    | refine AOps.op rfl rfl ?_ | refine AOps.load rfl rfl rfl rfl rfl ?_ | refine AOps.nil ?_ | refine AWP.seq ?_ | refine AWP.region ?_ | refine AWP.block ?_ | refine AWP.skip ?_ | refine AWP.exit ?_ | refine AWP.scope ?_ | refine AWP.label ?_)
      refine AWP.cond rfl (fun h => ?_) (fun h => ?_)
      · repeat (first
    | refine AOps.op rfl rfl ?_ | refine AOps.load rfl rfl rfl rfl rfl ?_ | refine AOps.nil ?_ | refine AWP.seq ?_ | refine AWP.region ?_ | refine AWP.block ?_ | refine AWP.skip ?_ | refine AWP.exit ?_ | refine AWP.scope ?_ | refine AWP.label ?_)
        refine AOps.load rfl (cellsAt_ptr x4) rfl rfl rfl ?_
        refine AOps.call rfl rfl rfl ((ACalls.first w4 (coTake_res c S bb .no A i4 (by omega))).mono ?_)
        rintro _ H5 ⟨A5, ⟨tp, rfl, c5⟩, w5, old5⟩
        obtain ⟨x5, -⟩ := old5 _ _ x4 ax
        obtain ⟨hok, hnow, hwl, -⟩ := tres_ok i2 bb
        have hR := R6Take_res r S bb .no B i5 (by omega) (by omega)
        generalize tres S bb = P at *
        obtain ⟨T, n, e, S'⟩ := P
        simp only at c5 hok hnow hwl hR
        dsimp only
        repeat (first
    | refine AOps.op rfl rfl ?_ | refine AOps.load rfl rfl rfl rfl rfl ?_ | refine AOps.nil ?_ | refine AWP.seq ?_ | refine AWP.region ?_ | refine AWP.block ?_ | refine AWP.skip ?_ | refine AWP.exit ?_ | refine AWP.scope ?_ | refine AWP.label ?_)
        refine AOps.allocH rfl rfl fun y hy => ?_
        refine AOps.storeH rfl rfl rfl (Heap.set_same _ _ _) rfl rfl ?_
        rw [Heap.set_set]
        obtain ⟨w6, y6, ay, byy, old6⟩ := w5.new hy (tbox T tp)
        have x6 := old6 _ _ x5
        obtain ⟨H6, hH6⟩ : ∃ H6, H5.set y (.box [.int .i64 T.origin, .int .i64 T.seq, .int .i64 T.deps.a, .int .i64 T.deps.b, .int .i64 T.deps.c, .sl (T.writes.map wr) tp]) = H6 := ⟨_, rfl⟩
        rw [show H5.set y (tbox T tp) = H6 from hH6] at w6 y6 x6
        rw [hH6]
        clear hH6 old6
        repeat (first
    | refine AOps.op rfl rfl ?_ | refine AOps.load rfl rfl rfl rfl rfl ?_ | refine AOps.nil ?_ | refine AWP.seq ?_ | refine AWP.region ?_ | refine AWP.block ?_ | refine AWP.skip ?_ | refine AWP.exit ?_ | refine AWP.scope ?_ | refine AWP.label ?_)
        refine AOps.load rfl (cellsAt_ptr x6) rfl rfl rfl ?_
        refine AOps.call rfl rfl rfl ((ACalls.first w6.symm hR).mono ?_)
        rintro _ H7 ⟨B7, ⟨tq, rfl, r7⟩, w7, old7⟩
        obtain ⟨y7, -⟩ := old7 _ _ y6 byy
        repeat (first
    | refine AOps.op rfl rfl ?_ | refine AOps.load rfl rfl rfl rfl rfl ?_ | refine AOps.nil ?_ | refine AWP.seq ?_ | refine AWP.region ?_ | refine AWP.block ?_ | refine AWP.skip ?_ | refine AWP.exit ?_ | refine AWP.scope ?_ | refine AWP.label ?_)
        refine AOps.allocH rfl rfl fun z hz => ?_
        refine AOps.storeH rfl rfl rfl (Heap.set_same _ _ _) rfl rfl ?_
        rw [Heap.set_set]
        obtain ⟨w8, z8, az, bz, old8⟩ := w7.new hz (tbox T tq)
        have y8 := old8 _ _ y7
        obtain ⟨H8, hH8⟩ : ∃ H8, H7.set z (.box [.int .i64 T.origin, .int .i64 T.seq, .int .i64 T.deps.a, .int .i64 T.deps.b, .int .i64 T.deps.c, .sl (T.writes.map wr) tq]) = H8 := ⟨_, rfl⟩
        rw [show H7.set z (tbox T tq) = H8 from hH8] at w8 z8 y8
        rw [hH8]
        clear hH8 old8
        repeat (first
    | refine AOps.op rfl rfl ?_ | refine AOps.load rfl rfl rfl rfl rfl ?_ | refine AOps.nil ?_ | refine AWP.seq ?_ | refine AWP.region ?_ | refine AWP.block ?_ | refine AWP.skip ?_ | refine AWP.exit ?_ | refine AWP.scope ?_ | refine AWP.label ?_)
        refine AOps.load rfl (cellsAt_ptr y8) rfl rfl rfl ?_
        refine AOps.load rfl (cellsAt_ptr z8) rfl rfl rfl ?_
        refine AOps.call (vs := [tx T tp, tx T tq]) rfl rfl rfl ((R6Same_spec T T tp tq (by omega) (by omega) H8).mono ?_)
        rintro _ H8 ⟨rfl, rfl⟩
        rw [show decide (T = T) = true by simp]
        repeat (first | refine AOps.unguard rfl rfl rfl ?_ | refine AOps.op rfl rfl ?_ | refine AOps.load rfl rfl rfl rfl rfl ?_)
        rw [show ((n : Int) != (n : Int)) = false by simp]
        repeat (first | refine AOps.unguard rfl rfl rfl ?_ | refine AOps.op rfl rfl ?_ | refine AOps.load rfl rfl rfl rfl rfl ?_)
        rw [show ((e : Int) != (e : Int)) = false by simp]
        repeat (first | refine AOps.unguard rfl rfl rfl ?_ | refine AOps.op rfl rfl ?_ | refine AOps.load rfl rfl rfl rfl rfl ?_)
        refine AOps.nil ?_
        refine AWP.cond rfl (fun h => by simp at h) (fun _ => ?_)
        repeat (first
    | refine AOps.op rfl rfl ?_ | refine AOps.load rfl rfl rfl rfl rfl ?_ | refine AOps.nil ?_ | refine AWP.seq ?_ | refine AWP.region ?_ | refine AWP.block ?_ | refine AWP.skip ?_ | refine AWP.exit ?_ | refine AWP.scope ?_ | refine AWP.label ?_)
        exact ⟨(S', r, H8, A5, B7), ⟨hok, w8.symm, c5, r7, by ((try dsimp only); omega)⟩, ⟨rfl, rfl, rfl, rfl, rfl, trivial⟩, rfl, Heap.le_refl _⟩
      repeat (first
    | refine AOps.op rfl rfl ?_ | refine AOps.load rfl rfl rfl rfl rfl ?_ | refine AOps.nil ?_ | refine AWP.seq ?_ | refine AWP.region ?_ | refine AWP.block ?_ | refine AWP.skip ?_ | refine AWP.exit ?_ | refine AWP.scope ?_ | refine AWP.label ?_)
      refine AWP.cond rfl (fun h => ?_) (fun h => ?_)
      · repeat (first
    | refine AOps.op rfl rfl ?_ | refine AOps.load rfl rfl rfl rfl rfl ?_ | refine AOps.nil ?_ | refine AWP.seq ?_ | refine AWP.region ?_ | refine AWP.block ?_ | refine AWP.skip ?_ | refine AWP.exit ?_ | refine AWP.scope ?_ | refine AWP.label ?_)
        refine AOps.call rfl rfl rfl ((ACalls.first w4 (cReset_spec c S A i4)).mono ?_)
        rintro _ H5 ⟨A5, c5, w5, -⟩
        repeat (first
    | refine AOps.op rfl rfl ?_ | refine AOps.load rfl rfl rfl rfl rfl ?_ | refine AOps.nil ?_ | refine AWP.seq ?_ | refine AWP.region ?_ | refine AWP.block ?_ | refine AWP.skip ?_ | refine AWP.exit ?_ | refine AWP.scope ?_ | refine AWP.label ?_)
        refine AOps.boxH rfl rfl rfl rfl fun q5 hq5 => ?_
        obtain ⟨w6, r6⟩ := Two.coder w5.a hq5
        repeat (first
    | refine AOps.op rfl rfl ?_ | refine AOps.load rfl rfl rfl rfl rfl ?_ | refine AOps.nil ?_ | refine AWP.seq ?_ | refine AWP.region ?_ | refine AWP.block ?_ | refine AWP.skip ?_ | refine AWP.exit ?_ | refine AWP.scope ?_ | refine AWP.label ?_)
        exact ⟨(Cod.nil, q5, _, A5, _), ⟨Cod.nil_ok, w6, c5, r6, by simp [Cod.nil, Dic.nil]⟩, ⟨rfl, rfl, rfl, rfl, rfl, trivial⟩, rfl, Heap.le_refl _⟩
      · repeat (first
    | refine AOps.op rfl rfl ?_ | refine AOps.load rfl rfl rfl rfl rfl ?_ | refine AOps.nil ?_ | refine AWP.seq ?_ | refine AWP.region ?_ | refine AWP.block ?_ | refine AWP.skip ?_ | refine AWP.exit ?_ | refine AWP.scope ?_ | refine AWP.label ?_)
        exact ⟨(S, r, H4, A, B), ⟨i2, w4, i4, i5, by ((try dsimp only); omega)⟩, ⟨rfl, rfl, rfl, rfl, rfl, trivial⟩, rfl, Heap.le_refl _⟩
    clear i2 i3 i4 i5 i6 w4 x4 ax bx hx
    rintro ⟨S, r, H5, A, B⟩ ⟨i2, i3, i4, i5, i6⟩
    simp only at i2 i3 i4 i5 i6
    dsimp only
    obtain ⟨hok, hco, ks, ws, r1, r2, r3⟩ := id i5
    have r5 := i3.b _ _ r1
    repeat (first
    | refine AOps.op rfl rfl ?_ | refine AOps.load rfl rfl rfl rfl rfl ?_ | refine AOps.nil ?_ | refine AWP.seq ?_ | refine AWP.region ?_ | refine AWP.block ?_ | refine AWP.skip ?_ | refine AWP.exit ?_ | refine AWP.scope ?_ | refine AWP.label ?_)
    refine AWP.draw [[], [0], [], [2], [2, 3], [2, 3, 4], [0, 1, 2, 3, 4, 5]] [(0, .pure), (2, .pure), (3, .pure), (4, .pure), (5, .read), (1, .eff), (6, .pure)] rfl ?_
    repeat (first | refine DRun.op rfl rfl rfl ?_ | refine DRun.loadI rfl rfl rfl rfl rfl ?_ | refine DRun.load rfl rfl rfl rfl rfl rfl ?_ | refine DRun.nil ?_)
    refine DRun.load rfl rfl rfl (cellsAt_ptr r5) rfl rfl ?_
    refine DRun.eff rfl rfl rfl (OpT.callF rfl rfl ((cClock_spec c S H5 (i4.mono i3.a)).mono ?_))
    rintro _ H5 ⟨rfl, rfl⟩
    refine ⟨?_, ?_⟩
    · repeat (first | exact Chk.nil | refine Chk.pre rfl ?_ | refine Chk.load rfl (cellsAt_ptr r5) rfl rfl ?_)
    refine DRun.pureT rfl rfl rfl (fun loc H => OpT.eqAgg eqTy_ck rfl rfl (aeq_ck S.c S.c) (.inr rfl) ⟨rfl, rfl, rfl⟩) ?_
    rw [show decide (S.c = S.c) = true by simp]
    repeat (first | refine DRun.op rfl rfl rfl ?_ | refine DRun.loadI rfl rfl rfl rfl rfl ?_ | refine DRun.load rfl rfl rfl rfl rfl rfl ?_ | refine DRun.nil ?_)
    refine AWP.cond rfl (fun h => by simp at h) (fun _ => ?_)
    repeat (first
    | refine AOps.op rfl rfl ?_ | refine AOps.load rfl rfl rfl rfl rfl ?_ | refine AOps.nil ?_ | refine AWP.seq ?_ | refine AWP.region ?_ | refine AWP.block ?_ | refine AWP.skip ?_ | refine AWP.exit ?_ | refine AWP.scope ?_ | refine AWP.label ?_)
    exact ⟨(i + 1, S, r, H5, A, B), by ((try dsimp only); omega), ⟨by ((try dsimp only); omega), i2, i3, i4, i5, i6⟩, ⟨rfl, rfl, rfl, rfl, congrArg (fun x => some (AV.int .i64 x)) ei, trivial⟩, rfl, Heap.le_refl _⟩
  · have h : l.length ≤ i := by simp at h; omega
    repeat (first
    | refine AOps.op rfl rfl ?_ | refine AOps.load rfl rfl rfl rfl rfl ?_ | refine AOps.nil ?_ | refine AWP.seq ?_ | refine AWP.region ?_ | refine AWP.block ?_ | refine AWP.skip ?_ | refine AWP.exit ?_ | refine AWP.scope ?_ | refine AWP.label ?_)
    refine AWP.ret ?_
    exact ⟨_, _, rfl, rfl, Heap.le_refl _, rfl⟩
end Go.Proofs.Ytlbnhokhhangdaa

/- Values of which less is known; rows of transactions and of items; what is too large; items as the document has them. -/
namespace Go.Proofs.Ytlbnhokhhangdaa
open Go Go.Am Go.Pk Go.Lib
set_option linter.unusedVariables false
set_option linter.unusedSimpArgs false
set_option maxRecDepth 10000

/-- b says less than a. -/
def Wk (a b : AV) : Prop := ∀ G B v, VR G B a v → VR G B b v

theorem Wk.refl (a : AV) : Wk a a := fun _ _ _ h => h

theorem Wk.sl (els : List AV) (tag : Tag) : Wk (.sl els tag) (.sl els .no) := by
  intro G B v h
  cases h with
  | slempty => exact .slempty _ _ _
  | slfull => exact .slempty _ _ _
  | sl _ _ _ b off cap sz cv h1 h2 h3 h4 h5 => exact .sl _ _ _ _ _ _ sz cv h1 trivial h3 h4 h5

theorem Wk.agg {cs ds : List AV} (hl : cs.length = ds.length) (h : ∀ i, i < cs.length → Wk (cs.getD i .any) (ds.getD i .any)) : Wk (.agg cs) (.agg ds) := by
  intro G B v hv
  cases hv with
  | agg _ _ xs h1 h2 => exact .agg _ _ _ (by omega) (fun i hi => h i (by omega) _ _ _ (h2 i (by omega)))

theorem Wk.tuple {cs ds : List AV} (hl : cs.length = ds.length) (h : ∀ i, i < cs.length → Wk (cs.getD i .any) (ds.getD i .any)) : Wk (.tuple cs) (.tuple ds) := by
  intro G B v hv
  cases hv with
  | tuple _ _ xs h1 h2 => exact .tuple _ _ _ (by omega) (fun i hi => h i (by omega) _ _ _ (h2 i (by omega)))

theorem ACalls.weak {f : FuncId} {args : List AV} {H : Heap} {K K' : AV → Heap → Prop} (h : ACalls Q.prog f args H K) (hk : ∀ r H, K r H → ∃ r', Wk r r' ∧ K' r' H) : ACalls Q.prog f args H K' :=
  ⟨h.1, fun G w vs h0 h1 h2 => (h.2 G w vs h0 h1 h2).mono fun e w' ⟨r, v, G, H, a, b, c, d, k⟩ => let ⟨r', k1, k2⟩ := hk _ _ k; ⟨r', v, G, H, a, k1 _ _ _ b, c, d, k2⟩⟩

abbrev tn (t : Txn) : AV := tx t .no
abbrev iq (x : It) : AV := .agg [.bool x.reset, .int .i64 x.t.origin, .int .i64 x.t.seq, .int .i64 x.t.deps.a, .int .i64 x.t.deps.b, .int .i64 x.t.deps.c, .sl (x.t.writes.map wr) .no]

theorem Wk.tx (t : Txn) (tag : Tag) : Wk (tx t tag) (tn t) := Wk.agg rfl fun i hi => by
  match i, hi with
  | 0, _ => exact Wk.refl _
  | 1, _ => exact Wk.refl _
  | 2, _ => exact Wk.refl _
  | 3, _ => exact Wk.refl _
  | 4, _ => exact Wk.refl _
  | 5, _ => exact Wk.sl _ _
  | n + 6, h => exact absurd h (by simp)

theorem Wk.res (t : Txn) (tag : Tag) (a b : AV) : Wk (.tuple [Proofs.Ytlbnhokhhangdaa.tx t tag, a, b]) (.tuple [tn t, a, b]) := Wk.tuple rfl fun i hi => by
  match i, hi with
  | 0, _ => exact Wk.tx t tag
  | 1, _ => exact Wk.refl _
  | 2, _ => exact Wk.refl _
  | n + 3, h => exact absurd h (by simp)

theorem tn_len (l : List Txn) : (l.map tn).length = l.length := List.length_map _
theorem iq_len (l : List It) : (l.map iq).length = l.length := List.length_map _
theorem els_tn (l : List Txn) : Els 6 (l.map tn) := Els.map (f := tn) (fun _ => ⟨rfl, rfl⟩) l
theorem els_iq (l : List It) : Els 7 (l.map iq) := Els.map (f := iq) (fun _ => ⟨rfl, rfl⟩) l
theorem getD_tn {l : List Txn} {i : Nat} {t : Txn} (h : l[i]? = some t) : (l.map tn)[((i : Nat) : Int).toNat]? = some (tn t) := by simp [h]
theorem getD_iq {l : List It} {i : Nat} {x : It} (h : l[i]? = some x) : (l.map iq)[((i : Nat) : Int).toNat]? = some (iq x) := by simp [h]

theorem coTake_no (c : Nat) (S : Cod) (b : Str) (tag : Tag) (H : Heap) (h : CodAt H c S) (hb : b.length < 2 ^ 40) :
    ACalls Q.prog 14 [.ptr c 0, .sl (encB b) tag] H fun r H' => r = .tuple [tn (tres S b).1, .int .i64 ((tres S b).2.1 : Nat), .int .i64 ((tres S b).2.2.1 : Nat)] ∧ CodAt H' c (tres S b).2.2.2 :=
  ACalls.weak (coTake_res c S b tag H h hb) fun r H' ⟨tag', e, k⟩ => ⟨_, e ▸ Wk.res _ _ _ _, rfl, k⟩

theorem R6Take_no (r : Nat) (S : Cod) (b : Str) (tag : Tag) (H : Heap) (h : RCodAt H r S) (hb : b.length < 2 ^ 40) (hnow : S.d.now < 2 ^ 50) :
    ACalls Q.prog 20 [.ptr r 0, .sl (encB b) tag] H fun x H' => x = .tuple [tn (tres S b).1, .int .i64 ((tres S b).2.1 : Nat), .int .i64 ((tres S b).2.2.1 : Nat)] ∧ RCodAt H' r (tres S b).2.2.2 ∧ (H.del r).le H' :=
  ACalls.weak (R6Take_spec r S b tag H h hb hnow) fun x H' ⟨hl, k⟩ => by
    unfold tres
    cases e : ttake S b with
    | ok v =>
      rw [e] at k
      obtain ⟨t, n, S'⟩ := v
      obtain ⟨tag', e1, e2⟩ := k
      exact ⟨_, e1 ▸ Wk.res _ _ _ _, rfl, e2, hl⟩
    | error n =>
      rw [e] at k
      obtain ⟨e1, e2⟩ := k
      exact ⟨_, e1 ▸ Wk.res _ _ _ _, rfl, e2, hl⟩

attribute [local irreducible] AOps AWP DRun ACalls

theorem Large7_spec (l : List Txn) (tag : Tag) (H : Heap) :
    ACalls Q.prog 24 [.sl (l.map tn) tag] H fun r H' => r = .bool (itsLarge l) ∧ H' = H := by
  refine ACalls.body (N := 17) Try.func24 rfl rfl rfl rfl ?_
  repeat (first
    | refine AOps.op rfl rfl ?_ | refine AOps.load rfl rfl rfl rfl rfl ?_ | refine AOps.nil ?_ | refine AWP.seq ?_ | refine AWP.region ?_ | refine AWP.block ?_ | refine AWP.skip ?_ | refine AWP.exit ?_ | refine AWP.scope ?_ | refine AWP.label ?_)
  refine AWP.cond rfl (fun h => ?_) (fun h => ?_)
  · have h : 30 < l.length := by simp at h; omega
    repeat (first
    | refine AOps.op rfl rfl ?_ | refine AOps.load rfl rfl rfl rfl rfl ?_ | refine AOps.nil ?_ | refine AWP.seq ?_ | refine AWP.region ?_ | refine AWP.block ?_ | refine AWP.skip ?_ | refine AWP.exit ?_ | refine AWP.scope ?_ | refine AWP.label ?_)
    refine AWP.ret ?_
    refine ⟨_, _, rfl, rfl, Heap.le_refl _, ?_, rfl⟩
    simp [itsLarge, h]; rfl
  have h30 : l.length ≤ 30 := by simp at h; omega
  repeat (first
    | refine AOps.op rfl rfl ?_ | refine AOps.load rfl rfl rfl rfl rfl ?_ | refine AOps.nil ?_ | refine AWP.seq ?_ | refine AWP.region ?_ | refine AWP.skip ?_ | refine AWP.exit ?_ | refine AWP.scope ?_ | refine AWP.label ?_)
  refine AWP.block ?_
  refine AWP.loopA (α := Nat) (fun i => i ≤ l.length ∧ (l.take i).any Txn.large = false) (fun i => l.length - i)
    (fun i => [(8, .sl (l.map tn) tag), (9, .int .i64 l.length), (10, .int .i64 i)]) (fun _ => []) (fun _ => H) 0 ⟨by simp, by simp⟩ ⟨rfl, ?_, rfl, trivial⟩ rfl (Heap.le_refl _) ?_
  · exact congrArg (fun n : Nat => some (AV.int .i64 n)) (tn_len l)
  rintro i ⟨i1, i2⟩
  repeat (first
    | refine AOps.op rfl rfl ?_ | refine AOps.load rfl rfl rfl rfl rfl ?_ | refine AOps.nil ?_ | refine AWP.seq ?_ | refine AWP.region ?_ | refine AWP.block ?_ | refine AWP.skip ?_ | refine AWP.exit ?_ | refine AWP.scope ?_ | refine AWP.label ?_)
  refine AWP.cond rfl (fun h => ?_) (fun h => ?_)
  · have hlt : i < l.length := by simp at h; omega
    have ei : IntKind.i64.wrap ((i : Int) + 1) = ((i + 1 : Nat) : Int) := wrap_i64 (n := i + 1) (by omega)
    obtain ⟨t, ht⟩ : ∃ t, l[i]? = some t := ⟨l[i], List.getElem?_eq_getElem hlt⟩
    repeat (first
    | refine AOps.op rfl rfl ?_ | refine AOps.load rfl rfl rfl rfl rfl ?_ | refine AOps.nil ?_ | refine AWP.seq ?_ | refine AWP.region ?_ | refine AWP.block ?_ | refine AWP.skip ?_ | refine AWP.exit ?_ | refine AWP.scope ?_ | refine AWP.label ?_)
    refine AOps.indexSl rfl rfl rfl rfl rfl rfl (by omega) (getD_tn ht) rfl rfl ?_
    repeat (first
    | refine AOps.op rfl rfl ?_ | refine AOps.load rfl rfl rfl rfl rfl ?_ | refine AOps.nil ?_ | refine AWP.seq ?_ | refine AWP.region ?_ | refine AWP.block ?_ | refine AWP.skip ?_ | refine AWP.exit ?_ | refine AWP.scope ?_ | refine AWP.label ?_)
    refine AOps.allocH rfl rfl fun x hx => ?_
    refine AOps.storeH rfl rfl rfl (Heap.set_same _ _ _) rfl rfl ?_
    rw [Heap.set_set]
    obtain ⟨o, s, c, ws⟩ := t
    have hbx := Heap.set_same H x (.box [.int .i64 o, .int .i64 s, .int .i64 c.a, .int .i64 c.b, .int .i64 c.c, .sl (ws.map wr) .no])
    have hle := Heap.le_set (x := .box [.int .i64 o, .int .i64 s, .int .i64 c.a, .int .i64 c.b, .int .i64 c.c, .sl (ws.map wr) .no]) hx
    generalize H.set x (.box [.int .i64 o, .int .i64 s, .int .i64 c.a, .int .i64 c.b, .int .i64 c.c, .sl (ws.map wr) .no]) = H1 at *
    repeat (first
    | refine AOps.op rfl rfl ?_ | refine AOps.load rfl rfl rfl rfl rfl ?_ | refine AOps.nil ?_ | refine AWP.seq ?_ | refine AWP.region ?_ | refine AWP.block ?_ | refine AWP.skip ?_ | refine AWP.exit ?_ | refine AWP.scope ?_ | refine AWP.label ?_)
    refine AOps.load rfl (cellsAt_ptr hbx) rfl rfl rfl ?_
    refine AOps.call rfl rfl rfl ((Large_spec ⟨o, s, c, ws⟩ .no H1).mono ?_)
    rintro _ H1 ⟨rfl, rfl⟩
    repeat (first
    | refine AOps.op rfl rfl ?_ | refine AOps.load rfl rfl rfl rfl rfl ?_ | refine AOps.nil ?_ | refine AWP.seq ?_ | refine AWP.region ?_ | refine AWP.block ?_ | refine AWP.skip ?_ | refine AWP.exit ?_ | refine AWP.scope ?_ | refine AWP.label ?_)
    refine AWP.cond rfl (fun h => ?_) (fun h => ?_)
    · have h : l.any Txn.large = true := List.any_eq_true.2 ⟨_, List.mem_of_getElem? ht, h⟩
      repeat (first
    | refine AOps.op rfl rfl ?_ | refine AOps.load rfl rfl rfl rfl rfl ?_ | refine AOps.nil ?_ | refine AWP.seq ?_ | refine AWP.region ?_ | refine AWP.block ?_ | refine AWP.skip ?_ | refine AWP.exit ?_ | refine AWP.scope ?_ | refine AWP.label ?_)
      refine AWP.ret ?_
      refine ⟨_, _, rfl, rfl, hle, ?_, rfl⟩
      simp [itsLarge, h]; rfl
    · repeat (first
    | refine AOps.op rfl rfl ?_ | refine AOps.load rfl rfl rfl rfl rfl ?_ | refine AOps.nil ?_ | refine AWP.seq ?_ | refine AWP.region ?_ | refine AWP.block ?_ | refine AWP.skip ?_ | refine AWP.exit ?_ | refine AWP.scope ?_ | refine AWP.label ?_)
      exact ⟨i + 1, by omega, ⟨by omega, any_take ht i2 h⟩, ⟨rfl, rfl, congrArg (fun x => some (AV.int .i64 x)) ei, trivial⟩, rfl, hle⟩
  · have h : l.length ≤ i := by simp at h; omega
    rw [List.take_of_length_le h] at i2
    repeat (first
    | refine AOps.op rfl rfl ?_ | refine AOps.load rfl rfl rfl rfl rfl ?_ | refine AOps.nil ?_ | refine AWP.seq ?_ | refine AWP.region ?_ | refine AWP.block ?_ | refine AWP.skip ?_ | refine AWP.exit ?_ | refine AWP.scope ?_ | refine AWP.label ?_)
    refine AWP.ret ?_
    refine ⟨_, _, rfl, rfl, Heap.le_refl _, ?_, rfl⟩
    have : ¬ 30 < l.length := by omega
    simp [itsLarge, this, i2]; rfl
end Go.Proofs.Ytlbnhokhhangdaa

/- Rows that are appended to; items as the document has them; items too large; whether rows are the same. -/
namespace Go.Proofs.Ytlbnhokhhangdaa
open Go Go.Am Go.Pk Go.Lib
set_option linter.unusedVariables false
set_option linter.unusedSimpArgs false
set_option maxRecDepth 10000

section
variable {σ : Go.Am.Frame} {loc : Go.Am.Loc} {H : Heap} {ty : TypeId} {pos : String} {after : Array Edge} {g : Option (Nat × Bool)} {dst : Option Tmp} {R : AV → Go.Am.Loc → Heap → Prop} {s x : Operand} {tag tg : Tag}
theorem appT {l m : List Txn} (H0 : Heap) (hH : H0.le H) (hs : evo σ s = some (.sl (l.map tn) tag)) (hx : srcOf (evo σ x) = some (m.map tn)) (happ : App H0 6 l.length tag) (hlen : (l.length + m.length) * 64 ≤ 140737488355328)
    (hq : ∀ tag' H', App H' 6 (l ++ m).length tag' → hbase H' tag' = hbase H0 tag → R (.sl ((l ++ m).map tn) tag') loc H') :
    OpT Q.prog ⟨dst, .call { callee := .builtin .append, args := #[s, x], argTypes := #[53, 53] }, ty, pos, after, g⟩ (ev σ) loc H R := by
  refine OpT.less hH (OpT.append hs hx rfl rfl rfl rfl rfl rfl (els_tn l) (els_tn m) (by rw [tn_len]; exact happ) ?_ ?_ ?_)
  · rw [tn_len, tn_len]; simp only [maxLen]; omega
  · rw [tn_len, tn_len]; simp only; omega
  intro tag' H' k1 k2
  rw [← List.map_append]
  exact hq tag' H' (by simpa [tn_len] using k1) k2
theorem appE {l m : List It} (H0 : Heap) (hH : H0.le H) (hs : evo σ s = some (.sl (l.map iq) tag)) (hx : srcOf (evo σ x) = some (m.map iq)) (happ : App H0 7 l.length tag) (hlen : l.length + m.length ≤ 2 ^ 32)
    (hq : ∀ tag' H', App H' 7 (l ++ m).length tag' → hbase H' tag' = hbase H0 tag → R (.sl ((l ++ m).map iq) tag') loc H') :
    OpT Q.prog ⟨dst, .call { callee := .builtin .append, args := #[s, x], argTypes := #[52, 52] }, ty, pos, after, g⟩ (ev σ) loc H R := by
  refine OpT.less hH (OpT.append hs hx rfl rfl rfl rfl rfl rfl (els_iq l) (els_iq m) (by rw [iq_len]; exact happ) ?_ ?_ ?_)
  · rw [iq_len, iq_len]; simp only [maxLen]; omega
  · rw [iq_len, iq_len]; simp only; omega
  intro tag' H' k1 k2
  rw [← List.map_append]
  exact hq tag' H' (by simpa [iq_len] using k1) k2
theorem appR {l m : List It} (H0 : Heap) (hH : H0.le H) (hs : evo σ s = some (.sl (l.map iq) tag)) (hx : srcOf (evo σ x) = some (m.map iq)) (happ : App H0 7 l.length tag) (hlen : l.length + m.length ≤ 2 ^ 32)
    (hq : ∀ tag' H', App H' 7 (l ++ m).length tag' → hbase H' tag' = hbase H0 tag → R (.sl ((l ++ m).map iq) tag') loc H') :
    OpT Q.prog ⟨dst, .call { callee := .builtin .append, args := #[s, x], argTypes := #[58, 58] }, ty, pos, after, g⟩ (ev σ) loc H R := by
  refine OpT.less hH (OpT.append hs hx rfl rfl rfl rfl rfl rfl (els_iq l) (els_iq m) (by rw [iq_len]; exact happ) ?_ ?_ ?_)
  · rw [iq_len, iq_len]; simp only [maxLen]; omega
  · rw [iq_len, iq_len]; simp only; omega
  intro tag' H' k1 k2
  rw [← List.map_append]
  exact hq tag' H' (by simpa [iq_len] using k1) k2
end

attribute [local irreducible] AOps AWP DRun ACalls

def itbox (x : It) : AObj := .box [.bool x.reset, .int .i64 x.t.origin, .int .i64 x.t.seq, .int .i64 x.t.deps.a, .int .i64 x.t.deps.b, .int .i64 x.t.deps.c, .sl (x.t.writes.map wr) .no]

theorem Own_spec (l : List It) (tag : Tag) (hl : l.length ≤ 2 ^ 31) (H : Heap) :
    ACalls Q.prog 27 [.sl (l.map iq) tag] H fun r H' => r = .sl (l.map iq) .no ∧ H' = H := by
  refine ACalls.weak (K := fun r H' => ∃ tag', r = .sl (l.map iq) tag' ∧ H' = H) ?_ (fun r H' ⟨tag', e1, e2⟩ => ⟨_, e1 ▸ Wk.sl _ _, rfl, e2⟩)
  refine ACalls.body (N := 19) Try.func27 rfl rfl rfl rfl ?_
  repeat (first
    | refine AOps.op rfl rfl ?_ | refine AOps.load rfl rfl rfl rfl rfl ?_ | refine AOps.nil ?_ | refine AWP.seq ?_ | refine AWP.region ?_ | refine AWP.block ?_ | refine AWP.skip ?_ | refine AWP.exit ?_ | refine AWP.scope ?_ | refine AWP.label ?_)
  refine AOps.buildSlice (els := []) rfl rfl rfl ?_
  repeat (first
    | refine AOps.op rfl rfl ?_ | refine AOps.load rfl rfl rfl rfl rfl ?_ | refine AOps.nil ?_ | refine AWP.seq ?_ | refine AWP.region ?_ | refine AWP.skip ?_ | refine AWP.exit ?_ | refine AWP.scope ?_ | refine AWP.label ?_)
  refine AWP.block ?_
  refine AWP.loopA (α := Nat × Tag × Heap) (fun a => a.1 ≤ l.length ∧ App a.2.2 7 a.1 a.2.1 ∧ hbase a.2.2 a.2.1 = H) (fun a => l.length - a.1)
    (fun a => [(3, .sl ((l.take a.1).map iq) a.2.1), (7, .sl (l.map iq) tag), (8, .int .i64 l.length), (9, .int .i64 a.1)]) (fun _ => []) (fun a => a.2.2) (0, .full, H) ⟨by simp, trivial, rfl⟩ ⟨rfl, rfl, ?_, rfl, trivial⟩ rfl (Heap.le_refl _) ?_
  · exact congrArg (fun n : Nat => some (AV.int .i64 n)) (iq_len l)
  rintro ⟨i, tg, H1⟩ ⟨i1, i2, i3⟩
  simp only at i1 i2 i3
  dsimp only
  repeat (first
    | refine AOps.op rfl rfl ?_ | refine AOps.load rfl rfl rfl rfl rfl ?_ | refine AOps.nil ?_ | refine AWP.seq ?_ | refine AWP.region ?_ | refine AWP.block ?_ | refine AWP.skip ?_ | refine AWP.exit ?_ | refine AWP.scope ?_ | refine AWP.label ?_)
  refine AWP.cond rfl (fun h => ?_) (fun h => ?_)
  · have hlt : i < l.length := by simp at h; omega
    have ei : IntKind.i64.wrap ((i : Int) + 1) = ((i + 1 : Nat) : Int) := wrap_i64 (n := i + 1) (by omega)
    obtain ⟨x, hx⟩ : ∃ x, l[i]? = some x := ⟨l[i], List.getElem?_eq_getElem hlt⟩
    repeat (first
    | refine AOps.op rfl rfl ?_ | refine AOps.load rfl rfl rfl rfl rfl ?_ | refine AOps.nil ?_ | refine AWP.seq ?_ | refine AWP.region ?_ | refine AWP.block ?_ | refine AWP.skip ?_ | refine AWP.exit ?_ | refine AWP.scope ?_ | refine AWP.label ?_)
    refine AOps.indexSl rfl rfl rfl rfl rfl rfl (by omega) (getD_iq hx) rfl rfl ?_
    repeat (first
    | refine AOps.op rfl rfl ?_ | refine AOps.load rfl rfl rfl rfl rfl ?_ | refine AOps.nil ?_ | refine AWP.seq ?_ | refine AWP.region ?_ | refine AWP.block ?_ | refine AWP.skip ?_ | refine AWP.exit ?_ | refine AWP.scope ?_ | refine AWP.label ?_)
    refine AOps.allocH rfl rfl fun q hq => ?_
    refine AOps.storeH rfl rfl rfl (Heap.set_same _ _ _) rfl rfl ?_
    rw [Heap.set_set]
    have hbx := Heap.set_same H1 q (itbox x)
    have hle := Heap.le_set (x := itbox x) hq
    obtain ⟨H2, hH2⟩ : ∃ H2, H1.set q (itbox x) = H2 := ⟨_, rfl⟩
    rw [hH2] at hbx hle
    rw [show H1.set q (.box [.bool x.reset, .int .i64 x.t.origin, .int .i64 x.t.seq, .int .i64 x.t.deps.a, .int .i64 x.t.deps.b, .int .i64 x.t.deps.c, .sl (x.t.writes.map wr) .no]) = H2 from hH2]
    repeat (first
    | refine AOps.op rfl rfl ?_ | refine AOps.load rfl rfl rfl rfl rfl ?_ | refine AOps.nil ?_ | refine AWP.seq ?_ | refine AWP.region ?_ | refine AWP.block ?_ | refine AWP.skip ?_ | refine AWP.exit ?_ | refine AWP.scope ?_ | refine AWP.label ?_)
    refine AOps.load rfl (cellsAt_ptr hbx) rfl rfl rfl ?_
    repeat (first
    | refine AOps.op rfl rfl ?_ | refine AOps.load rfl rfl rfl rfl rfl ?_ | refine AOps.nil ?_ | refine AWP.seq ?_ | refine AWP.region ?_ | refine AWP.block ?_ | refine AWP.skip ?_ | refine AWP.exit ?_ | refine AWP.scope ?_ | refine AWP.label ?_)
    refine AOps.buildSlice (els := [x].map iq) rfl rfl rfl ?_
    refine AOps.step rfl rfl (appR H1 hle rfl rfl (by simpa [Nat.min_eq_left i1] using i2) (by simp; omega) fun tag' H3 k1 k2 => ?_)
    have e3 : l.take i ++ [x] = l.take (i + 1) := by rw [List.take_add_one, hx]; rfl
    rw [e3] at k1 ⊢
    repeat (first
    | refine AOps.op rfl rfl ?_ | refine AOps.load rfl rfl rfl rfl rfl ?_ | refine AOps.nil ?_ | refine AWP.seq ?_ | refine AWP.region ?_ | refine AWP.block ?_ | refine AWP.skip ?_ | refine AWP.exit ?_ | refine AWP.scope ?_ | refine AWP.label ?_)
    refine ⟨(i + 1, tag', H3), by ((try dsimp only); omega), ⟨hlt, ?_, ?_⟩, ⟨rfl, rfl, rfl, congrArg (fun x => some (AV.int .i64 x)) ei, trivial⟩, rfl, Heap.le_refl _⟩
    · simpa [Nat.min_eq_left hlt] using k1
    · exact k2.trans i3
  · have h : l.length ≤ i := by simp at h; omega
    rw [List.take_of_length_le h]
    repeat (first
    | refine AOps.op rfl rfl ?_ | refine AOps.load rfl rfl rfl rfl rfl ?_ | refine AOps.nil ?_ | refine AWP.seq ?_ | refine AWP.region ?_ | refine AWP.block ?_ | refine AWP.skip ?_ | refine AWP.exit ?_ | refine AWP.scope ?_ | refine AWP.label ?_)
    refine AWP.ret ?_
    exact ⟨_, _, rfl, rfl, i3 ▸ hbase_le _ _, tg, rfl, rfl⟩

theorem large7_spec (l : List It) (tag : Tag) (hl : l.length * 72 ≤ 140737488351232) (H : Heap) :
    ACalls Q.prog 23 [.sl (l.map iq) tag] H fun r H' => r = .bool (itsLarge (l.map It.t)) ∧ H' = H := by
  refine ACalls.body (N := 21) Try.func23 rfl rfl rfl rfl ?_
  repeat (first
    | refine AOps.op rfl rfl ?_ | refine AOps.load rfl rfl rfl rfl rfl ?_ | refine AOps.nil ?_ | refine AWP.seq ?_ | refine AWP.region ?_ | refine AWP.block ?_ | refine AWP.skip ?_ | refine AWP.exit ?_ | refine AWP.scope ?_ | refine AWP.label ?_)
  refine AOps.buildSlice (els := []) rfl rfl rfl ?_
  repeat (first
    | refine AOps.op rfl rfl ?_ | refine AOps.load rfl rfl rfl rfl rfl ?_ | refine AOps.nil ?_ | refine AWP.seq ?_ | refine AWP.region ?_ | refine AWP.skip ?_ | refine AWP.exit ?_ | refine AWP.scope ?_ | refine AWP.label ?_)
  refine AWP.block ?_
  refine AWP.loopA (α := Nat × Tag × Heap) (fun a => a.1 ≤ l.length ∧ App a.2.2 6 a.1 a.2.1 ∧ hbase a.2.2 a.2.1 = H) (fun a => l.length - a.1)
    (fun a => [(3, .sl (((l.take a.1).map It.t).map tn) a.2.1), (7, .sl (l.map iq) tag), (8, .int .i64 l.length), (9, .int .i64 a.1)]) (fun _ => []) (fun a => a.2.2) (0, .full, H) ⟨by simp, trivial, rfl⟩ ⟨rfl, rfl, ?_, rfl, trivial⟩ rfl (Heap.le_refl _) ?_
  · exact congrArg (fun n : Nat => some (AV.int .i64 n)) (iq_len l)
  rintro ⟨i, tg, H1⟩ ⟨i1, i2, i3⟩
  simp only at i1 i2 i3
  dsimp only
  repeat (first
    | refine AOps.op rfl rfl ?_ | refine AOps.load rfl rfl rfl rfl rfl ?_ | refine AOps.nil ?_ | refine AWP.seq ?_ | refine AWP.region ?_ | refine AWP.block ?_ | refine AWP.skip ?_ | refine AWP.exit ?_ | refine AWP.scope ?_ | refine AWP.label ?_)
  refine AWP.cond rfl (fun h => ?_) (fun h => ?_)
  · have hlt : i < l.length := by simp at h; omega
    have ei : IntKind.i64.wrap ((i : Int) + 1) = ((i + 1 : Nat) : Int) := wrap_i64 (n := i + 1) (by omega)
    obtain ⟨x, hx⟩ : ∃ x, l[i]? = some x := ⟨l[i], List.getElem?_eq_getElem hlt⟩
    repeat (first
    | refine AOps.op rfl rfl ?_ | refine AOps.load rfl rfl rfl rfl rfl ?_ | refine AOps.nil ?_ | refine AWP.seq ?_ | refine AWP.region ?_ | refine AWP.block ?_ | refine AWP.skip ?_ | refine AWP.exit ?_ | refine AWP.scope ?_ | refine AWP.label ?_)
    refine AOps.indexSl rfl rfl rfl rfl rfl rfl (by omega) (getD_iq hx) rfl rfl ?_
    repeat (first
    | refine AOps.op rfl rfl ?_ | refine AOps.load rfl rfl rfl rfl rfl ?_ | refine AOps.nil ?_ | refine AWP.seq ?_ | refine AWP.region ?_ | refine AWP.block ?_ | refine AWP.skip ?_ | refine AWP.exit ?_ | refine AWP.scope ?_ | refine AWP.label ?_)
    refine AOps.allocH rfl rfl fun q hq => ?_
    refine AOps.storeH rfl rfl rfl (Heap.set_same _ _ _) rfl rfl ?_
    rw [Heap.set_set]
    have hbx := Heap.set_same H1 q (itbox x)
    have hle := Heap.le_set (x := itbox x) hq
    obtain ⟨H2, hH2⟩ : ∃ H2, H1.set q (itbox x) = H2 := ⟨_, rfl⟩
    rw [hH2] at hbx hle
    rw [show H1.set q (.box [.bool x.reset, .int .i64 x.t.origin, .int .i64 x.t.seq, .int .i64 x.t.deps.a, .int .i64 x.t.deps.b, .int .i64 x.t.deps.c, .sl (x.t.writes.map wr) .no]) = H2 from hH2]
    repeat (first
    | refine AOps.op rfl rfl ?_ | refine AOps.load rfl rfl rfl rfl rfl ?_ | refine AOps.nil ?_ | refine AWP.seq ?_ | refine AWP.region ?_ | refine AWP.block ?_ | refine AWP.skip ?_ | refine AWP.exit ?_ | refine AWP.scope ?_ | refine AWP.label ?_)
    refine AOps.load rfl (cellsAt_ptr hbx) rfl rfl rfl ?_
    repeat (first
    | refine AOps.op rfl rfl ?_ | refine AOps.load rfl rfl rfl rfl rfl ?_ | refine AOps.nil ?_ | refine AWP.seq ?_ | refine AWP.region ?_ | refine AWP.block ?_ | refine AWP.skip ?_ | refine AWP.exit ?_ | refine AWP.scope ?_ | refine AWP.label ?_)
    refine AOps.buildSlice (els := [x.t].map tn) rfl rfl rfl ?_
    refine AOps.step rfl rfl (appT H1 hle rfl rfl (by simpa [Nat.min_eq_left i1] using i2) (by simp; omega) fun tag' H3 k1 k2 => ?_)
    have e3 : (l.take i).map It.t ++ [x.t] = (l.take (i + 1)).map It.t := by rw [List.take_add_one, hx]; simp
    rw [e3] at k1 ⊢
    repeat (first
    | refine AOps.op rfl rfl ?_ | refine AOps.load rfl rfl rfl rfl rfl ?_ | refine AOps.nil ?_ | refine AWP.seq ?_ | refine AWP.region ?_ | refine AWP.block ?_ | refine AWP.skip ?_ | refine AWP.exit ?_ | refine AWP.scope ?_ | refine AWP.label ?_)
    refine ⟨(i + 1, tag', H3), by ((try dsimp only); omega), ⟨hlt, ?_, ?_⟩, ⟨rfl, rfl, rfl, congrArg (fun x => some (AV.int .i64 x)) ei, trivial⟩, rfl, Heap.le_refl _⟩
    · simpa [Nat.min_eq_left hlt] using k1
    · exact k2.trans i3
  · have h : l.length ≤ i := by simp at h; omega
    rw [List.take_of_length_le h]
    repeat (first
    | refine AOps.op rfl rfl ?_ | refine AOps.load rfl rfl rfl rfl rfl ?_ | refine AOps.nil ?_ | refine AWP.seq ?_ | refine AWP.region ?_ | refine AWP.block ?_ | refine AWP.skip ?_ | refine AWP.exit ?_ | refine AWP.scope ?_ | refine AWP.label ?_)
    refine AOps.call rfl rfl rfl ((Large7_spec (l.map It.t) tg H1).mono ?_)
    rintro _ H2 ⟨rfl, rfl⟩
    repeat (first
    | refine AOps.op rfl rfl ?_ | refine AOps.load rfl rfl rfl rfl rfl ?_ | refine AOps.nil ?_ | refine AWP.seq ?_ | refine AWP.region ?_ | refine AWP.block ?_ | refine AWP.skip ?_ | refine AWP.exit ?_ | refine AWP.scope ?_ | refine AWP.label ?_)
    refine AWP.ret ?_
    exact ⟨_, _, rfl, rfl, i3 ▸ hbase_le _ _, rfl, rfl⟩

theorem Txns_spec (a b : List Txn) (ta tb : Tag) (ha : ∀ t ∈ a, t.writes.length < 2 ^ 40) (hb : ∀ t ∈ b, t.writes.length < 2 ^ 40) (hla : a.length < 2 ^ 40) (H : Heap) :
    ACalls Q.prog 35 [.sl (a.map tn) ta, .sl (b.map tn) tb] H fun r H' => r = .bool (decide (a = b)) ∧ H' = H := by
  refine ACalls.body (N := 27) Try.func35 rfl rfl rfl rfl ?_
  repeat (first
    | refine AOps.op rfl rfl ?_ | refine AOps.load rfl rfl rfl rfl rfl ?_ | refine AOps.nil ?_ | refine AWP.seq ?_ | refine AWP.region ?_ | refine AWP.block ?_ | refine AWP.skip ?_ | refine AWP.exit ?_ | refine AWP.scope ?_ | refine AWP.label ?_)
  refine AWP.cond rfl (fun h => ?_) (fun h => ?_)
  · have h : ¬ a = b := by
      rintro rfl
      simp at h
    repeat (first
    | refine AOps.op rfl rfl ?_ | refine AOps.load rfl rfl rfl rfl rfl ?_ | refine AOps.nil ?_ | refine AWP.seq ?_ | refine AWP.region ?_ | refine AWP.block ?_ | refine AWP.skip ?_ | refine AWP.exit ?_ | refine AWP.scope ?_ | refine AWP.label ?_)
    refine AWP.ret ?_
    refine ⟨_, _, rfl, rfl, Heap.le_refl _, ?_, rfl⟩
    exact congrArg AV.bool (decide_eq_false h).symm
  have hlen : a.length = b.length := by simp at h; omega
  repeat (first
    | refine AOps.op rfl rfl ?_ | refine AOps.load rfl rfl rfl rfl rfl ?_ | refine AOps.nil ?_ | refine AWP.seq ?_ | refine AWP.region ?_ | refine AWP.skip ?_ | refine AWP.exit ?_ | refine AWP.scope ?_ | refine AWP.label ?_)
  refine AWP.block ?_
  refine AWP.loopA (α := Nat) (fun i => i ≤ a.length ∧ a.take i = b.take i) (fun i => a.length - i)
    (fun i => [(0, .sl (a.map tn) ta), (1, .sl (b.map tn) tb), (5, .int .i64 i)]) (fun _ => []) (fun _ => H) 0 ⟨by simp, by simp⟩ ⟨rfl, rfl, rfl, trivial⟩ rfl (Heap.le_refl _) ?_
  rintro i ⟨h1, h2⟩
  repeat (first
    | refine AOps.op rfl rfl ?_ | refine AOps.load rfl rfl rfl rfl rfl ?_ | refine AOps.nil ?_ | refine AWP.seq ?_ | refine AWP.region ?_ | refine AWP.block ?_ | refine AWP.skip ?_ | refine AWP.exit ?_ | refine AWP.scope ?_ | refine AWP.label ?_)
  refine AWP.cond rfl (fun h => ?_) (fun h => ?_)
  · have h : i < a.length := by simp at h; omega
    have ei : IntKind.i64.wrap ((i : Int) + 1) = ((i + 1 : Nat) : Int) := wrap_i64 (n := i + 1) (by omega)
    obtain ⟨x, hx⟩ : ∃ x, a[i]? = some x := ⟨a[i], List.getElem?_eq_getElem h⟩
    obtain ⟨y, hy⟩ : ∃ y, b[i]? = some y := ⟨b[i]'(by omega), List.getElem?_eq_getElem _⟩
    repeat (first
    | refine AOps.op rfl rfl ?_ | refine AOps.load rfl rfl rfl rfl rfl ?_ | refine AOps.nil ?_ | refine AWP.seq ?_ | refine AWP.region ?_ | refine AWP.block ?_ | refine AWP.skip ?_ | refine AWP.exit ?_ | refine AWP.scope ?_ | refine AWP.label ?_)
    refine AWP.draw [[], [], [0, 1], [0, 1, 2], [], [], [4, 5], [4, 5, 6], [0, 1, 2, 3, 4, 5, 6, 7], [0, 1, 2, 3, 4, 5, 6, 7, 8]] [(0, .pure), (1, .pure), (2, .pure), (3, .read), (4, .pure), (5, .pure), (6, .pure), (7, .read), (8, .eff), (9, .pure)] rfl ?_
    repeat (first | refine DRun.op rfl rfl rfl ?_ | refine DRun.loadI rfl rfl rfl rfl rfl ?_ | refine DRun.load rfl rfl rfl rfl rfl rfl ?_ | refine DRun.nil ?_)
    refine DRun.indexSl rfl rfl rfl rfl rfl rfl rfl (by omega) (getD_tn hx) rfl rfl ?_
    repeat (first | refine DRun.op rfl rfl rfl ?_ | refine DRun.loadI rfl rfl rfl rfl rfl ?_ | refine DRun.load rfl rfl rfl rfl rfl rfl ?_ | refine DRun.nil ?_)
    refine DRun.indexSl rfl rfl rfl rfl rfl rfl rfl (by omega) (getD_tn hy) rfl rfl ?_
    repeat (first | refine DRun.op rfl rfl rfl ?_ | refine DRun.loadI rfl rfl rfl rfl rfl ?_ | refine DRun.load rfl rfl rfl rfl rfl rfl ?_ | refine DRun.nil ?_)
    refine DRun.eff rfl rfl rfl (OpT.callF rfl rfl ((R6Same_spec x y .no .no (ha x (List.mem_of_getElem? hx)) (hb y (List.mem_of_getElem? hy)) H).mono ?_))
    rintro _ H1 ⟨rfl, rfl⟩
    refine ⟨?_, ?_⟩
    · repeat (first | exact Chk.nil | refine Chk.pre rfl ?_ | refine Chk.load rfl rfl rfl rfl ?_)
    repeat (first | refine DRun.op rfl rfl rfl ?_ | refine DRun.loadI rfl rfl rfl rfl rfl ?_ | refine DRun.load rfl rfl rfl rfl rfl rfl ?_ | refine DRun.nil ?_)
    refine AWP.cond rfl (fun h => ?_) (fun h => ?_)
    · have h : ¬ x = y := by simpa using h
      repeat (first
    | refine AOps.op rfl rfl ?_ | refine AOps.load rfl rfl rfl rfl rfl ?_ | refine AOps.nil ?_ | refine AWP.seq ?_ | refine AWP.region ?_ | refine AWP.block ?_ | refine AWP.skip ?_ | refine AWP.exit ?_ | refine AWP.scope ?_ | refine AWP.label ?_)
      refine AWP.ret ?_
      refine ⟨_, _, rfl, rfl, Heap.le_refl _, ?_, rfl⟩
      refine congrArg AV.bool (decide_eq_false ?_).symm
      intro e
      exact h (by rw [e, hy] at hx; exact (Option.some.inj hx).symm)
    · have h : x = y := by simpa using h
      repeat (first
    | refine AOps.op rfl rfl ?_ | refine AOps.load rfl rfl rfl rfl rfl ?_ | refine AOps.nil ?_ | refine AWP.seq ?_ | refine AWP.region ?_ | refine AWP.block ?_ | refine AWP.skip ?_ | refine AWP.exit ?_ | refine AWP.scope ?_ | refine AWP.label ?_)
      exact ⟨i + 1, by omega, ⟨by omega, (take_next hx hy h2).2 h⟩, ⟨rfl, rfl, congrArg (fun x => some (AV.int .i64 x)) ei, trivial⟩, rfl, Heap.le_refl _⟩
  · have h : a.length ≤ i := by simp at h; omega
    repeat (first
    | refine AOps.op rfl rfl ?_ | refine AOps.load rfl rfl rfl rfl rfl ?_ | refine AOps.nil ?_ | refine AWP.seq ?_ | refine AWP.region ?_ | refine AWP.block ?_ | refine AWP.skip ?_ | refine AWP.exit ?_ | refine AWP.scope ?_ | refine AWP.label ?_)
    refine AWP.ret ?_
    refine ⟨_, _, rfl, rfl, Heap.le_refl _, ?_, rfl⟩
    rw [List.take_of_length_le h, List.take_of_length_le (by omega)] at h2
    simp [h2]; rfl
end Go.Proofs.Ytlbnhokhhangdaa

/- Whether rows of items are the same; whether transactions follow one another. -/
namespace Go.Proofs.Ytlbnhokhhangdaa
open Go Go.Am Go.Pk Go.Lib
set_option linter.unusedVariables false
set_option linter.unusedSimpArgs false
set_option maxRecDepth 10000
attribute [local irreducible] AOps AWP DRun ACalls

theorem Same7_spec (a b : List It) (ta tb : Tag) (ha : ∀ x ∈ a, x.t.writes.length < 2 ^ 40) (hb : ∀ x ∈ b, x.t.writes.length < 2 ^ 40) (hla : a.length < 2 ^ 40) (H : Heap) :
    ACalls Q.prog 34 [.sl (a.map iq) ta, .sl (b.map iq) tb] H fun r H' => r = .bool (decide (a = b)) ∧ H' = H := by
  refine ACalls.body (N := 42) Try.func34 rfl rfl rfl rfl ?_
  repeat (first
    | refine AOps.op rfl rfl ?_ | refine AOps.load rfl rfl rfl rfl rfl ?_ | refine AOps.nil ?_ | refine AWP.seq ?_ | refine AWP.region ?_ | refine AWP.block ?_ | refine AWP.skip ?_ | refine AWP.exit ?_ | refine AWP.scope ?_ | refine AWP.label ?_)
  refine AWP.cond rfl (fun h => ?_) (fun h => ?_)
  · have h : ¬ a = b := by
      rintro rfl
      simp at h
    repeat (first
    | refine AOps.op rfl rfl ?_ | refine AOps.load rfl rfl rfl rfl rfl ?_ | refine AOps.nil ?_ | refine AWP.seq ?_ | refine AWP.region ?_ | refine AWP.block ?_ | refine AWP.skip ?_ | refine AWP.exit ?_ | refine AWP.scope ?_ | refine AWP.label ?_)
    refine AWP.ret ?_
    refine ⟨_, _, rfl, rfl, Heap.le_refl _, ?_, rfl⟩
    exact congrArg AV.bool (decide_eq_false h).symm
  have hlen : a.length = b.length := by simp at h; omega
  repeat (first
    | refine AOps.op rfl rfl ?_ | refine AOps.load rfl rfl rfl rfl rfl ?_ | refine AOps.nil ?_ | refine AWP.seq ?_ | refine AWP.region ?_ | refine AWP.skip ?_ | refine AWP.exit ?_ | refine AWP.scope ?_ | refine AWP.label ?_)
  refine AWP.block ?_
  refine AWP.loopA (α := Nat) (fun i => i ≤ a.length ∧ a.take i = b.take i) (fun i => a.length - i)
    (fun i => [(0, .sl (a.map iq) ta), (1, .sl (b.map iq) tb), (5, .int .i64 i)]) (fun _ => []) (fun _ => H) 0 ⟨by simp, by simp⟩ ⟨rfl, rfl, rfl, trivial⟩ rfl (Heap.le_refl _) ?_
  rintro i ⟨h1, h2⟩
  repeat (first
    | refine AOps.op rfl rfl ?_ | refine AOps.load rfl rfl rfl rfl rfl ?_ | refine AOps.nil ?_ | refine AWP.seq ?_ | refine AWP.region ?_ | refine AWP.block ?_ | refine AWP.skip ?_ | refine AWP.exit ?_ | refine AWP.scope ?_ | refine AWP.label ?_)
  refine AWP.cond rfl (fun h => ?_) (fun h => ?_)
  · have h : i < a.length := by simp at h; omega
    have ei : IntKind.i64.wrap ((i : Int) + 1) = ((i + 1 : Nat) : Int) := wrap_i64 (n := i + 1) (by omega)
    obtain ⟨x, hx⟩ : ∃ x, a[i]? = some x := ⟨a[i], List.getElem?_eq_getElem h⟩
    obtain ⟨y, hy⟩ : ∃ y, b[i]? = some y := ⟨b[i]'(by omega), List.getElem?_eq_getElem _⟩
    have hne : ¬ x = y → ¬ a = b := fun h e => h (by rw [e, hy] at hx; exact (Option.some.inj hx).symm)
    have hnext : x = y → i + 1 ≤ a.length ∧ a.take (i + 1) = b.take (i + 1) := fun h => ⟨by omega, (take_next hx hy h2).2 h⟩
    have hxw := ha x (List.mem_of_getElem? hx)
    have hyw := hb y (List.mem_of_getElem? hy)
    have gx := getD_iq hx
    have gy := getD_iq hy
    clear hx hy
    obtain ⟨rx, t⟩ := x
    obtain ⟨ry, u⟩ := y
    simp only at hxw hyw
    repeat (first
    | refine AOps.op rfl rfl ?_ | refine AOps.load rfl rfl rfl rfl rfl ?_ | refine AOps.nil ?_ | refine AWP.seq ?_ | refine AWP.region ?_ | refine AWP.block ?_ | refine AWP.skip ?_ | refine AWP.exit ?_ | refine AWP.scope ?_ | refine AWP.label ?_)
    cases rx <;> cases ry
    · refine AWP.draw [[], [], [0, 1], [0, 1, 2], [0, 1, 2, 3], [], [], [5, 6], [5, 6, 7], [5, 6, 7, 8], [0, 1, 2, 3, 4, 5, 6, 7, 8, 9], [0, 1, 2, 3, 4, 5, 6, 7, 8, 9, 10], [0, 1, 2, 3, 4, 5, 6, 7, 8, 9, 10, 11], [0, 1, 2, 3, 4, 5, 6, 7, 8, 9, 10, 11], [0, 1, 2, 3, 4, 5, 6, 7, 8, 9, 10, 11, 12, 13], [0, 1, 2, 3, 4, 5, 6, 7, 8, 9, 10, 11, 12, 13, 14], [0, 1, 2, 3, 4, 5, 6, 7, 8, 9, 10, 11, 12, 13, 14, 15], [0, 1, 2, 3, 4, 5, 6, 7, 8, 9, 10, 11], [0, 1, 2, 3, 4, 5, 6, 7, 8, 9, 10, 11], [0, 1, 2, 3, 4, 5, 6, 7, 8, 9, 10, 11, 17, 18], [0, 1, 2, 3, 4, 5, 6, 7, 8, 9, 10, 11, 17, 18, 19], [0, 1, 2, 3, 4, 5, 6, 7, 8, 9, 10, 11, 17, 18, 19, 20], [0, 1, 2, 3, 4, 5, 6, 7, 8, 9, 10, 11, 12, 13, 14, 15, 16, 17, 18, 19, 20, 21], [0, 1, 2, 3, 4, 5, 6, 7, 8, 9, 10, 11, 12, 13, 14, 15, 16, 17, 18, 19, 20, 21, 22], [0, 1, 2, 3, 4, 5, 6, 7, 8, 9, 10, 11, 12, 13, 14, 15, 16, 17, 18, 19, 20, 21, 22, 23]] [(0, .pure), (1, .pure), (2, .pure), (3, .pure), (4, .read), (5, .pure), (6, .pure), (7, .pure), (8, .pure), (9, .read), (10, .pure), (11, .pure), (12, .pure), (13, .pure), (14, .pure), (15, .pure), (16, .read), (17, .pure), (18, .pure), (19, .pure), (20, .pure), (21, .read), (22, .pure), (23, .pure), (24, .pure)] rfl ?_
      repeat (first | refine DRun.op rfl rfl rfl ?_ | refine DRun.loadI rfl rfl rfl rfl rfl ?_ | refine DRun.load rfl rfl rfl rfl rfl rfl ?_ | refine DRun.nil ?_)
      refine DRun.indexSl rfl rfl rfl rfl rfl rfl rfl (by omega) gx rfl rfl ?_
      repeat (first | refine DRun.op rfl rfl rfl ?_ | refine DRun.loadI rfl rfl rfl rfl rfl ?_ | refine DRun.load rfl rfl rfl rfl rfl rfl ?_ | refine DRun.opG rfl rfl rfl rfl rfl ?_ | refine DRun.loadG rfl rfl rfl rfl rfl rfl rfl rfl ?_ | refine DRun.nil ?_)
      refine DRun.indexSl rfl rfl rfl rfl rfl rfl rfl (by omega) gy rfl rfl ?_
      repeat (first | refine DRun.op rfl rfl rfl ?_ | refine DRun.loadI rfl rfl rfl rfl rfl ?_ | refine DRun.load rfl rfl rfl rfl rfl rfl ?_ | refine DRun.opG rfl rfl rfl rfl rfl ?_ | refine DRun.loadG rfl rfl rfl rfl rfl rfl rfl rfl ?_ | refine DRun.nil ?_)
      refine DRun.pureG rfl rfl rfl rfl rfl (fun loc H => OpT.indexSl rfl rfl rfl rfl rfl (by omega) gx rfl rfl ⟨rfl, rfl, rfl⟩) ?_
      repeat (first | refine DRun.op rfl rfl rfl ?_ | refine DRun.loadI rfl rfl rfl rfl rfl ?_ | refine DRun.load rfl rfl rfl rfl rfl rfl ?_ | refine DRun.opG rfl rfl rfl rfl rfl ?_ | refine DRun.loadG rfl rfl rfl rfl rfl rfl rfl rfl ?_ | refine DRun.nil ?_)
      refine DRun.pureG rfl rfl rfl rfl rfl (fun loc H => OpT.indexSl rfl rfl rfl rfl rfl (by omega) gy rfl rfl ⟨rfl, rfl, rfl⟩) ?_
      repeat (first | refine DRun.op rfl rfl rfl ?_ | refine DRun.loadI rfl rfl rfl rfl rfl ?_ | refine DRun.load rfl rfl rfl rfl rfl rfl ?_ | refine DRun.opG rfl rfl rfl rfl rfl ?_ | refine DRun.loadG rfl rfl rfl rfl rfl rfl rfl rfl ?_ | refine DRun.nil ?_)
      refine DRun.pureG rfl rfl rfl rfl rfl (fun loc H => OpT.callF rfl rfl ((R6Same_spec t u .no .no hxw hyw H).mono fun r' H' e => ⟨e.1, rfl, e.2⟩)) ?_
      repeat (first | refine DRun.op rfl rfl rfl ?_ | refine DRun.loadI rfl rfl rfl rfl rfl ?_ | refine DRun.load rfl rfl rfl rfl rfl rfl ?_ | refine DRun.opG rfl rfl rfl rfl rfl ?_ | refine DRun.loadG rfl rfl rfl rfl rfl rfl rfl rfl ?_ | refine DRun.nil ?_)
      refine AWP.cond rfl (fun h => ?_) (fun h => ?_)
      · have h : ¬ t = u := by simpa using h
        repeat (first
    | refine AOps.op rfl rfl ?_ | refine AOps.load rfl rfl rfl rfl rfl ?_ | refine AOps.nil ?_ | refine AWP.seq ?_ | refine AWP.region ?_ | refine AWP.block ?_ | refine AWP.skip ?_ | refine AWP.exit ?_ | refine AWP.scope ?_ | refine AWP.label ?_)
        refine AWP.ret ?_
        refine ⟨_, _, rfl, rfl, Heap.le_refl _, ?_, rfl⟩
        exact congrArg AV.bool (decide_eq_false (hne (fun e => h (by injection e)))).symm
      · have h : t = u := by simpa using h
        repeat (first
    | refine AOps.op rfl rfl ?_ | refine AOps.load rfl rfl rfl rfl rfl ?_ | refine AOps.nil ?_ | refine AWP.seq ?_ | refine AWP.region ?_ | refine AWP.block ?_ | refine AWP.skip ?_ | refine AWP.exit ?_ | refine AWP.scope ?_ | refine AWP.label ?_)
        exact ⟨i + 1, by omega, hnext (by rw [h]), ⟨rfl, rfl, congrArg (fun x => some (AV.int .i64 x)) ei, trivial⟩, rfl, Heap.le_refl _⟩
    · refine AWP.draw [[], [], [0, 1], [0, 1, 2], [0, 1, 2, 3], [], [], [5, 6], [5, 6, 7], [5, 6, 7, 8], [0, 1, 2, 3, 4, 5, 6, 7, 8, 9], [0, 1, 2, 3, 4, 5, 6, 7, 8, 9, 10], [0, 1, 2, 3, 4, 5, 6, 7, 8, 9, 10, 11], [0, 1, 2, 3, 4, 5, 6, 7, 8, 9, 10, 11], [0, 1, 2, 3, 4, 5, 6, 7, 8, 9, 10, 11, 12, 13], [0, 1, 2, 3, 4, 5, 6, 7, 8, 9, 10, 11, 12, 13, 14], [0, 1, 2, 3, 4, 5, 6, 7, 8, 9, 10, 11, 12, 13, 14, 15], [0, 1, 2, 3, 4, 5, 6, 7, 8, 9, 10, 11], [0, 1, 2, 3, 4, 5, 6, 7, 8, 9, 10, 11], [0, 1, 2, 3, 4, 5, 6, 7, 8, 9, 10, 11, 17, 18], [0, 1, 2, 3, 4, 5, 6, 7, 8, 9, 10, 11, 17, 18, 19], [0, 1, 2, 3, 4, 5, 6, 7, 8, 9, 10, 11, 17, 18, 19, 20], [0, 1, 2, 3, 4, 5, 6, 7, 8, 9, 10, 11, 12, 13, 14, 15, 16, 17, 18, 19, 20, 21], [0, 1, 2, 3, 4, 5, 6, 7, 8, 9, 10, 11, 12, 13, 14, 15, 16, 17, 18, 19, 20, 21, 22], [0, 1, 2, 3, 4, 5, 6, 7, 8, 9, 10, 11, 12, 13, 14, 15, 16, 17, 18, 19, 20, 21, 22, 23]] [(0, .pure), (1, .pure), (2, .pure), (3, .pure), (4, .read), (5, .pure), (6, .pure), (7, .pure), (8, .pure), (9, .read), (10, .pure), (11, .pure), (12, .pure), (13, .pure), (14, .pure), (15, .pure), (16, .read), (17, .pure), (18, .pure), (19, .pure), (20, .pure), (21, .read), (22, .pure), (23, .pure), (24, .pure)] rfl ?_
      repeat (first | refine DRun.op rfl rfl rfl ?_ | refine DRun.loadI rfl rfl rfl rfl rfl ?_ | refine DRun.load rfl rfl rfl rfl rfl rfl ?_ | refine DRun.nil ?_)
      refine DRun.indexSl rfl rfl rfl rfl rfl rfl rfl (by omega) gx rfl rfl ?_
      repeat (first | refine DRun.op rfl rfl rfl ?_ | refine DRun.loadI rfl rfl rfl rfl rfl ?_ | refine DRun.load rfl rfl rfl rfl rfl rfl ?_ | refine DRun.nil ?_)
      refine DRun.indexSl rfl rfl rfl rfl rfl rfl rfl (by omega) gy rfl rfl ?_
      repeat (first | refine DRun.op rfl rfl rfl ?_ | refine DRun.loadI rfl rfl rfl rfl rfl ?_ | refine DRun.load rfl rfl rfl rfl rfl rfl ?_ | refine DRun.nil ?_)
      repeat (first | refine DRun.skipG rfl rfl rfl rfl rfl ?_ | refine DRun.skipGr rfl rfl rfl rfl rfl ?_)
      repeat (first | refine DRun.op rfl rfl rfl ?_ | refine DRun.loadI rfl rfl rfl rfl rfl ?_ | refine DRun.load rfl rfl rfl rfl rfl rfl ?_ | refine DRun.nil ?_)
      refine AWP.cond rfl (fun h => ?_) (fun h => absurd h (by simp))
      · repeat (first
    | refine AOps.op rfl rfl ?_ | refine AOps.load rfl rfl rfl rfl rfl ?_ | refine AOps.nil ?_ | refine AWP.seq ?_ | refine AWP.region ?_ | refine AWP.block ?_ | refine AWP.skip ?_ | refine AWP.exit ?_ | refine AWP.scope ?_ | refine AWP.label ?_)
        refine AWP.ret ?_
        refine ⟨_, _, rfl, rfl, Heap.le_refl _, ?_, rfl⟩
        exact congrArg AV.bool (decide_eq_false (hne (fun e => by injection e; contradiction))).symm
    · refine AWP.draw [[], [], [0, 1], [0, 1, 2], [0, 1, 2, 3], [], [], [5, 6], [5, 6, 7], [5, 6, 7, 8], [0, 1, 2, 3, 4, 5, 6, 7, 8, 9], [0, 1, 2, 3, 4, 5, 6, 7, 8, 9, 10], [0, 1, 2, 3, 4, 5, 6, 7, 8, 9, 10, 11], [0, 1, 2, 3, 4, 5, 6, 7, 8, 9, 10, 11], [0, 1, 2, 3, 4, 5, 6, 7, 8, 9, 10, 11, 12, 13], [0, 1, 2, 3, 4, 5, 6, 7, 8, 9, 10, 11, 12, 13, 14], [0, 1, 2, 3, 4, 5, 6, 7, 8, 9, 10, 11, 12, 13, 14, 15], [0, 1, 2, 3, 4, 5, 6, 7, 8, 9, 10, 11], [0, 1, 2, 3, 4, 5, 6, 7, 8, 9, 10, 11], [0, 1, 2, 3, 4, 5, 6, 7, 8, 9, 10, 11, 17, 18], [0, 1, 2, 3, 4, 5, 6, 7, 8, 9, 10, 11, 17, 18, 19], [0, 1, 2, 3, 4, 5, 6, 7, 8, 9, 10, 11, 17, 18, 19, 20], [0, 1, 2, 3, 4, 5, 6, 7, 8, 9, 10, 11, 12, 13, 14, 15, 16, 17, 18, 19, 20, 21], [0, 1, 2, 3, 4, 5, 6, 7, 8, 9, 10, 11, 12, 13, 14, 15, 16, 17, 18, 19, 20, 21, 22], [0, 1, 2, 3, 4, 5, 6, 7, 8, 9, 10, 11, 12, 13, 14, 15, 16, 17, 18, 19, 20, 21, 22, 23]] [(0, .pure), (1, .pure), (2, .pure), (3, .pure), (4, .read), (5, .pure), (6, .pure), (7, .pure), (8, .pure), (9, .read), (10, .pure), (11, .pure), (12, .pure), (13, .pure), (14, .pure), (15, .pure), (16, .read), (17, .pure), (18, .pure), (19, .pure), (20, .pure), (21, .read), (22, .pure), (23, .pure), (24, .pure)] rfl ?_
      repeat (first | refine DRun.op rfl rfl rfl ?_ | refine DRun.loadI rfl rfl rfl rfl rfl ?_ | refine DRun.load rfl rfl rfl rfl rfl rfl ?_ | refine DRun.nil ?_)
      refine DRun.indexSl rfl rfl rfl rfl rfl rfl rfl (by omega) gx rfl rfl ?_
      repeat (first | refine DRun.op rfl rfl rfl ?_ | refine DRun.loadI rfl rfl rfl rfl rfl ?_ | refine DRun.load rfl rfl rfl rfl rfl rfl ?_ | refine DRun.nil ?_)
      refine DRun.indexSl rfl rfl rfl rfl rfl rfl rfl (by omega) gy rfl rfl ?_
      repeat (first | refine DRun.op rfl rfl rfl ?_ | refine DRun.loadI rfl rfl rfl rfl rfl ?_ | refine DRun.load rfl rfl rfl rfl rfl rfl ?_ | refine DRun.nil ?_)
      repeat (first | refine DRun.skipG rfl rfl rfl rfl rfl ?_ | refine DRun.skipGr rfl rfl rfl rfl rfl ?_)
      repeat (first | refine DRun.op rfl rfl rfl ?_ | refine DRun.loadI rfl rfl rfl rfl rfl ?_ | refine DRun.load rfl rfl rfl rfl rfl rfl ?_ | refine DRun.nil ?_)
      refine AWP.cond rfl (fun h => ?_) (fun h => absurd h (by simp))
      · repeat (first
    | refine AOps.op rfl rfl ?_ | refine AOps.load rfl rfl rfl rfl rfl ?_ | refine AOps.nil ?_ | refine AWP.seq ?_ | refine AWP.region ?_ | refine AWP.block ?_ | refine AWP.skip ?_ | refine AWP.exit ?_ | refine AWP.scope ?_ | refine AWP.label ?_)
        refine AWP.ret ?_
        refine ⟨_, _, rfl, rfl, Heap.le_refl _, ?_, rfl⟩
        exact congrArg AV.bool (decide_eq_false (hne (fun e => by injection e; contradiction))).symm
    · refine AWP.draw [[], [], [0, 1], [0, 1, 2], [0, 1, 2, 3], [], [], [5, 6], [5, 6, 7], [5, 6, 7, 8], [0, 1, 2, 3, 4, 5, 6, 7, 8, 9], [0, 1, 2, 3, 4, 5, 6, 7, 8, 9, 10], [0, 1, 2, 3, 4, 5, 6, 7, 8, 9, 10, 11], [0, 1, 2, 3, 4, 5, 6, 7, 8, 9, 10, 11], [0, 1, 2, 3, 4, 5, 6, 7, 8, 9, 10, 11, 12, 13], [0, 1, 2, 3, 4, 5, 6, 7, 8, 9, 10, 11, 12, 13, 14], [0, 1, 2, 3, 4, 5, 6, 7, 8, 9, 10, 11, 12, 13, 14, 15], [0, 1, 2, 3, 4, 5, 6, 7, 8, 9, 10, 11], [0, 1, 2, 3, 4, 5, 6, 7, 8, 9, 10, 11], [0, 1, 2, 3, 4, 5, 6, 7, 8, 9, 10, 11, 17, 18], [0, 1, 2, 3, 4, 5, 6, 7, 8, 9, 10, 11, 17, 18, 19], [0, 1, 2, 3, 4, 5, 6, 7, 8, 9, 10, 11, 17, 18, 19, 20], [0, 1, 2, 3, 4, 5, 6, 7, 8, 9, 10, 11, 12, 13, 14, 15, 16, 17, 18, 19, 20, 21], [0, 1, 2, 3, 4, 5, 6, 7, 8, 9, 10, 11, 12, 13, 14, 15, 16, 17, 18, 19, 20, 21, 22], [0, 1, 2, 3, 4, 5, 6, 7, 8, 9, 10, 11, 12, 13, 14, 15, 16, 17, 18, 19, 20, 21, 22, 23]] [(0, .pure), (1, .pure), (2, .pure), (3, .pure), (4, .read), (5, .pure), (6, .pure), (7, .pure), (8, .pure), (9, .read), (10, .pure), (11, .pure), (12, .pure), (13, .pure), (14, .pure), (15, .pure), (16, .read), (17, .pure), (18, .pure), (19, .pure), (20, .pure), (21, .read), (22, .pure), (23, .pure), (24, .pure)] rfl ?_
      repeat (first | refine DRun.op rfl rfl rfl ?_ | refine DRun.loadI rfl rfl rfl rfl rfl ?_ | refine DRun.load rfl rfl rfl rfl rfl rfl ?_ | refine DRun.nil ?_)
      refine DRun.indexSl rfl rfl rfl rfl rfl rfl rfl (by omega) gx rfl rfl ?_
      repeat (first | refine DRun.op rfl rfl rfl ?_ | refine DRun.loadI rfl rfl rfl rfl rfl ?_ | refine DRun.load rfl rfl rfl rfl rfl rfl ?_ | refine DRun.opG rfl rfl rfl rfl rfl ?_ | refine DRun.loadG rfl rfl rfl rfl rfl rfl rfl rfl ?_ | refine DRun.nil ?_)
      refine DRun.indexSl rfl rfl rfl rfl rfl rfl rfl (by omega) gy rfl rfl ?_
      repeat (first | refine DRun.op rfl rfl rfl ?_ | refine DRun.loadI rfl rfl rfl rfl rfl ?_ | refine DRun.load rfl rfl rfl rfl rfl rfl ?_ | refine DRun.opG rfl rfl rfl rfl rfl ?_ | refine DRun.loadG rfl rfl rfl rfl rfl rfl rfl rfl ?_ | refine DRun.nil ?_)
      refine DRun.pureG rfl rfl rfl rfl rfl (fun loc H => OpT.indexSl rfl rfl rfl rfl rfl (by omega) gx rfl rfl ⟨rfl, rfl, rfl⟩) ?_
      repeat (first | refine DRun.op rfl rfl rfl ?_ | refine DRun.loadI rfl rfl rfl rfl rfl ?_ | refine DRun.load rfl rfl rfl rfl rfl rfl ?_ | refine DRun.opG rfl rfl rfl rfl rfl ?_ | refine DRun.loadG rfl rfl rfl rfl rfl rfl rfl rfl ?_ | refine DRun.nil ?_)
      refine DRun.pureG rfl rfl rfl rfl rfl (fun loc H => OpT.indexSl rfl rfl rfl rfl rfl (by omega) gy rfl rfl ⟨rfl, rfl, rfl⟩) ?_
      repeat (first | refine DRun.op rfl rfl rfl ?_ | refine DRun.loadI rfl rfl rfl rfl rfl ?_ | refine DRun.load rfl rfl rfl rfl rfl rfl ?_ | refine DRun.opG rfl rfl rfl rfl rfl ?_ | refine DRun.loadG rfl rfl rfl rfl rfl rfl rfl rfl ?_ | refine DRun.nil ?_)
      refine DRun.pureG rfl rfl rfl rfl rfl (fun loc H => OpT.callF rfl rfl ((R6Same_spec t u .no .no hxw hyw H).mono fun r' H' e => ⟨e.1, rfl, e.2⟩)) ?_
      repeat (first | refine DRun.op rfl rfl rfl ?_ | refine DRun.loadI rfl rfl rfl rfl rfl ?_ | refine DRun.load rfl rfl rfl rfl rfl rfl ?_ | refine DRun.opG rfl rfl rfl rfl rfl ?_ | refine DRun.loadG rfl rfl rfl rfl rfl rfl rfl rfl ?_ | refine DRun.nil ?_)
      refine AWP.cond rfl (fun h => ?_) (fun h => ?_)
      · have h : ¬ t = u := by simpa using h
        repeat (first
    | refine AOps.op rfl rfl ?_ | refine AOps.load rfl rfl rfl rfl rfl ?_ | refine AOps.nil ?_ | refine AWP.seq ?_ | refine AWP.region ?_ | refine AWP.block ?_ | refine AWP.skip ?_ | refine AWP.exit ?_ | refine AWP.scope ?_ | refine AWP.label ?_)
        refine AWP.ret ?_
        refine ⟨_, _, rfl, rfl, Heap.le_refl _, ?_, rfl⟩
        exact congrArg AV.bool (decide_eq_false (hne (fun e => h (by injection e)))).symm
      · have h : t = u := by simpa using h
        repeat (first
    | refine AOps.op rfl rfl ?_ | refine AOps.load rfl rfl rfl rfl rfl ?_ | refine AOps.nil ?_ | refine AWP.seq ?_ | refine AWP.region ?_ | refine AWP.block ?_ | refine AWP.skip ?_ | refine AWP.exit ?_ | refine AWP.scope ?_ | refine AWP.label ?_)
        exact ⟨i + 1, by omega, hnext (by rw [h]), ⟨rfl, rfl, congrArg (fun x => some (AV.int .i64 x)) ei, trivial⟩, rfl, Heap.le_refl _⟩
  · have h : a.length ≤ i := by simp at h; omega
    repeat (first
    | refine AOps.op rfl rfl ?_ | refine AOps.load rfl rfl rfl rfl rfl ?_ | refine AOps.nil ?_ | refine AWP.seq ?_ | refine AWP.region ?_ | refine AWP.block ?_ | refine AWP.skip ?_ | refine AWP.exit ?_ | refine AWP.scope ?_ | refine AWP.label ?_)
    refine AWP.ret ?_
    refine ⟨_, _, rfl, rfl, Heap.le_refl _, ?_, rfl⟩
    rw [List.take_of_length_le h, List.take_of_length_le (by omega)] at h2
    simp [h2]; rfl

theorem rowB_no {l : List Txn} {f : List Txn → Nat → Bool} {i : Nat} (hi : i + 1 < l.length) (h : f l i = false) : (List.range (l.length - 1)).all (f l) = false := by
  rw [List.all_eq_false]
  exact ⟨i, by simp; omega, by simp [h]⟩

theorem rowB_yes {l : List Txn} {f : List Txn → Nat → Bool} {i : Nat} (hi : l.length ≤ i + 1) (h : ∀ j, j < i → f l j = true) : (List.range (l.length - 1)).all (f l) = true := by
  rw [List.all_eq_true]
  intro j hj
  exact h j (by simp at hj; omega)

set_option maxHeartbeats 1000000 in
theorem Row_spec (l : List Txn) (tag : Tag) (hl : l.length < 2 ^ 40) (hs : ∀ t ∈ l, -(2 ^ 63) ≤ t.seq ∧ t.seq < 2 ^ 63) (H : Heap) :
    ACalls Q.prog 36 [.sl (l.map tn) tag] H fun r H' => r = .bool (rowB l) ∧ H' = H := by
  refine ACalls.body (N := 51) Try.func36 rfl rfl rfl rfl ?_
  repeat (first
    | refine AOps.op rfl rfl ?_ | refine AOps.load rfl rfl rfl rfl rfl ?_ | refine AOps.nil ?_ | refine AWP.seq ?_ | refine AWP.region ?_ | refine AWP.skip ?_ | refine AWP.exit ?_ | refine AWP.scope ?_ | refine AWP.label ?_)
  refine AWP.block ?_
  refine AWP.loopA (α := Nat) (fun i => i + 1 ≤ max l.length 1 ∧ ∀ j, j < i → rowOkAt l j = true) (fun i => l.length - i)
    (fun i => [(0, .sl (l.map tn) tag), (3, .int .i64 (i + 1 : Nat))]) (fun _ => []) (fun _ => H) 0 ⟨by omega, fun j hj => absurd hj (by omega)⟩ ⟨rfl, rfl, trivial⟩ rfl (Heap.le_refl _) ?_
  rintro i ⟨i1, i2⟩
  repeat (first
    | refine AOps.op rfl rfl ?_ | refine AOps.load rfl rfl rfl rfl rfl ?_ | refine AOps.nil ?_ | refine AWP.seq ?_ | refine AWP.region ?_ | refine AWP.block ?_ | refine AWP.skip ?_ | refine AWP.exit ?_ | refine AWP.scope ?_ | refine AWP.label ?_)
  refine AWP.cond rfl (fun h => ?_) (fun h => ?_)
  · have hlt : i + 1 < l.length := by simp at h; omega
    have ei : IntKind.i64.wrap (((i + 1 : Nat) : Int) + 1) = ((i + 1 + 1 : Nat) : Int) := wrap_i64 (n := i + 1 + 1) (by omega)
    have em : IntKind.i64.wrap (((i + 1 : Nat) : Int) - 1) = ((i : Nat) : Int) := by rw [show ((i + 1 : Nat) : Int) - 1 = ((i : Nat) : Int) by omega]; exact wrap_i64 (n := i) (by omega)
    obtain ⟨x, hx⟩ : ∃ x, l[i]? = some x := ⟨l[i], List.getElem?_eq_getElem (by omega)⟩
    obtain ⟨y, hy⟩ : ∃ y, l[i + 1]? = some y := ⟨l[i + 1], List.getElem?_eq_getElem hlt⟩
    obtain ⟨z, hz⟩ : ∃ z, l[0]? = some z := ⟨l[0], List.getElem?_eq_getElem (by omega)⟩
    have hxs := hs x (List.mem_of_getElem? hx)
    have hys := hs y (List.mem_of_getElem? hy)
    have gx := getD_tn hx
    have gy := getD_tn hy
    have gz : (l.map tn)[((0 : Int)).toNat]? = some (tn z) := getD_tn (i := 0) hz
    have hrow : rowOkAt l i = (decide (y.origin = x.origin) && (decide (x.seq < y.seq) && decide (y.seq = x.seq + 1))) := by simp only [rowOkAt, hx, hy, hz]
    have no : rowOkAt l i = false → (AV.bool false) = .bool (rowB l) := fun h => congrArg AV.bool (rowB_no (f := rowOkAt) hlt h).symm
    clear hx hy hz
    repeat (first
    | refine AOps.op rfl rfl ?_ | refine AOps.load rfl rfl rfl rfl rfl ?_ | refine AOps.nil ?_ | refine AWP.seq ?_ | refine AWP.region ?_ | refine AWP.block ?_ | refine AWP.skip ?_ | refine AWP.exit ?_ | refine AWP.scope ?_ | refine AWP.label ?_)
    refine AWP.draw [[], [], [0, 1], [0, 1, 2], [0, 1, 2, 3], [], [], [6], [5, 6, 7], [5, 6, 7, 8], [5, 6, 7, 8, 9], [0, 1, 2, 3, 4, 5, 6, 7, 8, 9, 10], [0, 1, 2, 3, 4, 5, 6, 7, 8, 9, 10, 11], [0, 1, 2, 3, 4, 5, 6, 7, 8, 9, 10, 11, 12], [0, 1, 2, 3, 4, 5, 6, 7, 8, 9, 10, 11, 12], [0, 1, 2, 3, 4, 5, 6, 7, 8, 9, 10, 11, 12, 13, 14], [0, 1, 2, 3, 4, 5, 6, 7, 8, 9, 10, 11, 12, 13, 14, 15], [0, 1, 2, 3, 4, 5, 6, 7, 8, 9, 10, 11, 12, 13, 14, 15, 16], [0, 1, 2, 3, 4, 5, 6, 7, 8, 9, 10, 11, 12], [0, 1, 2, 3, 4, 5, 6, 7, 8, 9, 10, 11, 12], [0, 1, 2, 3, 4, 5, 6, 7, 8, 9, 10, 11, 12, 19], [0, 1, 2, 3, 4, 5, 6, 7, 8, 9, 10, 11, 12, 18, 19, 20], [0, 1, 2, 3, 4, 5, 6, 7, 8, 9, 10, 11, 12, 18, 19, 20, 21], [0, 1, 2, 3, 4, 5, 6, 7, 8, 9, 10, 11, 12, 18, 19, 20, 21, 22], [0, 1, 2, 3, 4, 5, 6, 7, 8, 9, 10, 11, 12, 13, 14, 15, 16, 17, 18, 19, 20, 21, 22, 23], [0, 1, 2, 3, 4, 5, 6, 7, 8, 9, 10, 11, 12, 13, 14, 15, 16, 17, 18, 19, 20, 21, 22, 23, 24], [0, 1, 2, 3, 4, 5, 6, 7, 8, 9, 10, 11, 12, 13, 14, 15, 16, 17, 18, 19, 20, 21, 22, 23, 24, 25], [0, 1, 2, 3, 4, 5, 6, 7, 8, 9, 10, 11, 12, 13, 14, 15, 16, 17, 18, 19, 20, 21, 22, 23, 24, 25, 26], [0, 1, 2, 3, 4, 5, 6, 7, 8, 9, 10, 11, 12, 13, 14, 15, 16, 17, 18, 19, 20, 21, 22, 23, 24, 25, 26], [0, 1, 2, 3, 4, 5, 6, 7, 8, 9, 10, 11, 12, 13, 14, 15, 16, 17, 18, 19, 20, 21, 22, 23, 24, 25, 26, 27, 28], [0, 1, 2, 3, 4, 5, 6, 7, 8, 9, 10, 11, 12, 13, 14, 15, 16, 17, 18, 19, 20, 21, 22, 23, 24, 25, 26, 27, 28, 29], [0, 1, 2, 3, 4, 5, 6, 7, 8, 9, 10, 11, 12, 13, 14, 15, 16, 17, 18, 19, 20, 21, 22, 23, 24, 25, 26, 27, 28, 29, 30], [0, 1, 2, 3, 4, 5, 6, 7, 8, 9, 10, 11, 12, 13, 14, 15, 16, 17, 18, 19, 20, 21, 22, 23, 24, 25, 26, 27, 28, 29, 30, 31], [0, 1, 2, 3, 4, 5, 6, 7, 8, 9, 10, 11, 12, 13, 14, 15, 16, 17, 18, 19, 20, 21, 22, 23, 24, 25, 26], [0, 1, 2, 3, 4, 5, 6, 7, 8, 9, 10, 11, 12, 13, 14, 15, 16, 17, 18, 19, 20, 21, 22, 23, 24, 25, 26], [0, 1, 2, 3, 4, 5, 6, 7, 8, 9, 10, 11, 12, 13, 14, 15, 16, 17, 18, 19, 20, 21, 22, 23, 24, 25, 26, 34], [0, 1, 2, 3, 4, 5, 6, 7, 8, 9, 10, 11, 12, 13, 14, 15, 16, 17, 18, 19, 20, 21, 22, 23, 24, 25, 26, 33, 34, 35], [0, 1, 2, 3, 4, 5, 6, 7, 8, 9, 10, 11, 12, 13, 14, 15, 16, 17, 18, 19, 20, 21, 22, 23, 24, 25, 26, 33, 34, 35, 36], [0, 1, 2, 3, 4, 5, 6, 7, 8, 9, 10, 11, 12, 13, 14, 15, 16, 17, 18, 19, 20, 21, 22, 23, 24, 25, 26, 33, 34, 35, 36, 37], [0, 1, 2, 3, 4, 5, 6, 7, 8, 9, 10, 11, 12, 13, 14, 15, 16, 17, 18, 19, 20, 21, 22, 23, 24, 25, 26, 27, 28, 29, 30, 31, 32, 33, 34, 35, 36, 37, 38], [0, 1, 2, 3, 4, 5, 6, 7, 8, 9, 10, 11, 12, 13, 14, 15, 16, 17, 18, 19, 20, 21, 22, 23, 24, 25, 26, 27, 28, 29, 30, 31, 32, 33, 34, 35, 36, 37, 38, 39]] [(0, .pure), (1, .pure), (2, .pure), (3, .pure), (4, .read), (5, .pure), (6, .pure), (7, .pure), (8, .pure), (9, .pure), (10, .read), (11, .pure), (12, .pure), (13, .pure), (14, .pure), (15, .pure), (16, .pure), (17, .read), (18, .pure), (19, .pure), (20, .pure), (21, .pure), (22, .pure), (23, .read), (24, .pure), (25, .pure), (26, .pure), (27, .pure), (28, .pure), (29, .pure), (30, .pure), (31, .read), (32, .pure), (33, .pure), (34, .pure), (35, .pure), (36, .pure), (37, .pure), (38, .read), (39, .pure), (40, .pure)] (by kernel_rfl) ?_
    repeat (first | refine DRun.op rfl rfl rfl ?_ | refine DRun.loadI rfl rfl rfl rfl rfl ?_ | refine DRun.load rfl rfl rfl rfl rfl rfl ?_ | refine DRun.nil ?_)
    refine DRun.indexSl rfl rfl rfl rfl rfl rfl rfl (by omega) gy rfl rfl ?_
    repeat (first | refine DRun.op rfl rfl rfl ?_ | refine DRun.loadI rfl rfl rfl rfl rfl ?_ | refine DRun.load rfl rfl rfl rfl rfl rfl ?_ | refine DRun.nil ?_)
    refine DRun.indexSl rfl rfl rfl rfl rfl rfl rfl (by omega) (em ▸ gx) rfl rfl ?_
    repeat (first | refine DRun.op rfl rfl rfl ?_ | refine DRun.loadI rfl rfl rfl rfl rfl ?_ | refine DRun.load rfl rfl rfl rfl rfl rfl ?_ | refine DRun.nil ?_)
    by_cases e1 : y.origin = x.origin
    · rw [show (y.origin != x.origin) = false by simp [e1]]
      repeat (first | refine DRun.op rfl rfl rfl ?_ | refine DRun.loadI rfl rfl rfl rfl rfl ?_ | refine DRun.load rfl rfl rfl rfl rfl rfl ?_ | refine DRun.opG rfl rfl rfl rfl rfl ?_ | refine DRun.loadG rfl rfl rfl rfl rfl rfl rfl rfl ?_ | refine DRun.nil ?_)
      refine DRun.pureG rfl rfl rfl rfl rfl (fun loc H => OpT.indexSl rfl rfl rfl rfl rfl (by omega) gy rfl rfl ⟨rfl, rfl, rfl⟩) ?_
      repeat (first | refine DRun.op rfl rfl rfl ?_ | refine DRun.loadI rfl rfl rfl rfl rfl ?_ | refine DRun.load rfl rfl rfl rfl rfl rfl ?_ | refine DRun.opG rfl rfl rfl rfl rfl ?_ | refine DRun.loadG rfl rfl rfl rfl rfl rfl rfl rfl ?_ | refine DRun.nil ?_)
      refine DRun.pureG rfl rfl rfl rfl rfl (fun loc H => OpT.indexSl rfl rfl rfl rfl rfl (by omega) (em ▸ gx) rfl rfl ⟨rfl, rfl, rfl⟩) ?_
      repeat (first | refine DRun.op rfl rfl rfl ?_ | refine DRun.loadI rfl rfl rfl rfl rfl ?_ | refine DRun.load rfl rfl rfl rfl rfl rfl ?_ | refine DRun.opG rfl rfl rfl rfl rfl ?_ | refine DRun.loadG rfl rfl rfl rfl rfl rfl rfl rfl ?_ | refine DRun.nil ?_)
      by_cases e2 : y.seq ≤ x.seq
      · rw [show decide (y.seq ≤ x.seq) = true by simp [e2]]
        repeat (first | refine DRun.skipG rfl rfl rfl rfl rfl ?_ | refine DRun.skipGr rfl rfl rfl rfl rfl ?_)
        repeat (first | refine DRun.op rfl rfl rfl ?_ | refine DRun.loadI rfl rfl rfl rfl rfl ?_ | refine DRun.load rfl rfl rfl rfl rfl rfl ?_ | refine DRun.nil ?_)
        refine AWP.cond rfl (fun h => ?_) (fun h => absurd h (by simp))
        repeat (first
    | refine AOps.op rfl rfl ?_ | refine AOps.load rfl rfl rfl rfl rfl ?_ | refine AOps.nil ?_ | refine AWP.seq ?_ | refine AWP.region ?_ | refine AWP.block ?_ | refine AWP.skip ?_ | refine AWP.exit ?_ | refine AWP.scope ?_ | refine AWP.label ?_)
        refine AWP.ret ?_
        exact ⟨_, _, rfl, rfl, Heap.le_refl _, no (by rw [hrow, show decide (x.seq < y.seq) = false by simp; omega]; simp), rfl⟩
      · rw [show decide (y.seq ≤ x.seq) = false by simp; omega]
        repeat (first | refine DRun.op rfl rfl rfl ?_ | refine DRun.loadI rfl rfl rfl rfl rfl ?_ | refine DRun.load rfl rfl rfl rfl rfl rfl ?_ | refine DRun.opG rfl rfl rfl rfl rfl ?_ | refine DRun.loadG rfl rfl rfl rfl rfl rfl rfl rfl ?_ | refine DRun.nil ?_)
        refine DRun.pureG rfl rfl rfl rfl rfl (fun loc H => OpT.indexSl rfl rfl rfl rfl rfl (by omega) gy rfl rfl ⟨rfl, rfl, rfl⟩) ?_
        repeat (first | refine DRun.op rfl rfl rfl ?_ | refine DRun.loadI rfl rfl rfl rfl rfl ?_ | refine DRun.load rfl rfl rfl rfl rfl rfl ?_ | refine DRun.opG rfl rfl rfl rfl rfl ?_ | refine DRun.loadG rfl rfl rfl rfl rfl rfl rfl rfl ?_ | refine DRun.nil ?_)
        refine DRun.pureG rfl rfl rfl rfl rfl (fun loc H => OpT.indexSl rfl rfl rfl rfl rfl (by omega) (em ▸ gx) rfl rfl ⟨rfl, rfl, rfl⟩) ?_
        repeat (first | refine DRun.op rfl rfl rfl ?_ | refine DRun.loadI rfl rfl rfl rfl rfl ?_ | refine DRun.load rfl rfl rfl rfl rfl rfl ?_ | refine DRun.opG rfl rfl rfl rfl rfl ?_ | refine DRun.loadG rfl rfl rfl rfl rfl rfl rfl rfl ?_ | refine DRun.nil ?_)
        have ey : IntKind.i64.wrap (y.seq - 1) = y.seq - 1 := wrap_i64' (by omega) (by omega)
        refine AWP.cond rfl (fun hh => ?_) (fun hh => ?_)
        · rw [ey] at hh
          repeat (first
    | refine AOps.op rfl rfl ?_ | refine AOps.load rfl rfl rfl rfl rfl ?_ | refine AOps.nil ?_ | refine AWP.seq ?_ | refine AWP.region ?_ | refine AWP.block ?_ | refine AWP.skip ?_ | refine AWP.exit ?_ | refine AWP.scope ?_ | refine AWP.label ?_)
          refine AWP.ret ?_
          exact ⟨_, _, rfl, rfl, Heap.le_refl _, no (by rw [hrow, show decide (y.seq = x.seq + 1) = false by simp at hh ⊢; omega]; simp), rfl⟩
        · rw [ey] at hh
          have hh : y.seq = x.seq + 1 := by simp at hh; omega
          repeat (first
    | refine AOps.op rfl rfl ?_ | refine AOps.load rfl rfl rfl rfl rfl ?_ | refine AOps.nil ?_ | refine AWP.seq ?_ | refine AWP.region ?_ | refine AWP.block ?_ | refine AWP.skip ?_ | refine AWP.exit ?_ | refine AWP.scope ?_ | refine AWP.label ?_)
          refine ⟨i + 1, by omega, ⟨by omega, fun j hj => ?_⟩, ⟨rfl, congrArg (fun x => some (AV.int .i64 x)) ei, trivial⟩, rfl, Heap.le_refl _⟩
          by_cases c : j = i
          · subst c
            rw [hrow]
            simp
            exact ⟨e1, by omega, hh⟩
          · exact i2 j (by omega)
    · rw [show (y.origin != x.origin) = true by simp [e1]]
      repeat (first | refine DRun.skipG rfl rfl rfl rfl rfl ?_ | refine DRun.skipGr rfl rfl rfl rfl rfl ?_)
      repeat (first | refine DRun.op rfl rfl rfl ?_ | refine DRun.loadI rfl rfl rfl rfl rfl ?_ | refine DRun.load rfl rfl rfl rfl rfl rfl ?_ | refine DRun.nil ?_)
      repeat (first | refine DRun.skipG rfl rfl rfl rfl rfl ?_ | refine DRun.skipGr rfl rfl rfl rfl rfl ?_)
      repeat (first | refine DRun.op rfl rfl rfl ?_ | refine DRun.loadI rfl rfl rfl rfl rfl ?_ | refine DRun.load rfl rfl rfl rfl rfl rfl ?_ | refine DRun.nil ?_)
      refine AWP.cond rfl (fun h => ?_) (fun h => absurd h (by simp))
      repeat (first
    | refine AOps.op rfl rfl ?_ | refine AOps.load rfl rfl rfl rfl rfl ?_ | refine AOps.nil ?_ | refine AWP.seq ?_ | refine AWP.region ?_ | refine AWP.block ?_ | refine AWP.skip ?_ | refine AWP.exit ?_ | refine AWP.scope ?_ | refine AWP.label ?_)
      refine AWP.ret ?_
      exact ⟨_, _, rfl, rfl, Heap.le_refl _, no (by rw [hrow, show decide (y.origin = x.origin) = false by simp [e1]]; simp), rfl⟩
  · have h : l.length ≤ i + 1 := by simp at h; omega
    repeat (first
    | refine AOps.op rfl rfl ?_ | refine AOps.load rfl rfl rfl rfl rfl ?_ | refine AOps.nil ?_ | refine AWP.seq ?_ | refine AWP.region ?_ | refine AWP.block ?_ | refine AWP.skip ?_ | refine AWP.exit ?_ | refine AWP.scope ?_ | refine AWP.label ?_)
    refine AWP.ret ?_
    exact ⟨_, _, rfl, rfl, Heap.le_refl _, congrArg AV.bool (rowB_yes (f := rowOkAt) h i2).symm, rfl⟩

set_option maxHeartbeats 1000000 in
theorem R7Row_spec (l : List Txn) (tag : Tag) (hl : l.length < 2 ^ 40) (hs : ∀ t ∈ l, -(2 ^ 63) ≤ t.seq ∧ t.seq < 2 ^ 63) (H : Heap) :
    ACalls Q.prog 37 [.sl (l.map tn) tag] H fun r H' => r = .bool (rowF l) ∧ H' = H := by
  refine ACalls.body (N := 49) Try.func37 rfl rfl rfl rfl ?_
  repeat (first
    | refine AOps.op rfl rfl ?_ | refine AOps.load rfl rfl rfl rfl rfl ?_ | refine AOps.nil ?_ | refine AWP.seq ?_ | refine AWP.region ?_ | refine AWP.skip ?_ | refine AWP.exit ?_ | refine AWP.scope ?_ | refine AWP.label ?_)
  refine AWP.block ?_
  refine AWP.loopA (α := Nat) (fun i => i + 1 ≤ max l.length 1 ∧ ∀ j, j < i → rowOkAtF l j = true) (fun i => l.length - i)
    (fun i => [(0, .sl (l.map tn) tag), (3, .int .i64 (i + 1 : Nat))]) (fun _ => []) (fun _ => H) 0 ⟨by omega, fun j hj => absurd hj (by omega)⟩ ⟨rfl, rfl, trivial⟩ rfl (Heap.le_refl _) ?_
  rintro i ⟨i1, i2⟩
  repeat (first
    | refine AOps.op rfl rfl ?_ | refine AOps.load rfl rfl rfl rfl rfl ?_ | refine AOps.nil ?_ | refine AWP.seq ?_ | refine AWP.region ?_ | refine AWP.block ?_ | refine AWP.skip ?_ | refine AWP.exit ?_ | refine AWP.scope ?_ | refine AWP.label ?_)
  refine AWP.cond rfl (fun h => ?_) (fun h => ?_)
  · have hlt : i + 1 < l.length := by simp at h; omega
    have ei : IntKind.i64.wrap (((i + 1 : Nat) : Int) + 1) = ((i + 1 + 1 : Nat) : Int) := wrap_i64 (n := i + 1 + 1) (by omega)
    have em : IntKind.i64.wrap (((i + 1 : Nat) : Int) - 1) = ((i : Nat) : Int) := by rw [show ((i + 1 : Nat) : Int) - 1 = ((i : Nat) : Int) by omega]; exact wrap_i64 (n := i) (by omega)
    obtain ⟨x, hx⟩ : ∃ x, l[i]? = some x := ⟨l[i], List.getElem?_eq_getElem (by omega)⟩
    obtain ⟨y, hy⟩ : ∃ y, l[i + 1]? = some y := ⟨l[i + 1], List.getElem?_eq_getElem hlt⟩
    obtain ⟨z, hz⟩ : ∃ z, l[0]? = some z := ⟨l[0], List.getElem?_eq_getElem (by omega)⟩
    have hxs := hs x (List.mem_of_getElem? hx)
    have hys := hs y (List.mem_of_getElem? hy)
    have gx := getD_tn hx
    have gy := getD_tn hy
    have gz : (l.map tn)[((0 : Int)).toNat]? = some (tn z) := getD_tn (i := 0) hz
    have hrow : rowOkAtF l i = (decide (y.origin = z.origin) && (decide (x.seq < y.seq) && decide (y.seq = x.seq + 1))) := by simp only [rowOkAtF, hx, hy, hz]
    have no : rowOkAtF l i = false → (AV.bool false) = .bool (rowF l) := fun h => congrArg AV.bool (rowB_no (f := rowOkAtF) hlt h).symm
    clear hx hy hz
    repeat (first
    | refine AOps.op rfl rfl ?_ | refine AOps.load rfl rfl rfl rfl rfl ?_ | refine AOps.nil ?_ | refine AWP.seq ?_ | refine AWP.region ?_ | refine AWP.block ?_ | refine AWP.skip ?_ | refine AWP.exit ?_ | refine AWP.scope ?_ | refine AWP.label ?_)
    refine AWP.draw [[], [], [0, 1], [0, 1, 2], [0, 1, 2, 3], [], [5], [5, 6], [5, 6, 7], [0, 1, 2, 3, 4, 5, 6, 7, 8], [0, 1, 2, 3, 4, 5, 6, 7, 8, 9], [0, 1, 2, 3, 4, 5, 6, 7, 8, 9, 10], [0, 1, 2, 3, 4, 5, 6, 7, 8, 9, 10], [0, 1, 2, 3, 4, 5, 6, 7, 8, 9, 10, 11, 12], [0, 1, 2, 3, 4, 5, 6, 7, 8, 9, 10, 11, 12, 13], [0, 1, 2, 3, 4, 5, 6, 7, 8, 9, 10, 11, 12, 13, 14], [0, 1, 2, 3, 4, 5, 6, 7, 8, 9, 10], [0, 1, 2, 3, 4, 5, 6, 7, 8, 9, 10], [0, 1, 2, 3, 4, 5, 6, 7, 8, 9, 10, 17], [0, 1, 2, 3, 4, 5, 6, 7, 8, 9, 10, 16, 17, 18], [0, 1, 2, 3, 4, 5, 6, 7, 8, 9, 10, 16, 17, 18, 19], [0, 1, 2, 3, 4, 5, 6, 7, 8, 9, 10, 16, 17, 18, 19, 20], [0, 1, 2, 3, 4, 5, 6, 7, 8, 9, 10, 11, 12, 13, 14, 15, 16, 17, 18, 19, 20, 21], [0, 1, 2, 3, 4, 5, 6, 7, 8, 9, 10, 11, 12, 13, 14, 15, 16, 17, 18, 19, 20, 21, 22], [0, 1, 2, 3, 4, 5, 6, 7, 8, 9, 10, 11, 12, 13, 14, 15, 16, 17, 18, 19, 20, 21, 22, 23], [0, 1, 2, 3, 4, 5, 6, 7, 8, 9, 10, 11, 12, 13, 14, 15, 16, 17, 18, 19, 20, 21, 22, 23, 24], [0, 1, 2, 3, 4, 5, 6, 7, 8, 9, 10, 11, 12, 13, 14, 15, 16, 17, 18, 19, 20, 21, 22, 23, 24], [0, 1, 2, 3, 4, 5, 6, 7, 8, 9, 10, 11, 12, 13, 14, 15, 16, 17, 18, 19, 20, 21, 22, 23, 24, 25, 26], [0, 1, 2, 3, 4, 5, 6, 7, 8, 9, 10, 11, 12, 13, 14, 15, 16, 17, 18, 19, 20, 21, 22, 23, 24, 25, 26, 27], [0, 1, 2, 3, 4, 5, 6, 7, 8, 9, 10, 11, 12, 13, 14, 15, 16, 17, 18, 19, 20, 21, 22, 23, 24, 25, 26, 27, 28], [0, 1, 2, 3, 4, 5, 6, 7, 8, 9, 10, 11, 12, 13, 14, 15, 16, 17, 18, 19, 20, 21, 22, 23, 24], [0, 1, 2, 3, 4, 5, 6, 7, 8, 9, 10, 11, 12, 13, 14, 15, 16, 17, 18, 19, 20, 21, 22, 23, 24], [0, 1, 2, 3, 4, 5, 6, 7, 8, 9, 10, 11, 12, 13, 14, 15, 16, 17, 18, 19, 20, 21, 22, 23, 24, 31], [0, 1, 2, 3, 4, 5, 6, 7, 8, 9, 10, 11, 12, 13, 14, 15, 16, 17, 18, 19, 20, 21, 22, 23, 24, 30, 31, 32], [0, 1, 2, 3, 4, 5, 6, 7, 8, 9, 10, 11, 12, 13, 14, 15, 16, 17, 18, 19, 20, 21, 22, 23, 24, 30, 31, 32, 33], [0, 1, 2, 3, 4, 5, 6, 7, 8, 9, 10, 11, 12, 13, 14, 15, 16, 17, 18, 19, 20, 21, 22, 23, 24, 30, 31, 32, 33, 34], [0, 1, 2, 3, 4, 5, 6, 7, 8, 9, 10, 11, 12, 13, 14, 15, 16, 17, 18, 19, 20, 21, 22, 23, 24, 30, 31, 32, 33, 34, 35], [0, 1, 2, 3, 4, 5, 6, 7, 8, 9, 10, 11, 12, 13, 14, 15, 16, 17, 18, 19, 20, 21, 22, 23, 24, 25, 26, 27, 28, 29, 30, 31, 32, 33, 34, 35, 36], [0, 1, 2, 3, 4, 5, 6, 7, 8, 9, 10, 11, 12, 13, 14, 15, 16, 17, 18, 19, 20, 21, 22, 23, 24, 25, 26, 27, 28, 29, 30, 31, 32, 33, 34, 35, 36, 37]] [(0, .pure), (1, .pure), (2, .pure), (3, .pure), (4, .read), (5, .pure), (6, .pure), (7, .pure), (8, .read), (9, .pure), (10, .pure), (11, .pure), (12, .pure), (13, .pure), (14, .pure), (15, .read), (16, .pure), (17, .pure), (18, .pure), (19, .pure), (20, .pure), (21, .read), (22, .pure), (23, .pure), (24, .pure), (25, .pure), (26, .pure), (27, .pure), (28, .pure), (29, .read), (30, .pure), (31, .pure), (32, .pure), (33, .pure), (34, .pure), (35, .read), (36, .pure), (37, .pure), (38, .pure)] (by kernel_rfl) ?_
    repeat (first | refine DRun.op rfl rfl rfl ?_ | refine DRun.loadI rfl rfl rfl rfl rfl ?_ | refine DRun.load rfl rfl rfl rfl rfl rfl ?_ | refine DRun.nil ?_)
    refine DRun.indexSl rfl rfl rfl rfl rfl rfl rfl (by omega) gy rfl rfl ?_
    repeat (first | refine DRun.op rfl rfl rfl ?_ | refine DRun.loadI rfl rfl rfl rfl rfl ?_ | refine DRun.load rfl rfl rfl rfl rfl rfl ?_ | refine DRun.nil ?_)
    refine DRun.indexSl rfl rfl rfl rfl rfl rfl rfl (by omega) gz rfl rfl ?_
    repeat (first | refine DRun.op rfl rfl rfl ?_ | refine DRun.loadI rfl rfl rfl rfl rfl ?_ | refine DRun.load rfl rfl rfl rfl rfl rfl ?_ | refine DRun.nil ?_)
    by_cases e1 : y.origin = z.origin
    · rw [show (y.origin != z.origin) = false by simp [e1]]
      repeat (first | refine DRun.op rfl rfl rfl ?_ | refine DRun.loadI rfl rfl rfl rfl rfl ?_ | refine DRun.load rfl rfl rfl rfl rfl rfl ?_ | refine DRun.opG rfl rfl rfl rfl rfl ?_ | refine DRun.loadG rfl rfl rfl rfl rfl rfl rfl rfl ?_ | refine DRun.nil ?_)
      refine DRun.pureG rfl rfl rfl rfl rfl (fun loc H => OpT.indexSl rfl rfl rfl rfl rfl (by omega) gy rfl rfl ⟨rfl, rfl, rfl⟩) ?_
      repeat (first | refine DRun.op rfl rfl rfl ?_ | refine DRun.loadI rfl rfl rfl rfl rfl ?_ | refine DRun.load rfl rfl rfl rfl rfl rfl ?_ | refine DRun.opG rfl rfl rfl rfl rfl ?_ | refine DRun.loadG rfl rfl rfl rfl rfl rfl rfl rfl ?_ | refine DRun.nil ?_)
      refine DRun.pureG rfl rfl rfl rfl rfl (fun loc H => OpT.indexSl rfl rfl rfl rfl rfl (by omega) (em ▸ gx) rfl rfl ⟨rfl, rfl, rfl⟩) ?_
      repeat (first | refine DRun.op rfl rfl rfl ?_ | refine DRun.loadI rfl rfl rfl rfl rfl ?_ | refine DRun.load rfl rfl rfl rfl rfl rfl ?_ | refine DRun.opG rfl rfl rfl rfl rfl ?_ | refine DRun.loadG rfl rfl rfl rfl rfl rfl rfl rfl ?_ | refine DRun.nil ?_)
      by_cases e2 : y.seq ≤ x.seq
      · rw [show decide (y.seq ≤ x.seq) = true by simp [e2]]
        repeat (first | refine DRun.skipG rfl rfl rfl rfl rfl ?_ | refine DRun.skipGr rfl rfl rfl rfl rfl ?_)
        repeat (first | refine DRun.op rfl rfl rfl ?_ | refine DRun.loadI rfl rfl rfl rfl rfl ?_ | refine DRun.load rfl rfl rfl rfl rfl rfl ?_ | refine DRun.nil ?_)
        refine AWP.cond rfl (fun h => ?_) (fun h => absurd h (by simp))
        repeat (first
    | refine AOps.op rfl rfl ?_ | refine AOps.load rfl rfl rfl rfl rfl ?_ | refine AOps.nil ?_ | refine AWP.seq ?_ | refine AWP.region ?_ | refine AWP.block ?_ | refine AWP.skip ?_ | refine AWP.exit ?_ | refine AWP.scope ?_ | refine AWP.label ?_)
        refine AWP.ret ?_
        exact ⟨_, _, rfl, rfl, Heap.le_refl _, no (by rw [hrow, show decide (x.seq < y.seq) = false by simp; omega]; simp), rfl⟩
      · rw [show decide (y.seq ≤ x.seq) = false by simp; omega]
        repeat (first | refine DRun.op rfl rfl rfl ?_ | refine DRun.loadI rfl rfl rfl rfl rfl ?_ | refine DRun.load rfl rfl rfl rfl rfl rfl ?_ | refine DRun.opG rfl rfl rfl rfl rfl ?_ | refine DRun.loadG rfl rfl rfl rfl rfl rfl rfl rfl ?_ | refine DRun.nil ?_)
        refine DRun.pureG rfl rfl rfl rfl rfl (fun loc H => OpT.indexSl rfl rfl rfl rfl rfl (by omega) gy rfl rfl ⟨rfl, rfl, rfl⟩) ?_
        repeat (first | refine DRun.op rfl rfl rfl ?_ | refine DRun.loadI rfl rfl rfl rfl rfl ?_ | refine DRun.load rfl rfl rfl rfl rfl rfl ?_ | refine DRun.opG rfl rfl rfl rfl rfl ?_ | refine DRun.loadG rfl rfl rfl rfl rfl rfl rfl rfl ?_ | refine DRun.nil ?_)
        refine DRun.pureG rfl rfl rfl rfl rfl (fun loc H => OpT.indexSl rfl rfl rfl rfl rfl (by omega) (em ▸ gx) rfl rfl ⟨rfl, rfl, rfl⟩) ?_
        repeat (first | refine DRun.op rfl rfl rfl ?_ | refine DRun.loadI rfl rfl rfl rfl rfl ?_ | refine DRun.load rfl rfl rfl rfl rfl rfl ?_ | refine DRun.opG rfl rfl rfl rfl rfl ?_ | refine DRun.loadG rfl rfl rfl rfl rfl rfl rfl rfl ?_ | refine DRun.nil ?_)
        have ey : IntKind.i64.wrap (x.seq + 1) = x.seq + 1 := wrap_i64' (by omega) (by omega)
        refine AWP.cond rfl (fun hh => ?_) (fun hh => ?_)
        · rw [ey] at hh
          repeat (first
    | refine AOps.op rfl rfl ?_ | refine AOps.load rfl rfl rfl rfl rfl ?_ | refine AOps.nil ?_ | refine AWP.seq ?_ | refine AWP.region ?_ | refine AWP.block ?_ | refine AWP.skip ?_ | refine AWP.exit ?_ | refine AWP.scope ?_ | refine AWP.label ?_)
          refine AWP.ret ?_
          exact ⟨_, _, rfl, rfl, Heap.le_refl _, no (by rw [hrow, show decide (y.seq = x.seq + 1) = false by simp at hh ⊢; omega]; simp), rfl⟩
        · rw [ey] at hh
          have hh : y.seq = x.seq + 1 := by simp at hh; omega
          repeat (first
    | refine AOps.op rfl rfl ?_ | refine AOps.load rfl rfl rfl rfl rfl ?_ | refine AOps.nil ?_ | refine AWP.seq ?_ | refine AWP.region ?_ | refine AWP.block ?_ | refine AWP.skip ?_ | refine AWP.exit ?_ | refine AWP.scope ?_ | refine AWP.label ?_)
          refine ⟨i + 1, by omega, ⟨by omega, fun j hj => ?_⟩, ⟨rfl, congrArg (fun x => some (AV.int .i64 x)) ei, trivial⟩, rfl, Heap.le_refl _⟩
          by_cases c : j = i
          · subst c
            rw [hrow]
            simp
            exact ⟨e1, by omega, hh⟩
          · exact i2 j (by omega)
    · rw [show (y.origin != z.origin) = true by simp [e1]]
      repeat (first | refine DRun.skipG rfl rfl rfl rfl rfl ?_ | refine DRun.skipGr rfl rfl rfl rfl rfl ?_)
      repeat (first | refine DRun.op rfl rfl rfl ?_ | refine DRun.loadI rfl rfl rfl rfl rfl ?_ | refine DRun.load rfl rfl rfl rfl rfl rfl ?_ | refine DRun.nil ?_)
      repeat (first | refine DRun.skipG rfl rfl rfl rfl rfl ?_ | refine DRun.skipGr rfl rfl rfl rfl rfl ?_)
      repeat (first | refine DRun.op rfl rfl rfl ?_ | refine DRun.loadI rfl rfl rfl rfl rfl ?_ | refine DRun.load rfl rfl rfl rfl rfl rfl ?_ | refine DRun.nil ?_)
      refine AWP.cond rfl (fun h => ?_) (fun h => absurd h (by simp))
      repeat (first
    | refine AOps.op rfl rfl ?_ | refine AOps.load rfl rfl rfl rfl rfl ?_ | refine AOps.nil ?_ | refine AWP.seq ?_ | refine AWP.region ?_ | refine AWP.block ?_ | refine AWP.skip ?_ | refine AWP.exit ?_ | refine AWP.scope ?_ | refine AWP.label ?_)
      refine AWP.ret ?_
      exact ⟨_, _, rfl, rfl, Heap.le_refl _, no (by rw [hrow, show decide (y.origin = z.origin) = false by simp [e1]]; simp), rfl⟩
  · have h : l.length ≤ i + 1 := by simp at h; omega
    repeat (first
    | refine AOps.op rfl rfl ?_ | refine AOps.load rfl rfl rfl rfl rfl ?_ | refine AOps.nil ?_ | refine AWP.seq ?_ | refine AWP.region ?_ | refine AWP.block ?_ | refine AWP.skip ?_ | refine AWP.exit ?_ | refine AWP.scope ?_ | refine AWP.label ?_)
    refine AWP.ret ?_
    exact ⟨_, _, rfl, rfl, Heap.le_refl _, congrArg AV.bool (rowB_yes (f := rowOkAtF) h i2).symm, rfl⟩

end Go.Proofs.Ytlbnhokhhangdaa

/- Rows beside a coder; batches, told. -/
namespace Go.Proofs.Ytlbnhokhhangdaa
open Go Go.Am Go.Pk Go.Lib
set_option linter.unusedVariables false
set_option linter.unusedSimpArgs false
set_option maxRecDepth 10000

/-- A row that is appended to, beside a part A that is at work and a part B that stays. -/
structure AT (H : Heap) (sz n : Nat) (tag : Tag) (A B : Heap) : Prop where
  app : App H sz n tag
  two : Two (hbase H tag) A B

section
variable {H H' A B : Heap} {sz n : Nat} {tag : Tag}
theorem AT.le (h : AT H sz n tag A B) : A.le H := h.two.a.trans (hbase_le _ _)
theorem AT.old (h : AT H sz n tag A B) : B.le H := h.two.b.trans (hbase_le _ _)

theorem AT.set (h : AT H sz n tag A B) {q : Nat} (hq : H q = none) (o : AObj) : AT (H.set q o) sz n tag A B ∧ (H.set q o) q = some o ∧ A q = none := by
  obtain ⟨h1, h2⟩ := App.set (x := o) h.app hq
  have hq' : hbase H tag q = none := by
    cases e : hbase H tag q with
    | none => rfl
    | some y => rw [hbase_le _ _ _ _ e] at hq; cases hq
  exact ⟨⟨h1, h2 ▸ h.two.mono (Heap.le_set hq')⟩, Heap.set_same _ _ _, (h.two.out hq').1⟩

theorem AT.next (h : AT H sz n tag A B) {m : Nat} {tag' : Tag} (h1 : App H' sz m tag') (h2 : hbase H' tag' = hbase H tag) : AT H' sz m tag' A B := ⟨h1, h2 ▸ h.two⟩

theorem AT.call (h : AT H sz n tag A B) {f : FuncId} {args : List AV} {K1 : AV → Heap → Prop} (hc : ACalls Q.prog f args A K1) :
    ACalls Q.prog f args H fun r H' => ∃ A', K1 r A' ∧ AT H' sz n tag A' B :=
  (ACalls.frame h.le hc).mono fun r H' ⟨A', k1, k2, k3, k4⟩ => by
    obtain ⟨a1, a2, a3⟩ := App.keep h.app h.two.a k3 k2 k4
    have hB := Heap.le_minus h.two.b h.two.d
    exact ⟨A', k1, a1, a2, hB.trans a3, k4.le (Heap.le_refl _) (Heap.le_minus h.old h.two.d)⟩

theorem AT.start (h : Two H A B) : AT H sz n .full A B := ⟨trivial, h⟩
theorem AT.part (h : AT H sz n tag A B) {A' : Heap} (hA : A'.le (hbase H tag)) (hd : Disj A' B) : AT H sz n tag A' B := ⟨h.app, hA, h.two.b, hd⟩
end

theorem CodAt.ok {H : Heap} {c : Nat} {S : Cod} (h : CodAt H c S) : S.ok := by
  obtain ⟨d, h1, h2, h3⟩ := h
  exact ⟨h2.1, h3⟩
theorem RCodAt.ok {H : Heap} {r : Nat} {S : Cod} (h : RCodAt H r S) : S.ok := ⟨h.1, h.2.1⟩

theorem Two.own {H H' : Heap} (h : H.le H') : Two H' (H'.minus H) H := ⟨Heap.minus_le _ _, h, (Heap.disj_minus H' H).symm⟩

theorem bput_step {S : Cod} {out : Str} {t : Txn} {r : List Txn} {z : Str × Nat} (h : bputG S out (t :: r) = z) :
    ((tputE S t).2.1 = 0 ∧ bputG (tputE S t).2.2 (out ++ (tputE S t).1) r = z) ∨ ((tputE S t).2.1 ≠ 0 ∧ z = ([], (tputE S t).2.1)) := by
  rw [bputG] at h
  unfold tputE
  split at h
  · rename_i c; rw [if_pos c]; exact .inl ⟨rfl, h⟩
  · rename_i c; rw [if_neg c]; exact .inr ⟨c, h.symm⟩

theorem drop_cons {α : Type} {l : List α} {i : Nat} {x : α} (h : l[i]? = some x) : l.drop i = x :: l.drop (i + 1) := by
  obtain ⟨hi, rfl⟩ := List.getElem?_eq_some_iff.1 h
  exact List.drop_eq_getElem_cons hi

attribute [local irreducible] AOps AWP DRun ACalls
attribute [local irreducible] tputE tput

theorem Pack_spec (l : List Txn) (tag : Tag) (hw : ∀ t ∈ l, t.writes.length < 2 ^ 40) (hl : l.length < 2 ^ 40) (H0 : Heap) :
    ACalls Q.prog 30 [.sl (l.map tn) tag] H0 fun r H' => r = .tuple [.sl (encB (bput l).1) .no, .int .i64 ((bput l).2 : Nat)] ∧ H' = H0 := by
  refine ACalls.weak (K := fun r H' => ∃ tg, r = .tuple [.sl (encB (bput l).1) tg, .int .i64 ((bput l).2 : Nat)] ∧ H' = H0) ?_ (fun r H' ⟨tg, e, k⟩ => ⟨_, e ▸ Wk.tuple rfl (fun i hi => ?_), rfl, k⟩)
  · refine ACalls.body (N := 38) Try.func30 rfl rfl rfl rfl ?_
    repeat (first
    | refine AOps.op rfl rfl ?_ | refine AOps.load rfl rfl rfl rfl rfl ?_ | refine AOps.nil ?_ | refine AWP.seq ?_ | refine AWP.region ?_ | refine AWP.block ?_ | refine AWP.skip ?_ | refine AWP.exit ?_ | refine AWP.scope ?_ | refine AWP.label ?_)
    refine AWP.cond rfl (fun h => ?_) (fun h => ?_)
    · have h : 4 < l.length := by simp at h; omega
      repeat (first
    | refine AOps.op rfl rfl ?_ | refine AOps.load rfl rfl rfl rfl rfl ?_ | refine AOps.nil ?_ | refine AWP.seq ?_ | refine AWP.region ?_ | refine AWP.block ?_ | refine AWP.skip ?_ | refine AWP.exit ?_ | refine AWP.scope ?_ | refine AWP.label ?_)
      refine AWP.ret ?_
      refine ⟨_, _, rfl, rfl, Heap.le_refl _, .full, ?_, rfl⟩
      unfold bput; rw [if_pos h]; rfl
    have h4 : l.length ≤ 4 := by simp at h; omega
    have hb : bput l = bputG Cod.nil (uvarint l.length) l := by unfold bput; rw [if_neg (by omega)]
    rw [hb]
    have eu : IntKind.u64.wrap (((l.map tn).length : Nat) : Int) = ((l.length : Nat) : Int) := by rw [tn_len]; exact wrap_u64 (n := l.length) (by omega)
    repeat (first
    | refine AOps.op rfl rfl ?_ | refine AOps.load rfl rfl rfl rfl rfl ?_ | refine AOps.nil ?_ | refine AWP.seq ?_ | refine AWP.region ?_ | refine AWP.block ?_ | refine AWP.skip ?_ | refine AWP.exit ?_ | refine AWP.scope ?_ | refine AWP.label ?_)
    refine AOps.call rfl rfl rfl ((cNew_spec H0).mono ?_)
    rintro _ H1 ⟨c, rfl, hl1, hc1⟩
    have two := Two.own hl1
    repeat (first
    | refine AOps.op rfl rfl ?_ | refine AOps.load rfl rfl rfl rfl rfl ?_ | refine AOps.nil ?_ | refine AWP.seq ?_ | refine AWP.region ?_ | refine AWP.block ?_ | refine AWP.skip ?_ | refine AWP.exit ?_ | refine AWP.scope ?_ | refine AWP.label ?_)
    refine AOps.call (vs := [.int .u64 (l.length : Nat)]) (congrArg (fun x => some [AV.int .u64 x]) eu) rfl rfl ((Put_spec l.length (by omega) H1).mono ?_)
    rintro _ H2 ⟨tg, rfl, app, hbs⟩
    have at2 : AT H2 1 (uvarint l.length).length tg (H1.minus H0) H0 := ⟨app, hbs ▸ two⟩
    have ul : (uvarint l.length).length ≤ 10 := by have := uvarint_length64 (x := l.length) (by omega); omega
    clear app hbs two
    repeat (first
    | refine AOps.op rfl rfl ?_ | refine AOps.load rfl rfl rfl rfl rfl ?_ | refine AOps.nil ?_ | refine AWP.seq ?_ | refine AWP.region ?_ | refine AWP.skip ?_ | refine AWP.exit ?_ | refine AWP.scope ?_ | refine AWP.label ?_)
    refine AWP.block ?_
    refine AWP.loopA (α := Nat × Cod × Str × Tag × Heap × Heap) (fun a => a.1 ≤ l.length ∧ AT a.2.2.2.2.2 1 a.2.2.1.length a.2.2.2.1 a.2.2.2.2.1 H0 ∧ CodAt a.2.2.2.2.1 c a.2.1 ∧ a.2.2.1.length ≤ 10 + 7000 * a.1 ∧
        bputG a.2.1 a.2.2.1 (l.drop a.1) = bputG Cod.nil (uvarint l.length) l) (fun a => l.length - a.1)
      (fun a => [(4, .ptr c 0), (5, .sl (encB a.2.2.1) a.2.2.2.1), (18, .sl (l.map tn) tag), (19, .int .i64 l.length), (20, .int .i64 a.1)]) (fun _ => []) (fun a => a.2.2.2.2.2)
      (0, Cod.nil, uvarint l.length, tg, H1.minus H0, H2) ⟨by simp, at2, hc1, ul, rfl⟩ ⟨rfl, rfl, rfl, ?_, rfl, trivial⟩ rfl (Heap.le_refl _) ?_
    · exact congrArg (fun n : Nat => some (AV.int .i64 n)) (tn_len l)
    generalize bputG Cod.nil (uvarint l.length) l = z
    rintro ⟨i, S, out, tg, A, H3⟩ ⟨i1, i2, i3, i4, i5⟩
    simp only at i1 i2 i3 i4 i5
    dsimp only
    repeat (first
    | refine AOps.op rfl rfl ?_ | refine AOps.load rfl rfl rfl rfl rfl ?_ | refine AOps.nil ?_ | refine AWP.seq ?_ | refine AWP.region ?_ | refine AWP.block ?_ | refine AWP.skip ?_ | refine AWP.exit ?_ | refine AWP.scope ?_ | refine AWP.label ?_)
    refine AWP.cond rfl (fun h => ?_) (fun h => ?_)
    · have hlt : i < l.length := by simp at h; omega
      have ei : IntKind.i64.wrap ((i : Int) + 1) = ((i + 1 : Nat) : Int) := wrap_i64 (n := i + 1) (by omega)
      obtain ⟨t, ht⟩ : ∃ t, l[i]? = some t := ⟨l[i], List.getElem?_eq_getElem hlt⟩
      have htw := hw t (List.mem_of_getElem? ht)
      rw [drop_cons ht] at i5
      repeat (first
    | refine AOps.op rfl rfl ?_ | refine AOps.load rfl rfl rfl rfl rfl ?_ | refine AOps.nil ?_ | refine AWP.seq ?_ | refine AWP.region ?_ | refine AWP.block ?_ | refine AWP.skip ?_ | refine AWP.exit ?_ | refine AWP.scope ?_ | refine AWP.label ?_)
      refine AOps.indexSl rfl rfl rfl rfl rfl rfl (by omega) (getD_tn ht) rfl rfl ?_
      repeat (first
    | refine AOps.op rfl rfl ?_ | refine AOps.load rfl rfl rfl rfl rfl ?_ | refine AOps.nil ?_ | refine AWP.seq ?_ | refine AWP.region ?_ | refine AWP.block ?_ | refine AWP.skip ?_ | refine AWP.exit ?_ | refine AWP.scope ?_ | refine AWP.label ?_)
      refine AOps.allocH rfl rfl fun q hq => ?_
      refine AOps.storeH rfl rfl rfl (Heap.set_same _ _ _) rfl rfl ?_
      rw [Heap.set_set]
      obtain ⟨at4, hbx, -⟩ := i2.set hq (tbox t .no)
      obtain ⟨H4, hH4⟩ : ∃ H4, H3.set q (tbox t .no) = H4 := ⟨_, rfl⟩
      rw [hH4] at at4 hbx
      rw [show H3.set q (.box [.int .i64 t.origin, .int .i64 t.seq, .int .i64 t.deps.a, .int .i64 t.deps.b, .int .i64 t.deps.c, .sl (t.writes.map wr) .no]) = H4 from hH4]
      repeat (first
    | refine AOps.op rfl rfl ?_ | refine AOps.load rfl rfl rfl rfl rfl ?_ | refine AOps.nil ?_ | refine AWP.seq ?_ | refine AWP.region ?_ | refine AWP.block ?_ | refine AWP.skip ?_ | refine AWP.exit ?_ | refine AWP.scope ?_ | refine AWP.label ?_)
      refine AOps.load rfl (cellsAt_ptr hbx) rfl rfl rfl ?_
      refine AOps.call (vs := [.ptr c 0, tn t]) rfl rfl rfl ((at4.call (coPut_spec c S t .no htw A i3)).mono ?_)
      rintro _ H5 ⟨A5, ⟨tp, rfl, c5⟩, at5⟩
      have hst := bput_step i5
      have hlen := tputE_len i3.ok t
      generalize tputE S t = P at *
      obtain ⟨pb, pe, S'⟩ := P
      simp only at c5 hlen hst
      dsimp only
      repeat (first
    | refine AOps.op rfl rfl ?_ | refine AOps.load rfl rfl rfl rfl rfl ?_ | refine AOps.nil ?_ | refine AWP.seq ?_ | refine AWP.region ?_ | refine AWP.block ?_ | refine AWP.skip ?_ | refine AWP.exit ?_ | refine AWP.scope ?_ | refine AWP.label ?_)
      refine AWP.cond rfl (fun h => ?_) (fun h => ?_)
      · have h : pe ≠ 0 := by simp at h; omega
        obtain rfl : z = ([], pe) := hst.resolve_left (fun c => h c.1) |>.2
        repeat (first
    | refine AOps.op rfl rfl ?_ | refine AOps.load rfl rfl rfl rfl rfl ?_ | refine AOps.nil ?_ | refine AWP.seq ?_ | refine AWP.region ?_ | refine AWP.block ?_ | refine AWP.skip ?_ | refine AWP.exit ?_ | refine AWP.scope ?_ | refine AWP.label ?_)
        refine AWP.ret ?_
        exact ⟨_, _, rfl, rfl, at5.old, .full, rfl, rfl⟩
      · have h : pe = 0 := by simp at h; omega
        have hz := (hst.resolve_right (fun c => c.1 h)).2
        repeat (first
    | refine AOps.op rfl rfl ?_ | refine AOps.load rfl rfl rfl rfl rfl ?_ | refine AOps.nil ?_ | refine AWP.seq ?_ | refine AWP.region ?_ | refine AWP.block ?_ | refine AWP.skip ?_ | refine AWP.exit ?_ | refine AWP.scope ?_ | refine AWP.label ?_)
        refine appB H5 (Heap.le_refl _) rfl rfl rfl rfl rfl at5.app (by omega) fun tg6 H6 k1 k2 => ?_
        repeat (first
    | refine AOps.op rfl rfl ?_ | refine AOps.load rfl rfl rfl rfl rfl ?_ | refine AOps.nil ?_ | refine AWP.seq ?_ | refine AWP.region ?_ | refine AWP.block ?_ | refine AWP.skip ?_ | refine AWP.exit ?_ | refine AWP.scope ?_ | refine AWP.label ?_)
        refine ⟨(i + 1, S', out ++ pb, tg6, A5, H6), by ((try dsimp only); omega), ⟨hlt, at5.next k1 k2, c5, ?_, hz⟩, ⟨rfl, rfl, rfl, rfl, congrArg (fun x => some (AV.int .i64 x)) ei, trivial⟩, rfl, Heap.le_refl _⟩
        simp; omega
    · have h : l.length ≤ i := by simp at h; omega
      rw [List.drop_of_length_le h, bputG] at i5
      subst i5
      repeat (first
    | refine AOps.op rfl rfl ?_ | refine AOps.load rfl rfl rfl rfl rfl ?_ | refine AOps.nil ?_ | refine AWP.seq ?_ | refine AWP.region ?_ | refine AWP.block ?_ | refine AWP.skip ?_ | refine AWP.exit ?_ | refine AWP.scope ?_ | refine AWP.label ?_)
      refine AWP.ret ?_
      exact ⟨_, _, rfl, rfl, i2.old, tg, rfl, rfl⟩
  · match i, hi with
    | 0, _ => exact Wk.sl _ _
    | 1, _ => exact Wk.refl _
    | n + 2, h => exact absurd h (by simp)
end Go.Proofs.Ytlbnhokhhangdaa

/- Batches as the document tells them; streams, told. -/
namespace Go.Proofs.Ytlbnhokhhangdaa
open Go Go.Am Go.Pk Go.Lib
set_option linter.unusedVariables false
set_option linter.unusedSimpArgs false
set_option maxRecDepth 10000
attribute [local irreducible] AOps AWP DRun ACalls
attribute [local irreducible] tputE tput

theorem R7Pack_spec (l : List Txn) (tag : Tag) (hw : ∀ t ∈ l, t.writes.length < 2 ^ 40) (hl : l.length < 2 ^ 40) (H0 : Heap) :
    ACalls Q.prog 31 [.sl (l.map tn) tag] H0 fun r H' => r = .tuple [.sl (encB (bput l).1) .no, .int .i64 ((bput l).2 : Nat)] ∧ H' = H0 := by
  refine ACalls.weak (K := fun r H' => ∃ tg, r = .tuple [.sl (encB (bput l).1) tg, .int .i64 ((bput l).2 : Nat)] ∧ H' = H0) ?_ (fun r H' ⟨tg, e, k⟩ => ⟨_, e ▸ Wk.tuple rfl (fun i hi => ?_), rfl, k⟩)
  · refine ACalls.body (N := 40) Try.func31 rfl rfl rfl rfl ?_
    repeat (first
    | refine AOps.op rfl rfl ?_ | refine AOps.load rfl rfl rfl rfl rfl ?_ | refine AOps.nil ?_ | refine AWP.seq ?_ | refine AWP.region ?_ | refine AWP.block ?_ | refine AWP.skip ?_ | refine AWP.exit ?_ | refine AWP.scope ?_ | refine AWP.label ?_)
    refine AWP.cond rfl (fun h => ?_) (fun h => ?_)
    · have h : 4 < l.length := by simp at h; omega
      repeat (first
    | refine AOps.op rfl rfl ?_ | refine AOps.load rfl rfl rfl rfl rfl ?_ | refine AOps.nil ?_ | refine AWP.seq ?_ | refine AWP.region ?_ | refine AWP.block ?_ | refine AWP.skip ?_ | refine AWP.exit ?_ | refine AWP.scope ?_ | refine AWP.label ?_)
      refine AWP.ret ?_
      refine ⟨_, _, rfl, rfl, Heap.le_refl _, .full, ?_, rfl⟩
      unfold bput; rw [if_pos h]; rfl
    have h4 : l.length ≤ 4 := by simp at h; omega
    have hb : bput l = bputG Cod.nil (uvarint l.length) l := by unfold bput; rw [if_neg (by omega)]
    rw [hb]
    have eu : IntKind.u64.wrap (((l.map tn).length : Nat) : Int) = ((l.length : Nat) : Int) := by rw [tn_len]; exact wrap_u64 (n := l.length) (by omega)
    repeat (first
    | refine AOps.op rfl rfl ?_ | refine AOps.load rfl rfl rfl rfl rfl ?_ | refine AOps.nil ?_ | refine AWP.seq ?_ | refine AWP.region ?_ | refine AWP.block ?_ | refine AWP.skip ?_ | refine AWP.exit ?_ | refine AWP.scope ?_ | refine AWP.label ?_)
    refine AOps.boxH rfl rfl rfl rfl fun q hq => ?_
    obtain ⟨htwo, hr2⟩ := Two.coder (Heap.le_refl H0) hq
    have two := htwo.symm
    clear htwo
    obtain ⟨H1, hH1⟩ : ∃ H1, H0.set q (rcbox Clk.zero (.sl [] .full) (.sl [] .full) 0) = H1 := ⟨_, rfl⟩
    rw [hH1] at two
    rw [show H0.set q (.box (AV.agg [.int .i64 0, .int .i64 0, .int .i64 0, .sl [] .full, .sl [] .full, .int .i64 0]).cells) = H1 from hH1]
    repeat (first
    | refine AOps.op rfl rfl ?_ | refine AOps.load rfl rfl rfl rfl rfl ?_ | refine AOps.nil ?_ | refine AWP.seq ?_ | refine AWP.region ?_ | refine AWP.block ?_ | refine AWP.skip ?_ | refine AWP.exit ?_ | refine AWP.scope ?_ | refine AWP.label ?_)
    refine AOps.call (vs := [.int .u64 (l.length : Nat)]) (congrArg (fun x => some [AV.int .u64 x]) eu) rfl rfl ((R1Put_spec l.length (by omega) H1).mono ?_)
    rintro _ H2 ⟨tg, rfl, app, hbs⟩
    have at2 : AT H2 1 (uvarint l.length).length tg (Heap.one q (rcbox Clk.zero (.sl [] .full) (.sl [] .full) 0)) H0 := ⟨app, hbs ▸ two⟩
    have ul : (uvarint l.length).length ≤ 10 := by have := uvarint_length64 (x := l.length) (by omega); omega
    clear app hbs two
    repeat (first
    | refine AOps.op rfl rfl ?_ | refine AOps.load rfl rfl rfl rfl rfl ?_ | refine AOps.nil ?_ | refine AWP.seq ?_ | refine AWP.region ?_ | refine AWP.skip ?_ | refine AWP.exit ?_ | refine AWP.scope ?_ | refine AWP.label ?_)
    refine AWP.block ?_
    refine AWP.loopA (α := Nat × Cod × Str × Tag × Heap × Heap) (fun a => a.1 ≤ l.length ∧ AT a.2.2.2.2.2 1 a.2.2.1.length a.2.2.2.1 a.2.2.2.2.1 H0 ∧ RCodAt a.2.2.2.2.1 q a.2.1 ∧ a.2.1.d.now ≤ 16 * a.1 ∧ a.2.2.1.length ≤ 10 + 7000 * a.1 ∧
        bputG a.2.1 a.2.2.1 (l.drop a.1) = bputG Cod.nil (uvarint l.length) l) (fun a => l.length - a.1)
      (fun a => [(0, .sl (l.map tn) tag), (4, .ptr q 0), (5, .sl (encB a.2.2.1) a.2.2.2.1), (6, .int .i64 a.1)]) (fun _ => []) (fun a => a.2.2.2.2.2)
      (0, Cod.nil, uvarint l.length, tg, Heap.one q (rcbox Clk.zero (.sl [] .full) (.sl [] .full) 0), H2) ⟨by simp, at2, hr2, by simp [Cod.nil, Dic.nil], ul, rfl⟩ ⟨rfl, rfl, rfl, rfl, trivial⟩ rfl (Heap.le_refl _) ?_
    generalize bputG Cod.nil (uvarint l.length) l = z
    rintro ⟨i, S, out, tg, A, H3⟩ ⟨i1, i2, i3, i6, i4, i5⟩
    simp only at i1 i2 i3 i4 i5 i6
    dsimp only
    repeat (first
    | refine AOps.op rfl rfl ?_ | refine AOps.load rfl rfl rfl rfl rfl ?_ | refine AOps.nil ?_ | refine AWP.seq ?_ | refine AWP.region ?_ | refine AWP.block ?_ | refine AWP.skip ?_ | refine AWP.exit ?_ | refine AWP.scope ?_ | refine AWP.label ?_)
    refine AWP.cond rfl (fun h => ?_) (fun h => ?_)
    · have hlt : i < l.length := by simp at h; omega
      have ei : IntKind.i64.wrap ((i : Int) + 1) = ((i + 1 : Nat) : Int) := wrap_i64 (n := i + 1) (by omega)
      obtain ⟨t, ht⟩ : ∃ t, l[i]? = some t := ⟨l[i], List.getElem?_eq_getElem hlt⟩
      have htw := hw t (List.mem_of_getElem? ht)
      rw [drop_cons ht] at i5
      repeat (first
    | refine AOps.op rfl rfl ?_ | refine AOps.load rfl rfl rfl rfl rfl ?_ | refine AOps.nil ?_ | refine AWP.seq ?_ | refine AWP.region ?_ | refine AWP.block ?_ | refine AWP.skip ?_ | refine AWP.exit ?_ | refine AWP.scope ?_ | refine AWP.label ?_)
      refine AOps.indexSl rfl rfl rfl rfl rfl rfl (by omega) (getD_tn ht) rfl rfl ?_
      repeat (first
    | refine AOps.op rfl rfl ?_ | refine AOps.load rfl rfl rfl rfl rfl ?_ | refine AOps.nil ?_ | refine AWP.seq ?_ | refine AWP.region ?_ | refine AWP.block ?_ | refine AWP.skip ?_ | refine AWP.exit ?_ | refine AWP.scope ?_ | refine AWP.label ?_)
      refine AOps.call (vs := [.ptr q 0, tn t]) rfl rfl rfl ((i2.call (R6Put_spec q S t .no htw A i3 (by omega))).mono ?_)
      rintro _ H5 ⟨A5, ⟨tp, rfl, c5, -⟩, at5⟩
      have hnow := tputE_now (S := S) t
      have hst := bput_step i5
      have hlen := tputE_len i3.ok t
      generalize tputE S t = P at *
      obtain ⟨pb, pe, S'⟩ := P
      simp only at c5 hlen hst hnow
      dsimp only
      repeat (first
    | refine AOps.op rfl rfl ?_ | refine AOps.load rfl rfl rfl rfl rfl ?_ | refine AOps.nil ?_ | refine AWP.seq ?_ | refine AWP.region ?_ | refine AWP.block ?_ | refine AWP.skip ?_ | refine AWP.exit ?_ | refine AWP.scope ?_ | refine AWP.label ?_)
      refine AWP.cond rfl (fun h => ?_) (fun h => ?_)
      · have h : pe ≠ 0 := by simp at h; omega
        obtain rfl : z = ([], pe) := hst.resolve_left (fun c => h c.1) |>.2
        repeat (first
    | refine AOps.op rfl rfl ?_ | refine AOps.load rfl rfl rfl rfl rfl ?_ | refine AOps.nil ?_ | refine AWP.seq ?_ | refine AWP.region ?_ | refine AWP.block ?_ | refine AWP.skip ?_ | refine AWP.exit ?_ | refine AWP.scope ?_ | refine AWP.label ?_)
        refine AWP.ret ?_
        exact ⟨_, _, rfl, rfl, at5.old, .full, rfl, rfl⟩
      · have h : pe = 0 := by simp at h; omega
        have hz := (hst.resolve_right (fun c => c.1 h)).2
        repeat (first
    | refine AOps.op rfl rfl ?_ | refine AOps.load rfl rfl rfl rfl rfl ?_ | refine AOps.nil ?_ | refine AWP.seq ?_ | refine AWP.region ?_ | refine AWP.block ?_ | refine AWP.skip ?_ | refine AWP.exit ?_ | refine AWP.scope ?_ | refine AWP.label ?_)
        refine appB H5 (Heap.le_refl _) rfl rfl rfl rfl rfl at5.app (by omega) fun tg6 H6 k1 k2 => ?_
        repeat (first
    | refine AOps.op rfl rfl ?_ | refine AOps.load rfl rfl rfl rfl rfl ?_ | refine AOps.nil ?_ | refine AWP.seq ?_ | refine AWP.region ?_ | refine AWP.block ?_ | refine AWP.skip ?_ | refine AWP.exit ?_ | refine AWP.scope ?_ | refine AWP.label ?_)
        refine ⟨(i + 1, S', out ++ pb, tg6, A5, H6), by ((try dsimp only); omega), ⟨hlt, at5.next k1 k2, c5, ?_, ?_, hz⟩, ⟨rfl, rfl, rfl, congrArg (fun x => some (AV.int .i64 x)) ei, trivial⟩, rfl, Heap.le_refl _⟩
        · simp; omega
        · simp; omega
    · have h : l.length ≤ i := by simp at h; omega
      rw [List.drop_of_length_le h, bputG] at i5
      subst i5
      repeat (first
    | refine AOps.op rfl rfl ?_ | refine AOps.load rfl rfl rfl rfl rfl ?_ | refine AOps.nil ?_ | refine AWP.seq ?_ | refine AWP.region ?_ | refine AWP.block ?_ | refine AWP.skip ?_ | refine AWP.exit ?_ | refine AWP.scope ?_ | refine AWP.label ?_)
      refine AWP.ret ?_
      exact ⟨_, _, rfl, rfl, i2.old, tg, rfl, rfl⟩
  · match i, hi with
    | 0, _ => exact Wk.sl _ _
    | 1, _ => exact Wk.refl _
    | n + 2, h => exact absurd h (by simp)
end Go.Proofs.Ytlbnhokhhangdaa

/- Streams, told. -/
namespace Go.Proofs.Ytlbnhokhhangdaa
open Go Go.Am Go.Pk Go.Lib
set_option linter.unusedVariables false
set_option linter.unusedSimpArgs false
set_option maxRecDepth 10000

section
variable {H H' A B : Heap} {sz n : Nat} {tag : Tag}
theorem AT.call' (h : AT H sz n tag A B) {f : FuncId} {args : List AV} {K1 : AV → Heap → Prop} (hc : ACalls Q.prog f args A K1) :
    ACalls Q.prog f args H fun r H' => ∃ A', K1 r A' ∧ AT H' sz n tag A' B ∧ ∀ x o, H x = some o → A x = none → H' x = some o ∧ A' x = none :=
  (ACalls.frame h.le hc).mono fun r H' ⟨A', k1, k2, k3, k4⟩ => by
    obtain ⟨a1, a2, a3⟩ := App.keep h.app h.two.a k3 k2 k4
    have hB := Heap.le_minus h.two.b h.two.d
    refine ⟨A', k1, ⟨a1, a2, hB.trans a3, k4.le (Heap.le_refl _) (Heap.le_minus h.old h.two.d)⟩, fun x o hx ha => ?_⟩
    have hm : (H.minus A) x = some o := by simp only [Heap.minus, ha]; exact hx
    exact ⟨k3 _ _ hm, k4.symm.none hm⟩

theorem AT.coder (h : AT H sz n tag A B) {q : Nat} (hq : H q = none) (o : AObj) : AT (H.set q o) sz n tag (Heap.one q o) B := by
  obtain ⟨h1, h2⟩ := App.set (x := o) h.app hq
  have hq' : hbase H tag q = none := by
    cases e : hbase H tag q with
    | none => rfl
    | some y => rw [hbase_le _ _ _ _ e] at hq; cases hq
  refine ⟨h1, h2 ▸ ⟨Heap.one_le.2 (Heap.set_same _ _ _), h.two.b.trans (Heap.le_set hq'), Heap.one_disj (h.two.out hq').2⟩⟩
end

theorem RCodAt.new (q : Nat) : RCodAt (Heap.one q (rcbox Clk.zero (.sl [] .full) (.sl [] .full) 0)) q Cod.nil :=
  ⟨Dic.nil_ok, rfl, _, _, Heap.set_same _ _ _, .inl ⟨rfl, rfl⟩, .inl ⟨rfl, rfl⟩⟩

theorem eput_step {S : Cod} {out : Str} {x : It} {r : List It} {z : Str × Nat} (h : eputG S out (x :: r) = z) :
    ((tputE (x.cod S) x.t).2.1 = 0 ∧ eputG (tputE (x.cod S) x.t).2.2 (out ++ x.head :: (tputE (x.cod S) x.t).1) r = z) ∨ ((tputE (x.cod S) x.t).2.1 ≠ 0 ∧ z = ([], (tputE (x.cod S) x.t).2.1)) := by
  rw [eputG] at h
  unfold tputE
  split at h
  · rename_i c; rw [if_pos c]; exact .inl ⟨rfl, h⟩
  · rename_i c; rw [if_neg c]; exact .inr ⟨c, h.symm⟩

attribute [local irreducible] AOps AWP DRun ACalls
attribute [local irreducible] tputE tput

theorem ePut_spec (l : List It) (tag : Tag) (hw : ∀ x ∈ l, x.t.writes.length < 2 ^ 40) (hl : l.length < 2 ^ 32) (H0 : Heap) :
    ACalls Q.prog 25 [.sl (l.map iq) tag] H0 fun r H' => r = .tuple [.sl (encB (eput l).1) .no, .int .i64 ((eput l).2 : Nat)] ∧ H' = H0 := by
  refine ACalls.weak (K := fun r H' => ∃ tg, r = .tuple [.sl (encB (eput l).1) tg, .int .i64 ((eput l).2 : Nat)] ∧ H' = H0) ?_ (fun r H' ⟨tg, e, k⟩ => ⟨_, e ▸ Wk.tuple rfl (fun i hi => ?_), rfl, k⟩)
  · refine ACalls.body (N := 40) Try.func25 rfl rfl rfl rfl ?_
    repeat (first
    | refine AOps.op rfl rfl ?_ | refine AOps.load rfl rfl rfl rfl rfl ?_ | refine AOps.nil ?_ | refine AWP.seq ?_ | refine AWP.region ?_ | refine AWP.block ?_ | refine AWP.skip ?_ | refine AWP.exit ?_ | refine AWP.scope ?_ | refine AWP.label ?_)
    refine AOps.call rfl rfl rfl ((cNew_spec H0).mono ?_)
    rintro _ H1 ⟨c, rfl, hl1, hc1⟩
    have at2 : AT H1 1 0 .full (H1.minus H0) H0 := AT.start (Two.own hl1)
    repeat (first
    | refine AOps.op rfl rfl ?_ | refine AOps.load rfl rfl rfl rfl rfl ?_ | refine AOps.nil ?_ | refine AWP.seq ?_ | refine AWP.region ?_ | refine AWP.skip ?_ | refine AWP.exit ?_ | refine AWP.scope ?_ | refine AWP.label ?_)
    refine AWP.block ?_
    refine AWP.loopA (α := Nat × Cod × Str × Tag × Heap × Heap) (fun a => a.1 ≤ l.length ∧ AT a.2.2.2.2.2 1 a.2.2.1.length a.2.2.2.1 a.2.2.2.2.1 H0 ∧ CodAt a.2.2.2.2.1 c a.2.1 ∧ a.2.2.1.length ≤ 7001 * a.1 ∧
        eputG a.2.1 a.2.2.1 (l.drop a.1) = eputG Cod.nil [] l) (fun a => l.length - a.1)
      (fun a => [(4, .ptr c 0), (5, .sl (encB a.2.2.1) a.2.2.2.1), (12, .sl (l.map iq) tag), (13, .int .i64 l.length), (14, .int .i64 a.1)]) (fun _ => []) (fun a => a.2.2.2.2.2)
      (0, Cod.nil, [], .full, H1.minus H0, H1) ⟨by simp, at2, hc1, by simp, rfl⟩ ⟨rfl, rfl, rfl, ?_, rfl, trivial⟩ rfl (Heap.le_refl _) ?_
    · exact congrArg (fun n : Nat => some (AV.int .i64 n)) (iq_len l)
    unfold eput
    generalize eputG Cod.nil [] l = z
    rintro ⟨i, S, out, tg, A, H3⟩ ⟨i1, i2, i3, i4, i5⟩
    simp only at i1 i2 i3 i4 i5
    dsimp only
    repeat (first
    | refine AOps.op rfl rfl ?_ | refine AOps.load rfl rfl rfl rfl rfl ?_ | refine AOps.nil ?_ | refine AWP.seq ?_ | refine AWP.region ?_ | refine AWP.block ?_ | refine AWP.skip ?_ | refine AWP.exit ?_ | refine AWP.scope ?_ | refine AWP.label ?_)
    refine AWP.cond rfl (fun h => ?_) (fun h => ?_)
    · have hlt : i < l.length := by simp at h; omega
      have ei : IntKind.i64.wrap ((i : Int) + 1) = ((i + 1 : Nat) : Int) := wrap_i64 (n := i + 1) (by omega)
      obtain ⟨x, hx⟩ : ∃ x, l[i]? = some x := ⟨l[i], List.getElem?_eq_getElem hlt⟩
      have hxw := hw x (List.mem_of_getElem? hx)
      rw [drop_cons hx] at i5
      repeat (first
    | refine AOps.op rfl rfl ?_ | refine AOps.load rfl rfl rfl rfl rfl ?_ | refine AOps.nil ?_ | refine AWP.seq ?_ | refine AWP.region ?_ | refine AWP.block ?_ | refine AWP.skip ?_ | refine AWP.exit ?_ | refine AWP.scope ?_ | refine AWP.label ?_)
      refine AOps.indexSl rfl rfl rfl rfl rfl rfl (by omega) (getD_iq hx) rfl rfl ?_
      repeat (first
    | refine AOps.op rfl rfl ?_ | refine AOps.load rfl rfl rfl rfl rfl ?_ | refine AOps.nil ?_ | refine AWP.seq ?_ | refine AWP.region ?_ | refine AWP.block ?_ | refine AWP.skip ?_ | refine AWP.exit ?_ | refine AWP.scope ?_ | refine AWP.label ?_)
      refine AOps.allocH rfl rfl fun q hq => ?_
      refine AOps.storeH rfl rfl rfl (Heap.set_same _ _ _) rfl rfl ?_
      rw [Heap.set_set]
      obtain ⟨at4, hbx, hqA⟩ := i2.set hq (itbox x)
      obtain ⟨H4, hH4⟩ : ∃ H4, H3.set q (itbox x) = H4 := ⟨_, rfl⟩
      rw [hH4] at at4 hbx
      rw [show H3.set q (.box [.bool x.reset, .int .i64 x.t.origin, .int .i64 x.t.seq, .int .i64 x.t.deps.a, .int .i64 x.t.deps.b, .int .i64 x.t.deps.c, .sl (x.t.writes.map wr) .no]) = H4 from hH4]
      clear hH4 hq i2
      repeat (first
    | refine AOps.op rfl rfl ?_ | refine AOps.load rfl rfl rfl rfl rfl ?_ | refine AOps.nil ?_ | refine AWP.seq ?_ | refine AWP.region ?_ | refine AWP.block ?_ | refine AWP.skip ?_ | refine AWP.exit ?_ | refine AWP.scope ?_ | refine AWP.label ?_)
      refine AOps.load rfl (cellsAt_ptr hbx) rfl rfl rfl ?_
      repeat (first
    | refine AOps.op rfl rfl ?_ | refine AOps.load rfl rfl rfl rfl rfl ?_ | refine AOps.nil ?_ | refine AWP.seq ?_ | refine AWP.region ?_ | refine AWP.skip ?_ | refine AWP.exit ?_ | refine AWP.scope ?_ | refine AWP.label ?_)
      refine AWP.thnA (α := Heap × Heap) (fun a => AT a.2 1 out.length tg a.1 H0 ∧ CodAt a.1 c (x.cod S) ∧ a.2 q = some (itbox x))
        (fun a => [(4, .ptr c 0), (5, .sl (encB out) tg), (7, .ptr q 0), (8, .int .u8 x.head.toNat), (12, .sl (l.map iq) tag), (13, .int .i64 l.length), (14, .int .i64 i)]) (fun _ => []) (fun a => a.2) ?_ ?_
      · refine AWP.cond rfl (fun hr => ?_) (fun hr => ?_)
        · repeat (first
    | refine AOps.op rfl rfl ?_ | refine AOps.load rfl rfl rfl rfl rfl ?_ | refine AOps.nil ?_ | refine AWP.seq ?_ | refine AWP.region ?_ | refine AWP.block ?_ | refine AWP.skip ?_ | refine AWP.exit ?_ | refine AWP.scope ?_ | refine AWP.label ?_)
          refine AOps.call (vs := [.ptr c 0]) rfl rfl rfl ((at4.call' (cReset_spec c S A i3)).mono ?_)
          rintro _ H5 ⟨A5, c5, at5, old5⟩
          repeat (first
    | refine AOps.op rfl rfl ?_ | refine AOps.load rfl rfl rfl rfl rfl ?_ | refine AOps.nil ?_ | refine AWP.seq ?_ | refine AWP.region ?_ | refine AWP.block ?_ | refine AWP.skip ?_ | refine AWP.exit ?_ | refine AWP.scope ?_ | refine AWP.label ?_)
          exact ⟨(A5, H5), ⟨at5, by unfold It.cod; rw [if_pos hr]; exact c5, (old5 _ _ hbx hqA).1⟩, ⟨rfl, rfl, rfl, congrArg (fun n : Int => some (AV.int .u8 n)) (by unfold It.head; rw [if_pos hr]; rfl), rfl, rfl, rfl, trivial⟩, rfl, Heap.le_refl _⟩
        · repeat (first
    | refine AOps.op rfl rfl ?_ | refine AOps.load rfl rfl rfl rfl rfl ?_ | refine AOps.nil ?_ | refine AWP.seq ?_ | refine AWP.region ?_ | refine AWP.block ?_ | refine AWP.skip ?_ | refine AWP.exit ?_ | refine AWP.scope ?_ | refine AWP.label ?_)
          have hr' : ¬ x.reset = true := by simp [hr]
          exact ⟨(A, H4), ⟨at4, by unfold It.cod; rw [if_neg hr']; exact i3, hbx⟩, ⟨rfl, rfl, rfl, congrArg (fun n : Int => some (AV.int .u8 n)) (by unfold It.head; rw [if_neg hr']; rfl), rfl, rfl, rfl, trivial⟩, rfl, Heap.le_refl _⟩
      clear at4 hbx hqA i3
      rintro ⟨A, H4⟩ ⟨at4, c4, hbx⟩
      simp only at at4 c4 hbx
      dsimp only
      repeat (first
    | refine AOps.op rfl rfl ?_ | refine AOps.load rfl rfl rfl rfl rfl ?_ | refine AOps.nil ?_ | refine AWP.seq ?_ | refine AWP.region ?_ | refine AWP.block ?_ | refine AWP.skip ?_ | refine AWP.exit ?_ | refine AWP.scope ?_ | refine AWP.label ?_)
      refine AOps.load rfl (cellsAt_ptr hbx) rfl rfl rfl ?_
      refine AOps.call (vs := [.ptr c 0, tn x.t]) rfl rfl rfl ((at4.call (coPut_spec c (x.cod S) x.t .no hxw A c4)).mono ?_)
      rintro _ H5 ⟨A5, ⟨tp, rfl, c5⟩, at5⟩
      have hst := eput_step i5
      have hlen := tputE_len c4.ok x.t
      generalize tputE (x.cod S) x.t = P at *
      obtain ⟨pb, pe, S'⟩ := P
      simp only at c5 hlen hst
      dsimp only
      repeat (first
    | refine AOps.op rfl rfl ?_ | refine AOps.load rfl rfl rfl rfl rfl ?_ | refine AOps.nil ?_ | refine AWP.seq ?_ | refine AWP.region ?_ | refine AWP.block ?_ | refine AWP.skip ?_ | refine AWP.exit ?_ | refine AWP.scope ?_ | refine AWP.label ?_)
      refine AWP.cond rfl (fun h => ?_) (fun h => ?_)
      · have h : pe ≠ 0 := by simp at h; omega
        obtain rfl : z = ([], pe) := hst.resolve_left (fun c => h c.1) |>.2
        repeat (first
    | refine AOps.op rfl rfl ?_ | refine AOps.load rfl rfl rfl rfl rfl ?_ | refine AOps.nil ?_ | refine AWP.seq ?_ | refine AWP.region ?_ | refine AWP.block ?_ | refine AWP.skip ?_ | refine AWP.exit ?_ | refine AWP.scope ?_ | refine AWP.label ?_)
        refine AWP.ret ?_
        exact ⟨_, _, rfl, rfl, at5.old, .full, rfl, rfl⟩
      · have h : pe = 0 := by simp at h; omega
        have hz := (hst.resolve_right (fun c => c.1 h)).2
        repeat (first
    | refine AOps.op rfl rfl ?_ | refine AOps.load rfl rfl rfl rfl rfl ?_ | refine AOps.nil ?_ | refine AWP.seq ?_ | refine AWP.region ?_ | refine AWP.block ?_ | refine AWP.skip ?_ | refine AWP.exit ?_ | refine AWP.scope ?_ | refine AWP.label ?_)
        refine AOps.buildSlice (els := encB [x.head]) rfl rfl rfl ?_
        refine appB H5 (Heap.le_refl _) rfl rfl rfl rfl rfl at5.app (by simp; omega) fun tg6 H6 k1 k2 => ?_
        have at6 := at5.next k1 k2
        repeat (first
    | refine AOps.op rfl rfl ?_ | refine AOps.load rfl rfl rfl rfl rfl ?_ | refine AOps.nil ?_ | refine AWP.seq ?_ | refine AWP.region ?_ | refine AWP.block ?_ | refine AWP.skip ?_ | refine AWP.exit ?_ | refine AWP.scope ?_ | refine AWP.label ?_)
        refine appB H6 (Heap.le_refl _) rfl rfl rfl rfl rfl at6.app (by simp; omega) fun tg7 H7 k1 k2 => ?_
        have at7 := at6.next k1 k2
        rw [show out ++ [x.head] ++ pb = out ++ x.head :: pb by simp] at at7 ⊢
        repeat (first
    | refine AOps.op rfl rfl ?_ | refine AOps.load rfl rfl rfl rfl rfl ?_ | refine AOps.nil ?_ | refine AWP.seq ?_ | refine AWP.region ?_ | refine AWP.block ?_ | refine AWP.skip ?_ | refine AWP.exit ?_ | refine AWP.scope ?_ | refine AWP.label ?_)
        refine ⟨(i + 1, S', out ++ x.head :: pb, tg7, A5, H7), by ((try dsimp only); omega), ⟨hlt, at7, c5, ?_, hz⟩, ⟨rfl, rfl, rfl, rfl, congrArg (fun x => some (AV.int .i64 x)) ei, trivial⟩, rfl, Heap.le_refl _⟩
        simp; omega
    · have h : l.length ≤ i := by simp at h; omega
      rw [List.drop_of_length_le h, eputG] at i5
      subst i5
      repeat (first
    | refine AOps.op rfl rfl ?_ | refine AOps.load rfl rfl rfl rfl rfl ?_ | refine AOps.nil ?_ | refine AWP.seq ?_ | refine AWP.region ?_ | refine AWP.block ?_ | refine AWP.skip ?_ | refine AWP.exit ?_ | refine AWP.scope ?_ | refine AWP.label ?_)
      refine AWP.ret ?_
      exact ⟨_, _, rfl, rfl, i2.old, tg, rfl, rfl⟩
  · match i, hi with
    | 0, _ => exact Wk.sl _ _
    | 1, _ => exact Wk.refl _
    | n + 2, h => exact absurd h (by simp)
end Go.Proofs.Ytlbnhokhhangdaa

/- Streams as the document tells them. -/
namespace Go.Proofs.Ytlbnhokhhangdaa
open Go Go.Am Go.Pk Go.Lib
set_option linter.unusedVariables false
set_option linter.unusedSimpArgs false
set_option maxRecDepth 10000
attribute [local irreducible] AOps AWP DRun ACalls
attribute [local irreducible] tputE tput

theorem R7Put_spec (l : List It) (tag : Tag) (hw : ∀ x ∈ l, x.t.writes.length < 2 ^ 40) (hl : l.length < 2 ^ 32) (H0 : Heap) :
    ACalls Q.prog 26 [.sl (l.map iq) tag] H0 fun r H' => r = .tuple [.sl (encB (eput l).1) .no, .int .i64 ((eput l).2 : Nat)] ∧ H' = H0 := by
  refine ACalls.weak (K := fun r H' => ∃ tg, r = .tuple [.sl (encB (eput l).1) tg, .int .i64 ((eput l).2 : Nat)] ∧ H' = H0) ?_ (fun r H' ⟨tg, e, k⟩ => ⟨_, e ▸ Wk.tuple rfl (fun i hi => ?_), rfl, k⟩)
  · refine ACalls.body (N := 48) Try.func26 rfl rfl rfl rfl ?_
    repeat (first
    | refine AOps.op rfl rfl ?_ | refine AOps.load rfl rfl rfl rfl rfl ?_ | refine AOps.nil ?_ | refine AWP.seq ?_ | refine AWP.region ?_ | refine AWP.block ?_ | refine AWP.skip ?_ | refine AWP.exit ?_ | refine AWP.scope ?_ | refine AWP.label ?_)
    refine AOps.boxH rfl rfl rfl rfl fun q hq => ?_
    obtain ⟨htwo, hr2⟩ := Two.coder (Heap.le_refl H0) hq
    have two := htwo.symm
    clear htwo
    obtain ⟨H1, hH1⟩ : ∃ H1, H0.set q (rcbox Clk.zero (.sl [] .full) (.sl [] .full) 0) = H1 := ⟨_, rfl⟩
    rw [hH1] at two
    rw [show H0.set q (.box (AV.agg [.int .i64 0, .int .i64 0, .int .i64 0, .sl [] .full, .sl [] .full, .int .i64 0]).cells) = H1 from hH1]
    have at2 : AT H1 1 0 .full (Heap.one q (rcbox Clk.zero (.sl [] .full) (.sl [] .full) 0)) H0 := AT.start two
    clear hH1
    repeat (first
    | refine AOps.op rfl rfl ?_ | refine AOps.load rfl rfl rfl rfl rfl ?_ | refine AOps.nil ?_ | refine AWP.seq ?_ | refine AWP.region ?_ | refine AWP.block ?_ | refine AWP.skip ?_ | refine AWP.exit ?_ | refine AWP.scope ?_ | refine AWP.label ?_)
    refine AOps.buildSlice (els := encB []) rfl rfl rfl ?_
    repeat (first
    | refine AOps.op rfl rfl ?_ | refine AOps.load rfl rfl rfl rfl rfl ?_ | refine AOps.nil ?_ | refine AWP.seq ?_ | refine AWP.region ?_ | refine AWP.skip ?_ | refine AWP.exit ?_ | refine AWP.scope ?_ | refine AWP.label ?_)
    refine AWP.block ?_
    refine AWP.loopA (α := Nat × Cod × Str × Tag × Heap × Heap × Nat) (fun a => a.1 ≤ l.length ∧ AT a.2.2.2.2.2.1 1 a.2.2.1.length a.2.2.2.1 a.2.2.2.2.1 H0 ∧ RCodAt a.2.2.2.2.1 a.2.2.2.2.2.2 a.2.1 ∧ a.2.1.d.now ≤ 16 * a.1 ∧ a.2.2.1.length ≤ 7001 * a.1 ∧
        eputG a.2.1 a.2.2.1 (l.drop a.1) = eputG Cod.nil [] l) (fun a => l.length - a.1)
      (fun a => [(0, .sl (l.map iq) tag), (4, .ptr a.2.2.2.2.2.2 0), (5, .sl (encB a.2.2.1) a.2.2.2.1), (6, .int .i64 a.1)]) (fun _ => []) (fun a => a.2.2.2.2.2.1)
      (0, Cod.nil, [], .full, Heap.one q (rcbox Clk.zero (.sl [] .full) (.sl [] .full) 0), H1, q) ⟨by simp, at2, hr2, by simp [Cod.nil, Dic.nil], by simp, rfl⟩ ⟨rfl, rfl, rfl, rfl, trivial⟩ rfl (Heap.le_refl _) ?_
    clear at2 hr2 hq two
    unfold eput
    generalize eputG Cod.nil [] l = z
    rintro ⟨i, S, out, tg, A, H3, c⟩ ⟨i1, i2, i3, i6, i4, i5⟩
    simp only at i1 i2 i3 i4 i5 i6
    dsimp only
    repeat (first
    | refine AOps.op rfl rfl ?_ | refine AOps.load rfl rfl rfl rfl rfl ?_ | refine AOps.nil ?_ | refine AWP.seq ?_ | refine AWP.region ?_ | refine AWP.block ?_ | refine AWP.skip ?_ | refine AWP.exit ?_ | refine AWP.scope ?_ | refine AWP.label ?_)
    refine AWP.cond rfl (fun h => ?_) (fun h => ?_)
    · have hlt : i < l.length := by simp at h; omega
      have ei : IntKind.i64.wrap ((i : Int) + 1) = ((i + 1 : Nat) : Int) := wrap_i64 (n := i + 1) (by omega)
      obtain ⟨x, hx⟩ : ∃ x, l[i]? = some x := ⟨l[i], List.getElem?_eq_getElem hlt⟩
      have hxw := hw x (List.mem_of_getElem? hx)
      rw [drop_cons hx] at i5
      repeat (first
    | refine AOps.op rfl rfl ?_ | refine AOps.load rfl rfl rfl rfl rfl ?_ | refine AOps.nil ?_ | refine AWP.seq ?_ | refine AWP.region ?_ | refine AWP.block ?_ | refine AWP.skip ?_ | refine AWP.exit ?_ | refine AWP.scope ?_ | refine AWP.label ?_)
      refine AOps.indexSl rfl rfl rfl rfl rfl rfl (by omega) (getD_iq hx) rfl rfl ?_
      repeat (first
    | refine AOps.op rfl rfl ?_ | refine AOps.load rfl rfl rfl rfl rfl ?_ | refine AOps.nil ?_ | refine AWP.seq ?_ | refine AWP.region ?_ | refine AWP.skip ?_ | refine AWP.exit ?_ | refine AWP.scope ?_ | refine AWP.label ?_)
      refine AWP.thnA (α := Heap × Heap × Nat × Tag) (fun a => AT a.2.1 1 (out ++ [x.head]).length a.2.2.2 a.1 H0 ∧ RCodAt a.1 a.2.2.1 (x.cod S) ∧ (x.cod S).d.now ≤ 16 * i)
        (fun a => [(0, .sl (l.map iq) tag), (4, .ptr a.2.2.1 0), (5, .sl (encB (out ++ [x.head])) a.2.2.2), (6, .int .i64 i)]) (fun _ => []) (fun a => a.2.1) ?_ ?_
      · refine AWP.cond rfl (fun hr => ?_) (fun hr => ?_)
        · have eh : x.head = 0 := by unfold It.head; rw [if_pos hr]
          have ec : x.cod S = Cod.nil := by unfold It.cod; rw [if_pos hr]
          rw [eh, ec]
          repeat (first
    | refine AOps.op rfl rfl ?_ | refine AOps.load rfl rfl rfl rfl rfl ?_ | refine AOps.nil ?_ | refine AWP.seq ?_ | refine AWP.region ?_ | refine AWP.block ?_ | refine AWP.skip ?_ | refine AWP.exit ?_ | refine AWP.scope ?_ | refine AWP.label ?_)
          refine AOps.boxH rfl rfl rfl rfl fun q hq => ?_
          have at4 := i2.coder hq (rcbox Clk.zero (.sl [] .full) (.sl [] .full) 0)
          obtain ⟨H4, hH4⟩ : ∃ H4, H3.set q (rcbox Clk.zero (.sl [] .full) (.sl [] .full) 0) = H4 := ⟨_, rfl⟩
          rw [hH4] at at4
          rw [show H3.set q (.box (AV.agg [.int .i64 0, .int .i64 0, .int .i64 0, .sl [] .full, .sl [] .full, .int .i64 0]).cells) = H4 from hH4]
          repeat (first
    | refine AOps.op rfl rfl ?_ | refine AOps.load rfl rfl rfl rfl rfl ?_ | refine AOps.nil ?_ | refine AWP.seq ?_ | refine AWP.region ?_ | refine AWP.block ?_ | refine AWP.skip ?_ | refine AWP.exit ?_ | refine AWP.scope ?_ | refine AWP.label ?_)
          refine AOps.buildSlice (els := encB [0]) rfl rfl rfl ?_
          refine appB H4 (Heap.le_refl _) rfl rfl rfl rfl rfl at4.app (by simp; omega) fun tg6 H6 k1 k2 => ?_
          repeat (first
    | refine AOps.op rfl rfl ?_ | refine AOps.load rfl rfl rfl rfl rfl ?_ | refine AOps.nil ?_ | refine AWP.seq ?_ | refine AWP.region ?_ | refine AWP.block ?_ | refine AWP.skip ?_ | refine AWP.exit ?_ | refine AWP.scope ?_ | refine AWP.label ?_)
          exact ⟨(_, H6, q, tg6), ⟨at4.next k1 k2, RCodAt.new q, by simp [Cod.nil, Dic.nil]⟩, ⟨rfl, rfl, rfl, rfl, trivial⟩, rfl, Heap.le_refl _⟩
        · have hr' : ¬ x.reset = true := by simp [hr]
          have eh : x.head = 1 := by unfold It.head; rw [if_neg hr']
          have ec : x.cod S = S := by unfold It.cod; rw [if_neg hr']
          rw [eh, ec]
          repeat (first
    | refine AOps.op rfl rfl ?_ | refine AOps.load rfl rfl rfl rfl rfl ?_ | refine AOps.nil ?_ | refine AWP.seq ?_ | refine AWP.region ?_ | refine AWP.block ?_ | refine AWP.skip ?_ | refine AWP.exit ?_ | refine AWP.scope ?_ | refine AWP.label ?_)
          refine AOps.buildSlice (els := encB [1]) rfl rfl rfl ?_
          refine appB H3 (Heap.le_refl _) rfl rfl rfl rfl rfl i2.app (by simp; omega) fun tg6 H6 k1 k2 => ?_
          repeat (first
    | refine AOps.op rfl rfl ?_ | refine AOps.load rfl rfl rfl rfl rfl ?_ | refine AOps.nil ?_ | refine AWP.seq ?_ | refine AWP.region ?_ | refine AWP.block ?_ | refine AWP.skip ?_ | refine AWP.exit ?_ | refine AWP.scope ?_ | refine AWP.label ?_)
          exact ⟨(A, H6, c, tg6), ⟨i2.next k1 k2, i3, i6⟩, ⟨rfl, rfl, rfl, rfl, trivial⟩, rfl, Heap.le_refl _⟩
      clear i2 i3
      rintro ⟨A, H4, c, tg⟩ ⟨at4, c4, n4⟩
      simp only at at4 c4 n4
      dsimp only
      repeat (first
    | refine AOps.op rfl rfl ?_ | refine AOps.load rfl rfl rfl rfl rfl ?_ | refine AOps.nil ?_ | refine AWP.seq ?_ | refine AWP.region ?_ | refine AWP.block ?_ | refine AWP.skip ?_ | refine AWP.exit ?_ | refine AWP.scope ?_ | refine AWP.label ?_)
      refine AOps.indexSl rfl rfl rfl rfl rfl rfl (by omega) (getD_iq hx) rfl rfl ?_
      repeat (first
    | refine AOps.op rfl rfl ?_ | refine AOps.load rfl rfl rfl rfl rfl ?_ | refine AOps.nil ?_ | refine AWP.seq ?_ | refine AWP.region ?_ | refine AWP.block ?_ | refine AWP.skip ?_ | refine AWP.exit ?_ | refine AWP.scope ?_ | refine AWP.label ?_)
      refine AOps.call (vs := [.ptr c 0, tn x.t]) rfl rfl rfl ((at4.call (R6Put_spec c (x.cod S) x.t .no hxw A c4 (by omega))).mono ?_)
      rintro _ H5 ⟨A5, ⟨tp, rfl, c5, -⟩, at5⟩
      have hnow := tputE_now (S := x.cod S) x.t
      have hst := eput_step i5
      have hlen := tputE_len c4.ok x.t
      generalize tputE (x.cod S) x.t = P at *
      obtain ⟨pb, pe, S'⟩ := P
      simp only at c5 hlen hst hnow
      dsimp only
      repeat (first
    | refine AOps.op rfl rfl ?_ | refine AOps.load rfl rfl rfl rfl rfl ?_ | refine AOps.nil ?_ | refine AWP.seq ?_ | refine AWP.region ?_ | refine AWP.block ?_ | refine AWP.skip ?_ | refine AWP.exit ?_ | refine AWP.scope ?_ | refine AWP.label ?_)
      refine AWP.cond rfl (fun h => ?_) (fun h => ?_)
      · have h : pe ≠ 0 := by simp at h; omega
        obtain rfl : z = ([], pe) := hst.resolve_left (fun c => h c.1) |>.2
        repeat (first
    | refine AOps.op rfl rfl ?_ | refine AOps.load rfl rfl rfl rfl rfl ?_ | refine AOps.nil ?_ | refine AWP.seq ?_ | refine AWP.region ?_ | refine AWP.block ?_ | refine AWP.skip ?_ | refine AWP.exit ?_ | refine AWP.scope ?_ | refine AWP.label ?_)
        refine AWP.ret ?_
        exact ⟨_, _, rfl, rfl, at5.old, .full, rfl, rfl⟩
      · have h : pe = 0 := by simp at h; omega
        have hz := (hst.resolve_right (fun c => c.1 h)).2
        repeat (first
    | refine AOps.op rfl rfl ?_ | refine AOps.load rfl rfl rfl rfl rfl ?_ | refine AOps.nil ?_ | refine AWP.seq ?_ | refine AWP.region ?_ | refine AWP.block ?_ | refine AWP.skip ?_ | refine AWP.exit ?_ | refine AWP.scope ?_ | refine AWP.label ?_)
        refine appB H5 (Heap.le_refl _) rfl rfl rfl rfl rfl at5.app (by simp; omega) fun tg7 H7 k1 k2 => ?_
        have at7 := at5.next k1 k2
        rw [show out ++ [x.head] ++ pb = out ++ x.head :: pb by simp] at at7 ⊢
        repeat (first
    | refine AOps.op rfl rfl ?_ | refine AOps.load rfl rfl rfl rfl rfl ?_ | refine AOps.nil ?_ | refine AWP.seq ?_ | refine AWP.region ?_ | refine AWP.block ?_ | refine AWP.skip ?_ | refine AWP.exit ?_ | refine AWP.scope ?_ | refine AWP.label ?_)
        refine ⟨(i + 1, S', out ++ x.head :: pb, tg7, A5, H7, c), by ((try dsimp only); omega), ⟨hlt, at7, c5, ?_, ?_, hz⟩, ⟨rfl, rfl, rfl, congrArg (fun x => some (AV.int .i64 x)) ei, trivial⟩, rfl, Heap.le_refl _⟩
        · simp; omega
        · simp; omega
    · have h : l.length ≤ i := by simp at h; omega
      rw [List.drop_of_length_le h, eputG] at i5
      subst i5
      repeat (first
    | refine AOps.op rfl rfl ?_ | refine AOps.load rfl rfl rfl rfl rfl ?_ | refine AOps.nil ?_ | refine AWP.seq ?_ | refine AWP.region ?_ | refine AWP.block ?_ | refine AWP.skip ?_ | refine AWP.exit ?_ | refine AWP.scope ?_ | refine AWP.label ?_)
      refine AWP.ret ?_
      exact ⟨_, _, rfl, rfl, i2.old, tg, rfl, rfl⟩
  · match i, hi with
    | 0, _ => exact Wk.sl _ _
    | 1, _ => exact Wk.refl _
    | n + 2, h => exact absurd h (by simp)
end Go.Proofs.Ytlbnhokhhangdaa

/- Batches, read. -/
namespace Go.Proofs.Ytlbnhokhhangdaa
open Go Go.Am Go.Pk Go.Lib
set_option linter.unusedVariables false
set_option linter.unusedSimpArgs false
set_option maxRecDepth 10000

def ufin (b : Str) (r : Except Nat (List Txn × Nat)) (done : List Txn) (used : Nat) : List Txn × Nat :=
  match r with
  | .error e => ([], e)
  | .ok (l, u) => if used + u ≠ b.length then ([], 3) else (done ++ l, 0)

theorem tres_e {S : Cod} {b : Str} (h : (tres S b).2.2.1 = 0) : ttake S b = .ok ((tres S b).1, (tres S b).2.1, (tres S b).2.2.2) := by
  unfold tres at h ⊢
  cases e : ttake S b with
  | ok v => rfl
  | error n => rw [e] at h; exact absurd h (ttake_err e)

theorem tres_err {S : Cod} {b : Str} (h : (tres S b).2.2.1 ≠ 0) : ttake S b = .error (tres S b).2.2.1 := by
  unfold tres at h ⊢
  cases e : ttake S b with
  | ok v => rw [e] at h; exact absurd rfl h
  | error n => rfl

theorem ufin_err {S : Cod} {b : Str} {k used : Nat} {done : List Txn} (h : (tres S (b.drop used)).2.2.1 ≠ 0) : ufin b (utake (k + 1) S (b.drop used)) done used = ([], (tres S (b.drop used)).2.2.1) := by
  rw [utake, tres_err h]; rfl

theorem ufin_ok {S : Cod} {b : Str} {k used : Nat} {done : List Txn} (h : (tres S (b.drop used)).2.2.1 = 0) :
    ufin b (utake (k + 1) S (b.drop used)) done used = ufin b (utake k (tres S (b.drop used)).2.2.2 (b.drop (used + (tres S (b.drop used)).2.1))) (done ++ [(tres S (b.drop used)).1]) (used + (tres S (b.drop used)).2.1) := by
  rw [utake, tres_e h]
  dsimp only
  rw [List.drop_drop]
  cases utake k (tres S (b.drop used)).2.2.2 (b.drop (used + (tres S (b.drop used)).2.1)) with
  | error e => rfl
  | ok v =>
    obtain ⟨l, u⟩ := v
    simp only [ufin]
    rw [show used + ((tres S (b.drop used)).2.1 + u) = used + (tres S (b.drop used)).2.1 + u by omega]
    simp

theorem ufin_end {S : Cod} {b : Str} {used : Nat} {done : List Txn} : ufin b (utake 0 S (b.drop used)) done used = if used ≠ b.length then ([], 3) else (done, 0) := by
  simp [utake, ufin]

attribute [local irreducible] AOps AWP DRun ACalls
attribute [local irreducible] ttake tres vtake utake

theorem Unpack_spec (b : Str) (tag : Tag) (hb : b.length < 2 ^ 40) (H0 : Heap) :
    ACalls Q.prog 32 [.sl (encB b) tag] H0 fun r H' => r = .tuple [.sl ((unpack b).1.map tn) .no, .int .i64 ((unpack b).2 : Nat)] ∧ H' = H0 := by
  refine ACalls.weak (K := fun r H' => ∃ tg, r = .tuple [.sl ((unpack b).1.map tn) tg, .int .i64 ((unpack b).2 : Nat)] ∧ H' = H0) ?_ (fun r H' ⟨tg, e, k⟩ => ⟨_, e ▸ Wk.tuple rfl (fun i hi => ?_), rfl, k⟩)
  · obtain ⟨v1, v2, v3, v4⟩ := vtake_le b
    refine ACalls.body (N := 54) Try.func32 rfl rfl rfl rfl ?_
    repeat (first
    | refine AOps.op rfl rfl ?_ | refine AOps.load rfl rfl rfl rfl rfl ?_ | refine AOps.nil ?_ | refine AWP.seq ?_ | refine AWP.region ?_ | refine AWP.block ?_ | refine AWP.skip ?_ | refine AWP.exit ?_ | refine AWP.scope ?_ | refine AWP.label ?_)
    refine AOps.call rfl rfl rfl ((Take_spec b tag H0 hb).mono ?_)
    rintro _ H1 ⟨rfl, rfl⟩
    have hun : unpack b = if (vtake b).2.2 ≠ 0 then ([], (vtake b).2.2) else if 4 < (vtake b).1 then ([], 4) else ufin b (utake (vtake b).1 Cod.nil (b.drop (vtake b).2.1)) [] (vtake b).2.1 := by
      unfold unpack ufin
      simp only [List.nil_append]
      rfl
    generalize vtake b = V at *
    obtain ⟨m, u0, e0⟩ := V
    simp only at v1 v2 v3 v4 hun
    dsimp only
    repeat (first
    | refine AOps.op rfl rfl ?_ | refine AOps.load rfl rfl rfl rfl rfl ?_ | refine AOps.nil ?_ | refine AWP.seq ?_ | refine AWP.region ?_ | refine AWP.block ?_ | refine AWP.skip ?_ | refine AWP.exit ?_ | refine AWP.scope ?_ | refine AWP.label ?_)
    refine AWP.cond rfl (fun h => ?_) (fun h => ?_)
    · have h : e0 ≠ 0 := by simp at h; omega
      rw [if_pos h] at hun
      rw [hun]
      repeat (first
    | refine AOps.op rfl rfl ?_ | refine AOps.load rfl rfl rfl rfl rfl ?_ | refine AOps.nil ?_ | refine AWP.seq ?_ | refine AWP.region ?_ | refine AWP.block ?_ | refine AWP.skip ?_ | refine AWP.exit ?_ | refine AWP.scope ?_ | refine AWP.label ?_)
      refine AWP.ret ?_
      exact ⟨_, _, rfl, rfl, Heap.le_refl _, .full, rfl, rfl⟩
    have h : e0 = 0 := by simp at h; omega
    subst h
    rw [if_neg (by simp)] at hun
    repeat (first
    | refine AOps.op rfl rfl ?_ | refine AOps.load rfl rfl rfl rfl rfl ?_ | refine AOps.nil ?_ | refine AWP.seq ?_ | refine AWP.region ?_ | refine AWP.block ?_ | refine AWP.skip ?_ | refine AWP.exit ?_ | refine AWP.scope ?_ | refine AWP.label ?_)
    refine AWP.cond rfl (fun h => ?_) (fun h => ?_)
    · have h : 4 < m := by simp at h; omega
      rw [if_pos h] at hun
      rw [hun]
      repeat (first
    | refine AOps.op rfl rfl ?_ | refine AOps.load rfl rfl rfl rfl rfl ?_ | refine AOps.nil ?_ | refine AWP.seq ?_ | refine AWP.region ?_ | refine AWP.block ?_ | refine AWP.skip ?_ | refine AWP.exit ?_ | refine AWP.scope ?_ | refine AWP.label ?_)
      refine AWP.ret ?_
      exact ⟨_, _, rfl, rfl, Heap.le_refl _, .full, rfl, rfl⟩
    have h4 : m ≤ 4 := by simp at h; omega
    rw [if_neg (by omega)] at hun
    rw [hun]
    clear hun h
    repeat (first
    | refine AOps.op rfl rfl ?_ | refine AOps.load rfl rfl rfl rfl rfl ?_ | refine AOps.nil ?_ | refine AWP.seq ?_ | refine AWP.region ?_ | refine AWP.block ?_ | refine AWP.skip ?_ | refine AWP.exit ?_ | refine AWP.scope ?_ | refine AWP.label ?_)
    refine AOps.call rfl rfl rfl ((cNew_spec H1).mono ?_)
    rintro _ H2 ⟨c, rfl, hl1, hc1⟩
    have at2 : AT H2 6 0 .full (H2.minus H1) H1 := AT.start (Two.own hl1)
    repeat (first
    | refine AOps.op rfl rfl ?_ | refine AOps.load rfl rfl rfl rfl rfl ?_ | refine AOps.nil ?_ | refine AWP.seq ?_ | refine AWP.region ?_ | refine AWP.skip ?_ | refine AWP.exit ?_ | refine AWP.scope ?_ | refine AWP.label ?_)
    refine AWP.block ?_
    refine AWP.loopA (α := Nat × Cod × List Txn × Nat × Tag × Heap × Heap) (fun a => a.1 ≤ m ∧ AT a.2.2.2.2.2.2 6 a.2.2.1.length a.2.2.2.2.1 a.2.2.2.2.2.1 H1 ∧ CodAt a.2.2.2.2.2.1 c a.2.1 ∧ a.2.2.1.length ≤ a.1 ∧ a.2.2.2.1 ≤ b.length ∧
        ufin b (utake (m - a.1) a.2.1 (b.drop a.2.2.2.1)) a.2.2.1 a.2.2.2.1 = ufin b (utake m Cod.nil (b.drop u0)) [] u0) (fun a => m - a.1)
      (fun a => [(0, .sl (encB b) tag), (5, .int .i64 a.2.2.2.1), (7, .ptr c 0), (8, .sl (a.2.2.1.map tn) a.2.2.2.2.1), (26, .int .u64 m), (27, .int .u64 a.1)]) (fun _ => []) (fun a => a.2.2.2.2.2.2)
      (0, Cod.nil, [], u0, .full, H2.minus H1, H2) ⟨by simp, at2, hc1, by simp, v1, rfl⟩ ⟨rfl, rfl, rfl, rfl, rfl, rfl, trivial⟩ rfl (Heap.le_refl _) ?_
    generalize ufin b (utake m Cod.nil (b.drop u0)) [] u0 = z
    rintro ⟨i, S, done, used, tg, A, H3⟩ ⟨i1, i2, i3, i4, i5, i6⟩
    simp only at i1 i2 i3 i4 i5 i6
    dsimp only
    repeat (first
    | refine AOps.op rfl rfl ?_ | refine AOps.load rfl rfl rfl rfl rfl ?_ | refine AOps.nil ?_ | refine AWP.seq ?_ | refine AWP.region ?_ | refine AWP.block ?_ | refine AWP.skip ?_ | refine AWP.exit ?_ | refine AWP.scope ?_ | refine AWP.label ?_)
    refine AWP.cond rfl (fun h => ?_) (fun h => ?_)
    · have hlt : i < m := by simp at h; omega
      have ei : IntKind.u64.wrap ((i : Int) + 1) = ((i + 1 : Nat) : Int) := wrap_u64 (n := i + 1) (by omega)
      rw [show m - i = (m - (i + 1)) + 1 by omega] at i6
      repeat (first
    | refine AOps.op rfl rfl ?_ | refine AOps.load rfl rfl rfl rfl rfl ?_ | refine AOps.nil ?_ | refine AWP.seq ?_ | refine AWP.region ?_ | refine AWP.block ?_ | refine AWP.skip ?_ | refine AWP.exit ?_ | refine AWP.scope ?_ | refine AWP.label ?_)
      refine AOps.step rfl rfl (cutFrom used rfl rfl i5 ?_)
      repeat (first
    | refine AOps.op rfl rfl ?_ | refine AOps.load rfl rfl rfl rfl rfl ?_ | refine AOps.nil ?_ | refine AWP.seq ?_ | refine AWP.region ?_ | refine AWP.block ?_ | refine AWP.skip ?_ | refine AWP.exit ?_ | refine AWP.scope ?_ | refine AWP.label ?_)
      refine AOps.call (vs := [.ptr c 0, .sl (encB (b.drop used)) .no]) rfl rfl rfl ((i2.call (coTake_no c S (b.drop used) .no A i3 (by rw [List.length_drop]; omega))).mono ?_)
      rintro _ H4 ⟨A4, ⟨rfl, c4⟩, at4⟩
      have hn := (tres_ok i3.ok (b.drop used)).2.2.2
      rw [List.length_drop] at hn
      have herr := ufin_err (S := S) (b := b) (k := m - (i + 1)) (used := used) (done := done)
      have hokk := ufin_ok (S := S) (b := b) (k := m - (i + 1)) (used := used) (done := done)
      generalize tres S (b.drop used) = P at *
      obtain ⟨T, n, e, S'⟩ := P
      simp only at c4 hn herr hokk
      dsimp only
      have es : IntKind.i64.wrap ((used : Int) + (n : Nat)) = ((used + n : Nat) : Int) := wrap_i64 (n := used + n) (by omega)
      repeat (first
    | refine AOps.op rfl rfl ?_ | refine AOps.load rfl rfl rfl rfl rfl ?_ | refine AOps.nil ?_ | refine AWP.seq ?_ | refine AWP.region ?_ | refine AWP.block ?_ | refine AWP.skip ?_ | refine AWP.exit ?_ | refine AWP.scope ?_ | refine AWP.label ?_)
      refine AOps.allocH rfl rfl fun q hq => ?_
      refine AOps.storeH rfl rfl rfl (Heap.set_same _ _ _) rfl rfl ?_
      rw [Heap.set_set]
      obtain ⟨at5, hbx, -⟩ := at4.set hq (tbox T .no)
      obtain ⟨H5, hH5⟩ : ∃ H5, H4.set q (tbox T .no) = H5 := ⟨_, rfl⟩
      rw [hH5] at at5 hbx
      rw [show H4.set q (.box [.int .i64 T.origin, .int .i64 T.seq, .int .i64 T.deps.a, .int .i64 T.deps.b, .int .i64 T.deps.c, .sl (T.writes.map wr) .no]) = H5 from hH5]
      clear hH5
      repeat (first
    | refine AOps.op rfl rfl ?_ | refine AOps.load rfl rfl rfl rfl rfl ?_ | refine AOps.nil ?_ | refine AWP.seq ?_ | refine AWP.region ?_ | refine AWP.block ?_ | refine AWP.skip ?_ | refine AWP.exit ?_ | refine AWP.scope ?_ | refine AWP.label ?_)
      refine AWP.cond rfl (fun h => ?_) (fun h => ?_)
      · have h : e ≠ 0 := by simp at h; omega
        rw [herr h] at i6
        subst i6
        repeat (first
    | refine AOps.op rfl rfl ?_ | refine AOps.load rfl rfl rfl rfl rfl ?_ | refine AOps.nil ?_ | refine AWP.seq ?_ | refine AWP.region ?_ | refine AWP.block ?_ | refine AWP.skip ?_ | refine AWP.exit ?_ | refine AWP.scope ?_ | refine AWP.label ?_)
        refine AWP.ret ?_
        exact ⟨_, _, rfl, rfl, at5.old, .full, rfl, rfl⟩
      · have h : e = 0 := by simp at h; omega
        rw [hokk h] at i6
        repeat (first
    | refine AOps.op rfl rfl ?_ | refine AOps.load rfl rfl rfl rfl rfl ?_ | refine AOps.nil ?_ | refine AWP.seq ?_ | refine AWP.region ?_ | refine AWP.block ?_ | refine AWP.skip ?_ | refine AWP.exit ?_ | refine AWP.scope ?_ | refine AWP.label ?_)
        refine AOps.load rfl (cellsAt_ptr hbx) rfl rfl rfl ?_
        repeat (first
    | refine AOps.op rfl rfl ?_ | refine AOps.load rfl rfl rfl rfl rfl ?_ | refine AOps.nil ?_ | refine AWP.seq ?_ | refine AWP.region ?_ | refine AWP.block ?_ | refine AWP.skip ?_ | refine AWP.exit ?_ | refine AWP.scope ?_ | refine AWP.label ?_)
        refine AOps.buildSlice (els := [T].map tn) rfl rfl rfl ?_
        refine AOps.step rfl rfl (appT H5 (Heap.le_refl _) rfl rfl at5.app (by simp; omega) fun tg6 H6 k1 k2 => ?_)
        repeat (first
    | refine AOps.op rfl rfl ?_ | refine AOps.load rfl rfl rfl rfl rfl ?_ | refine AOps.nil ?_ | refine AWP.seq ?_ | refine AWP.region ?_ | refine AWP.block ?_ | refine AWP.skip ?_ | refine AWP.exit ?_ | refine AWP.scope ?_ | refine AWP.label ?_)
        refine ⟨(i + 1, S', done ++ [T], used + n, tg6, A4, H6), by ((try dsimp only); omega), ⟨hlt, at5.next k1 k2, c4, by simp; omega, by ((try dsimp only); omega), i6⟩, ⟨rfl, congrArg (fun x => some (AV.int .i64 x)) es, rfl, rfl, rfl, congrArg (fun x => some (AV.int .u64 x)) ei, trivial⟩, rfl, Heap.le_refl _⟩
    · have h : i = m := by simp at h; omega
      rw [h, Nat.sub_self, ufin_end] at i6
      subst i6
      repeat (first
    | refine AOps.op rfl rfl ?_ | refine AOps.load rfl rfl rfl rfl rfl ?_ | refine AOps.nil ?_ | refine AWP.seq ?_ | refine AWP.region ?_ | refine AWP.block ?_ | refine AWP.skip ?_ | refine AWP.exit ?_ | refine AWP.scope ?_ | refine AWP.label ?_)
      have ec : (((used : Nat) : Int) != (((encB b).length : Nat) : Int)) = decide (used ≠ b.length) := by rw [encB_length]; rw [Bool.eq_iff_iff]; simp; omega
      refine AWP.cond rfl (fun h => ?_) (fun h => ?_)
      · rw [ec] at h
        rw [if_pos (by simpa using h)]
        repeat (first
    | refine AOps.op rfl rfl ?_ | refine AOps.load rfl rfl rfl rfl rfl ?_ | refine AOps.nil ?_ | refine AWP.seq ?_ | refine AWP.region ?_ | refine AWP.block ?_ | refine AWP.skip ?_ | refine AWP.exit ?_ | refine AWP.scope ?_ | refine AWP.label ?_)
        refine AWP.ret ?_
        exact ⟨_, _, rfl, rfl, i2.old, .full, rfl, rfl⟩
      · rw [ec] at h
        rw [if_neg (by simpa using h)]
        repeat (first
    | refine AOps.op rfl rfl ?_ | refine AOps.load rfl rfl rfl rfl rfl ?_ | refine AOps.nil ?_ | refine AWP.seq ?_ | refine AWP.region ?_ | refine AWP.block ?_ | refine AWP.skip ?_ | refine AWP.exit ?_ | refine AWP.scope ?_ | refine AWP.label ?_)
        refine AWP.ret ?_
        exact ⟨_, _, rfl, rfl, i2.old, tg, rfl, rfl⟩
  · match i, hi with
    | 0, _ => exact Wk.sl _ _
    | 1, _ => exact Wk.refl _
    | n + 2, h => exact absurd h (by simp)
end Go.Proofs.Ytlbnhokhhangdaa

/- Batches as the document reads them. -/
namespace Go.Proofs.Ytlbnhokhhangdaa
open Go Go.Am Go.Pk Go.Lib
set_option linter.unusedVariables false
set_option linter.unusedSimpArgs false
set_option maxRecDepth 10000
attribute [local irreducible] AOps AWP DRun ACalls
attribute [local irreducible] ttake tres vtake utake

theorem R7Unpack_spec (b : Str) (tag : Tag) (hb : b.length < 2 ^ 40) (H0 : Heap) :
    ACalls Q.prog 33 [.sl (encB b) tag] H0 fun r H' => r = .tuple [.sl ((unpack b).1.map tn) .no, .int .i64 ((unpack b).2 : Nat)] ∧ H' = H0 := by
  refine ACalls.weak (K := fun r H' => ∃ tg, r = .tuple [.sl ((unpack b).1.map tn) tg, .int .i64 ((unpack b).2 : Nat)] ∧ H' = H0) ?_ (fun r H' ⟨tg, e, k⟩ => ⟨_, e ▸ Wk.tuple rfl (fun i hi => ?_), rfl, k⟩)
  · obtain ⟨v1, v2, v3, v4⟩ := vtake_le b
    refine ACalls.body (N := 57) Try.func33 rfl rfl rfl rfl ?_
    repeat (first
    | refine AOps.op rfl rfl ?_ | refine AOps.load rfl rfl rfl rfl rfl ?_ | refine AOps.nil ?_ | refine AWP.seq ?_ | refine AWP.region ?_ | refine AWP.block ?_ | refine AWP.skip ?_ | refine AWP.exit ?_ | refine AWP.scope ?_ | refine AWP.label ?_)
    refine AOps.call rfl rfl rfl ((R1Take_spec b tag H0 hb).mono ?_)
    rintro _ H1 ⟨rfl, rfl⟩
    have hun : unpack b = if (vtake b).2.2 ≠ 0 then ([], (vtake b).2.2) else if 4 < (vtake b).1 then ([], 4) else ufin b (utake (vtake b).1 Cod.nil (b.drop (vtake b).2.1)) [] (vtake b).2.1 := by
      unfold unpack ufin
      simp only [List.nil_append]
      rfl
    generalize vtake b = V at *
    obtain ⟨m, u0, e0⟩ := V
    simp only at v1 v2 v3 v4 hun
    dsimp only
    repeat (first
    | refine AOps.op rfl rfl ?_ | refine AOps.load rfl rfl rfl rfl rfl ?_ | refine AOps.nil ?_ | refine AWP.seq ?_ | refine AWP.region ?_ | refine AWP.block ?_ | refine AWP.skip ?_ | refine AWP.exit ?_ | refine AWP.scope ?_ | refine AWP.label ?_)
    refine AWP.cond rfl (fun h => ?_) (fun h => ?_)
    · have h : e0 ≠ 0 := by simp at h; omega
      rw [if_pos h] at hun
      rw [hun]
      repeat (first
    | refine AOps.op rfl rfl ?_ | refine AOps.load rfl rfl rfl rfl rfl ?_ | refine AOps.nil ?_ | refine AWP.seq ?_ | refine AWP.region ?_ | refine AWP.block ?_ | refine AWP.skip ?_ | refine AWP.exit ?_ | refine AWP.scope ?_ | refine AWP.label ?_)
      refine AWP.ret ?_
      exact ⟨_, _, rfl, rfl, Heap.le_refl _, .full, rfl, rfl⟩
    have h : e0 = 0 := by simp at h; omega
    subst h
    rw [if_neg (by simp)] at hun
    repeat (first
    | refine AOps.op rfl rfl ?_ | refine AOps.load rfl rfl rfl rfl rfl ?_ | refine AOps.nil ?_ | refine AWP.seq ?_ | refine AWP.region ?_ | refine AWP.block ?_ | refine AWP.skip ?_ | refine AWP.exit ?_ | refine AWP.scope ?_ | refine AWP.label ?_)
    refine AWP.cond rfl (fun h => ?_) (fun h => ?_)
    · have h : 4 < m := by simp at h; omega
      rw [if_pos h] at hun
      rw [hun]
      repeat (first
    | refine AOps.op rfl rfl ?_ | refine AOps.load rfl rfl rfl rfl rfl ?_ | refine AOps.nil ?_ | refine AWP.seq ?_ | refine AWP.region ?_ | refine AWP.block ?_ | refine AWP.skip ?_ | refine AWP.exit ?_ | refine AWP.scope ?_ | refine AWP.label ?_)
      refine AWP.ret ?_
      exact ⟨_, _, rfl, rfl, Heap.le_refl _, .full, rfl, rfl⟩
    have h4 : m ≤ 4 := by simp at h; omega
    rw [if_neg (by omega)] at hun
    rw [hun]
    clear hun h
    repeat (first
    | refine AOps.op rfl rfl ?_ | refine AOps.load rfl rfl rfl rfl rfl ?_ | refine AOps.nil ?_ | refine AWP.seq ?_ | refine AWP.region ?_ | refine AWP.block ?_ | refine AWP.skip ?_ | refine AWP.exit ?_ | refine AWP.scope ?_ | refine AWP.label ?_)
    refine AOps.boxH rfl rfl rfl rfl fun q hq => ?_
    obtain ⟨htwo, hr2⟩ := Two.coder (Heap.le_refl H1) hq
    have two := htwo.symm
    clear htwo
    obtain ⟨H2, hH1⟩ : ∃ H2, H1.set q (rcbox Clk.zero (.sl [] .full) (.sl [] .full) 0) = H2 := ⟨_, rfl⟩
    rw [hH1] at two
    rw [show H1.set q (.box (AV.agg [.int .i64 0, .int .i64 0, .int .i64 0, .sl [] .full, .sl [] .full, .int .i64 0]).cells) = H2 from hH1]
    have at2 : AT H2 6 0 .full (Heap.one q (rcbox Clk.zero (.sl [] .full) (.sl [] .full) 0)) H1 := AT.start two
    clear hH1
    have em : IntKind.i64.wrap ((m : Nat) : Int) = ((m : Nat) : Int) := wrap_i64 (n := m) (by omega)
    repeat (first
    | refine AOps.op rfl rfl ?_ | refine AOps.load rfl rfl rfl rfl rfl ?_ | refine AOps.nil ?_ | refine AWP.seq ?_ | refine AWP.region ?_ | refine AWP.block ?_ | refine AWP.skip ?_ | refine AWP.exit ?_ | refine AWP.scope ?_ | refine AWP.label ?_)
    refine AOps.buildSlice (els := []) rfl rfl rfl ?_
    repeat (first
    | refine AOps.op rfl rfl ?_ | refine AOps.load rfl rfl rfl rfl rfl ?_ | refine AOps.nil ?_ | refine AWP.seq ?_ | refine AWP.region ?_ | refine AWP.skip ?_ | refine AWP.exit ?_ | refine AWP.scope ?_ | refine AWP.label ?_)
    refine AWP.block ?_
    refine AWP.loopA (α := Nat × Cod × List Txn × Nat × Tag × Heap × Heap) (fun a => a.1 ≤ m ∧ AT a.2.2.2.2.2.2 6 a.2.2.1.length a.2.2.2.2.1 a.2.2.2.2.2.1 H1 ∧ RCodAt a.2.2.2.2.2.1 q a.2.1 ∧ a.2.1.d.now ≤ 16 * a.1 ∧ a.2.2.1.length ≤ a.1 ∧ a.2.2.2.1 ≤ b.length ∧
        ufin b (utake (m - a.1) a.2.1 (b.drop a.2.2.2.1)) a.2.2.1 a.2.2.2.1 = ufin b (utake m Cod.nil (b.drop u0)) [] u0) (fun a => m - a.1)
      (fun a => [(0, .sl (encB b) tag), (4, .int .u64 m), (5, .int .i64 a.2.2.2.1), (7, .ptr q 0), (8, .sl (a.2.2.1.map tn) a.2.2.2.2.1), (9, .int .i64 a.1)]) (fun _ => []) (fun a => a.2.2.2.2.2.2)
      (0, Cod.nil, [], u0, .full, Heap.one q (rcbox Clk.zero (.sl [] .full) (.sl [] .full) 0), H2) ⟨by simp, at2, hr2, by simp [Cod.nil, Dic.nil], by simp, v1, rfl⟩ ⟨rfl, rfl, rfl, rfl, rfl, rfl, trivial⟩ rfl (Heap.le_refl _) ?_
    generalize ufin b (utake m Cod.nil (b.drop u0)) [] u0 = z
    rintro ⟨i, S, done, used, tg, A, H3⟩ ⟨i1, i2, i3, i7, i4, i5, i6⟩
    simp only at i1 i2 i3 i4 i5 i6 i7
    dsimp only
    repeat (first
    | refine AOps.op rfl rfl ?_ | refine AOps.load rfl rfl rfl rfl rfl ?_ | refine AOps.nil ?_ | refine AWP.seq ?_ | refine AWP.region ?_ | refine AWP.block ?_ | refine AWP.skip ?_ | refine AWP.exit ?_ | refine AWP.scope ?_ | refine AWP.label ?_)
    refine AWP.cond rfl (fun h => ?_) (fun h => ?_)
    · rw [em] at h
      have hlt : i < m := by simp at h; omega
      have ei : IntKind.i64.wrap ((i : Int) + 1) = ((i + 1 : Nat) : Int) := wrap_i64 (n := i + 1) (by omega)
      rw [show m - i = (m - (i + 1)) + 1 by omega] at i6
      repeat (first
    | refine AOps.op rfl rfl ?_ | refine AOps.load rfl rfl rfl rfl rfl ?_ | refine AOps.nil ?_ | refine AWP.seq ?_ | refine AWP.region ?_ | refine AWP.block ?_ | refine AWP.skip ?_ | refine AWP.exit ?_ | refine AWP.scope ?_ | refine AWP.label ?_)
      refine AOps.step rfl rfl (cutFrom used rfl rfl i5 ?_)
      repeat (first
    | refine AOps.op rfl rfl ?_ | refine AOps.load rfl rfl rfl rfl rfl ?_ | refine AOps.nil ?_ | refine AWP.seq ?_ | refine AWP.region ?_ | refine AWP.block ?_ | refine AWP.skip ?_ | refine AWP.exit ?_ | refine AWP.scope ?_ | refine AWP.label ?_)
      refine AOps.call (vs := [.ptr q 0, .sl (encB (b.drop used)) .no]) rfl rfl rfl ((i2.call (R6Take_no q S (b.drop used) .no A i3 (by rw [List.length_drop]; omega) (by omega))).mono ?_)
      rintro _ H4 ⟨A4, ⟨rfl, c4, -⟩, at4⟩
      have hn := (tres_ok i3.ok (b.drop used)).2.2.2
      have hnow := (tres_ok i3.ok (b.drop used)).2.1
      rw [List.length_drop] at hn
      have herr := ufin_err (S := S) (b := b) (k := m - (i + 1)) (used := used) (done := done)
      have hokk := ufin_ok (S := S) (b := b) (k := m - (i + 1)) (used := used) (done := done)
      generalize tres S (b.drop used) = P at *
      obtain ⟨T, n, e, S'⟩ := P
      simp only at c4 hn herr hokk hnow
      dsimp only
      have es : IntKind.i64.wrap ((used : Int) + (n : Nat)) = ((used + n : Nat) : Int) := wrap_i64 (n := used + n) (by omega)
      repeat (first
    | refine AOps.op rfl rfl ?_ | refine AOps.load rfl rfl rfl rfl rfl ?_ | refine AOps.nil ?_ | refine AWP.seq ?_ | refine AWP.region ?_ | refine AWP.block ?_ | refine AWP.skip ?_ | refine AWP.exit ?_ | refine AWP.scope ?_ | refine AWP.label ?_)
      refine AOps.allocH rfl rfl fun y hy => ?_
      refine AOps.storeH rfl rfl rfl (Heap.set_same _ _ _) rfl rfl ?_
      rw [Heap.set_set]
      obtain ⟨at5, hbx, -⟩ := at4.set hy (tbox T .no)
      obtain ⟨H5, hH5⟩ : ∃ H5, H4.set y (tbox T .no) = H5 := ⟨_, rfl⟩
      rw [hH5] at at5 hbx
      rw [show H4.set y (.box [.int .i64 T.origin, .int .i64 T.seq, .int .i64 T.deps.a, .int .i64 T.deps.b, .int .i64 T.deps.c, .sl (T.writes.map wr) .no]) = H5 from hH5]
      clear hH5
      repeat (first
    | refine AOps.op rfl rfl ?_ | refine AOps.load rfl rfl rfl rfl rfl ?_ | refine AOps.nil ?_ | refine AWP.seq ?_ | refine AWP.region ?_ | refine AWP.block ?_ | refine AWP.skip ?_ | refine AWP.exit ?_ | refine AWP.scope ?_ | refine AWP.label ?_)
      refine AWP.cond rfl (fun h => ?_) (fun h => ?_)
      · have h : e ≠ 0 := by simp at h; omega
        rw [herr h] at i6
        subst i6
        repeat (first
    | refine AOps.op rfl rfl ?_ | refine AOps.load rfl rfl rfl rfl rfl ?_ | refine AOps.nil ?_ | refine AWP.seq ?_ | refine AWP.region ?_ | refine AWP.block ?_ | refine AWP.skip ?_ | refine AWP.exit ?_ | refine AWP.scope ?_ | refine AWP.label ?_)
        refine AWP.ret ?_
        exact ⟨_, _, rfl, rfl, at5.old, .full, rfl, rfl⟩
      · have h : e = 0 := by simp at h; omega
        rw [hokk h] at i6
        repeat (first
    | refine AOps.op rfl rfl ?_ | refine AOps.load rfl rfl rfl rfl rfl ?_ | refine AOps.nil ?_ | refine AWP.seq ?_ | refine AWP.region ?_ | refine AWP.block ?_ | refine AWP.skip ?_ | refine AWP.exit ?_ | refine AWP.scope ?_ | refine AWP.label ?_)
        refine AOps.load rfl (cellsAt_ptr hbx) rfl rfl rfl ?_
        repeat (first
    | refine AOps.op rfl rfl ?_ | refine AOps.load rfl rfl rfl rfl rfl ?_ | refine AOps.nil ?_ | refine AWP.seq ?_ | refine AWP.region ?_ | refine AWP.block ?_ | refine AWP.skip ?_ | refine AWP.exit ?_ | refine AWP.scope ?_ | refine AWP.label ?_)
        refine AOps.buildSlice (els := [T].map tn) rfl rfl rfl ?_
        refine AOps.step rfl rfl (appT H5 (Heap.le_refl _) rfl rfl at5.app (by simp; omega) fun tg6 H6 k1 k2 => ?_)
        repeat (first
    | refine AOps.op rfl rfl ?_ | refine AOps.load rfl rfl rfl rfl rfl ?_ | refine AOps.nil ?_ | refine AWP.seq ?_ | refine AWP.region ?_ | refine AWP.block ?_ | refine AWP.skip ?_ | refine AWP.exit ?_ | refine AWP.scope ?_ | refine AWP.label ?_)
        refine ⟨(i + 1, S', done ++ [T], used + n, tg6, A4, H6), by ((try dsimp only); omega), ⟨hlt, at5.next k1 k2, c4, by ((try dsimp only); omega), by simp; omega, by ((try dsimp only); omega), i6⟩, ⟨rfl, rfl, congrArg (fun x => some (AV.int .i64 x)) es, rfl, rfl, congrArg (fun x => some (AV.int .i64 x)) ei, trivial⟩, rfl, Heap.le_refl _⟩
    · rw [em] at h
      have h : i = m := by simp at h; omega
      rw [h, Nat.sub_self, ufin_end] at i6
      subst i6
      repeat (first
    | refine AOps.op rfl rfl ?_ | refine AOps.load rfl rfl rfl rfl rfl ?_ | refine AOps.nil ?_ | refine AWP.seq ?_ | refine AWP.region ?_ | refine AWP.block ?_ | refine AWP.skip ?_ | refine AWP.exit ?_ | refine AWP.scope ?_ | refine AWP.label ?_)
      have ec : decide (((used : Nat) : Int) < (((encB b).length : Nat) : Int)) = decide (used ≠ b.length) := by rw [encB_length, decide_eq_decide]; omega
      refine AWP.cond rfl (fun h => ?_) (fun h => ?_)
      · rw [ec] at h
        rw [if_pos (by simpa using h)]
        repeat (first
    | refine AOps.op rfl rfl ?_ | refine AOps.load rfl rfl rfl rfl rfl ?_ | refine AOps.nil ?_ | refine AWP.seq ?_ | refine AWP.region ?_ | refine AWP.block ?_ | refine AWP.skip ?_ | refine AWP.exit ?_ | refine AWP.scope ?_ | refine AWP.label ?_)
        refine AWP.ret ?_
        exact ⟨_, _, rfl, rfl, i2.old, .full, rfl, rfl⟩
      · rw [ec] at h
        rw [if_neg (by simpa using h)]
        repeat (first
    | refine AOps.op rfl rfl ?_ | refine AOps.load rfl rfl rfl rfl rfl ?_ | refine AOps.nil ?_ | refine AWP.seq ?_ | refine AWP.region ?_ | refine AWP.block ?_ | refine AWP.skip ?_ | refine AWP.exit ?_ | refine AWP.scope ?_ | refine AWP.label ?_)
        refine AWP.ret ?_
        exact ⟨_, _, rfl, rfl, i2.old, tg, rfl, rfl⟩
  · match i, hi with
    | 0, _ => exact Wk.sl _ _
    | 1, _ => exact Wk.refl _
    | n + 2, h => exact absurd h (by simp)
end Go.Proofs.Ytlbnhokhhangdaa

/- Streams as the document reads them. -/
namespace Go.Proofs.Ytlbnhokhhangdaa
open Go Go.Am Go.Pk Go.Lib
set_option linter.unusedVariables false
set_option linter.unusedSimpArgs false
set_option maxRecDepth 10000

/-- What has come, and what comes yet. -/
def efin (z : List It × Nat × Nat) (done : List It) (used : Nat) : List It × Nat × Nat := (done ++ z.1, used + z.2.1, z.2.2)

theorem etake_end {S : Cod} {b : Str} {used : Nat} (h : b.length ≤ used) : etake S (b.drop used) = ([], 0, 0) := by
  rw [List.drop_of_length_le h]; rfl

theorem efin_ok {S : Cod} {b : Str} {used : Nat} {h : UInt8} {done : List It} (hh : ¬ 1 < h.toNat) (hd : b.drop used = h :: b.drop (used + 1)) (he : (tres (if h = 0 then Cod.nil else S) (b.drop (used + 1))).2.2.1 = 0) :
    efin (etake S (b.drop used)) done used = efin (etake (tres (if h = 0 then Cod.nil else S) (b.drop (used + 1))).2.2.2 (b.drop (used + 1 + (tres (if h = 0 then Cod.nil else S) (b.drop (used + 1))).2.1)))
      (done ++ [⟨decide (h = 0), (tres (if h = 0 then Cod.nil else S) (b.drop (used + 1))).1⟩]) (used + 1 + (tres (if h = 0 then Cod.nil else S) (b.drop (used + 1))).2.1) := by
  rw [hd, etake_ok hh (tres_e he)]
  unfold efin
  dsimp only
  rw [List.drop_drop]
  simp
  omega

theorem efin_err {S : Cod} {b : Str} {used : Nat} {h : UInt8} {done : List It} (hh : ¬ 1 < h.toNat) (hd : b.drop used = h :: b.drop (used + 1)) (he : (tres (if h = 0 then Cod.nil else S) (b.drop (used + 1))).2.2.1 ≠ 0) :
    efin (etake S (b.drop used)) done used = (done, used, (tres (if h = 0 then Cod.nil else S) (b.drop (used + 1))).2.2.1) := by
  rw [hd, etake_err hh (tres_err he)]
  simp [efin]

theorem efin_form {S : Cod} {b : Str} {used : Nat} {h : UInt8} {done : List It} (hh : 1 < h.toNat) (hd : b.drop used = h :: b.drop (used + 1)) : efin (etake S (b.drop used)) done used = (done, used, 3) := by
  rw [hd, etake_form hh]
  simp [efin]

theorem u8_zero {h : UInt8} : ((h.toNat : Int) == 0) = decide (h = 0) := by
  rw [Bool.eq_iff_iff]
  simp only [beq_iff_eq, decide_eq_true_eq]
  constructor
  · intro e; exact UInt8.toNat_inj.1 (by simp; omega)
  · rintro rfl; rfl

def eres (z : List It × Nat × Nat) (tag : Tag) : AV := .tuple [.sl (z.1.map iq) tag, .int .i64 (z.2.1 : Nat), .int .i64 (z.2.2 : Nat)]
theorem eres_weak (z : List It × Nat × Nat) (tag : Tag) : Wk (eres z tag) (eres z .no) := Wk.tuple rfl fun i hi => by
  match i, hi with
  | 0, _ => exact Wk.sl _ _
  | 1, _ => exact Wk.refl _
  | 2, _ => exact Wk.refl _
  | n + 3, h => exact absurd h (by simp)

attribute [local irreducible] AOps AWP DRun ACalls
attribute [local irreducible] ttake tres etake

set_option maxHeartbeats 1000000 in
theorem R7Take_spec (b : Str) (tag : Tag) (hb : b.length < 2 ^ 30) (H0 : Heap) :
    ACalls Q.prog 29 [.sl (encB b) tag] H0 fun r H' => r = eres (etake Cod.nil b) .no ∧ H' = H0 := by
  refine ACalls.weak (K := fun r H' => ∃ tg, r = eres (etake Cod.nil b) tg ∧ H' = H0) ?_ (fun r H' ⟨tg, e, k⟩ => ⟨_, e ▸ eres_weak _ _, rfl, k⟩)
  have hbl := encB_length b
  refine ACalls.body (N := 73) Try.func29 rfl rfl rfl rfl ?_
  repeat (first
    | refine AOps.op rfl rfl ?_ | refine AOps.load rfl rfl rfl rfl rfl ?_ | refine AOps.nil ?_ | refine AWP.seq ?_ | refine AWP.region ?_ | refine AWP.block ?_ | refine AWP.skip ?_ | refine AWP.exit ?_ | refine AWP.scope ?_ | refine AWP.label ?_)
  refine AOps.boxH rfl rfl rfl rfl fun q hq => ?_
  obtain ⟨htwo, hr2⟩ := Two.coder (Heap.le_refl H0) hq
  have two := htwo.symm
  clear htwo
  obtain ⟨H1, hH1⟩ : ∃ H1, H0.set q (rcbox Clk.zero (.sl [] .full) (.sl [] .full) 0) = H1 := ⟨_, rfl⟩
  rw [hH1] at two
  rw [show H0.set q (.box (AV.agg [.int .i64 0, .int .i64 0, .int .i64 0, .sl [] .full, .sl [] .full, .int .i64 0]).cells) = H1 from hH1]
  have at2 : AT H1 7 0 .full (Heap.one q (rcbox Clk.zero (.sl [] .full) (.sl [] .full) 0)) H0 := AT.start two
  clear hH1
  repeat (first
    | refine AOps.op rfl rfl ?_ | refine AOps.load rfl rfl rfl rfl rfl ?_ | refine AOps.nil ?_ | refine AWP.seq ?_ | refine AWP.region ?_ | refine AWP.block ?_ | refine AWP.skip ?_ | refine AWP.exit ?_ | refine AWP.scope ?_ | refine AWP.label ?_)
  refine AOps.buildSlice (els := []) rfl rfl rfl ?_
  repeat (first
    | refine AOps.op rfl rfl ?_ | refine AOps.load rfl rfl rfl rfl rfl ?_ | refine AOps.nil ?_ | refine AWP.seq ?_ | refine AWP.region ?_ | refine AWP.skip ?_ | refine AWP.exit ?_ | refine AWP.scope ?_ | refine AWP.label ?_)
  refine AWP.block ?_
  refine AWP.loopA (α := Cod × List It × Nat × Tag × Heap × Heap × Nat) (fun a => AT a.2.2.2.2.2.1 7 a.2.1.length a.2.2.2.1 a.2.2.2.2.1 H0 ∧ RCodAt a.2.2.2.2.1 a.2.2.2.2.2.2 a.1 ∧ a.1.d.now ≤ 16 * a.2.2.1 ∧ a.2.1.length ≤ a.2.2.1 ∧ a.2.2.1 ≤ b.length ∧
      efin (etake a.1 (b.drop a.2.2.1)) a.2.1 a.2.2.1 = etake Cod.nil b) (fun a => b.length - a.2.2.1)
    (fun a => [(0, .sl (encB b) tag), (5, .ptr a.2.2.2.2.2.2 0), (6, .sl (a.2.1.map iq) a.2.2.2.1), (7, .int .i64 a.2.2.1)]) (fun _ => []) (fun a => a.2.2.2.2.2.1)
    (Cod.nil, [], 0, .full, Heap.one q (rcbox Clk.zero (.sl [] .full) (.sl [] .full) 0), H1, q) ⟨at2, hr2, by simp [Cod.nil, Dic.nil], by simp, by simp, by simp [efin]⟩ ⟨rfl, rfl, rfl, rfl, trivial⟩ rfl (Heap.le_refl _) ?_
  generalize etake Cod.nil b = z
  clear at2 hr2 hq two
  rintro ⟨S, done, used, tg, A, H3, c⟩ ⟨i1, i2, i3, i4, i5, i6⟩
  simp only at i1 i2 i3 i4 i5 i6
  dsimp only
  repeat (first
    | refine AOps.op rfl rfl ?_ | refine AOps.load rfl rfl rfl rfl rfl ?_ | refine AOps.nil ?_ | refine AWP.seq ?_ | refine AWP.region ?_ | refine AWP.block ?_ | refine AWP.skip ?_ | refine AWP.exit ?_ | refine AWP.scope ?_ | refine AWP.label ?_)
  refine AWP.cond rfl (fun h => ?_) (fun h => ?_)
  · have hlt : used < b.length := by simp at h; omega
    obtain ⟨hd, hc⟩ : ∃ c, b[used]? = some c := ⟨b[used], List.getElem?_eq_getElem hlt⟩
    have hdrop := drop_of_get hc
    have hc2 := hd.toNat_lt
    repeat (first
    | refine AOps.op rfl rfl ?_ | refine AOps.load rfl rfl rfl rfl rfl ?_ | refine AOps.nil ?_ | refine AWP.seq ?_ | refine AWP.region ?_ | refine AWP.block ?_ | refine AWP.skip ?_ | refine AWP.exit ?_ | refine AWP.scope ?_ | refine AWP.label ?_)
    refine AOps.indexSl rfl rfl rfl rfl rfl rfl (by ((try dsimp only); omega)) (encB_get hc) rfl rfl ?_
    repeat (first
    | refine AOps.op rfl rfl ?_ | refine AOps.load rfl rfl rfl rfl rfl ?_ | refine AOps.nil ?_ | refine AWP.seq ?_ | refine AWP.region ?_ | refine AWP.block ?_ | refine AWP.skip ?_ | refine AWP.exit ?_ | refine AWP.scope ?_ | refine AWP.label ?_)
    refine AOps.and (j := 5) (y := ((hd.toNat : Int) != 1)) [_, _, _, _, _] rfl rfl rfl rfl rfl rfl rfl (fun hb => ?_) ?_
    · repeat (first | refine AOps.unguard rfl rfl (by assumption) ?_ | refine AOps.op rfl rfl ?_ | refine AOps.load rfl rfl rfl rfl rfl ?_)
      refine AOps.indexSl rfl rfl rfl rfl rfl rfl (by ((try dsimp only); omega)) (encB_get hc) rfl rfl ?_
      repeat (first | refine AOps.unguard rfl rfl (by assumption) ?_ | refine AOps.op rfl rfl ?_ | refine AOps.load rfl rfl rfl rfl rfl ?_)
      exact AOps.nil (GuardEnd.of 5 rfl rfl rfl rfl rfl)
    have hform : (((hd.toNat : Int) != 0) && ((hd.toNat : Int) != 1)) = decide (1 < hd.toNat) := by
      rw [Bool.eq_iff_iff]; simp; omega
    refine AOps.nil ?_
    refine AWP.cond rfl (fun h => ?_) (fun h => ?_)
    · rw [hform] at h
      have h : 1 < hd.toNat := by simpa using h
      rw [efin_form h hdrop] at i6
      subst i6
      repeat (first
    | refine AOps.op rfl rfl ?_ | refine AOps.load rfl rfl rfl rfl rfl ?_ | refine AOps.nil ?_ | refine AWP.seq ?_ | refine AWP.region ?_ | refine AWP.block ?_ | refine AWP.skip ?_ | refine AWP.exit ?_ | refine AWP.scope ?_ | refine AWP.label ?_)
      refine AWP.ret ?_
      exact ⟨_, _, rfl, rfl, i1.old, tg, rfl, rfl⟩
    rw [hform] at h
    have hh : ¬ 1 < hd.toNat := by simpa using h
    clear hform h
    have hstep := efin_ok (S := S) (done := done) hh hdrop
    have hbad := efin_err (S := S) (done := done) hh hdrop
    have eu : IntKind.i64.wrap ((used : Int) + 1) = ((used + 1 : Nat) : Int) := wrap_i64 (n := used + 1) (by omega)
    have hSn : (if hd = 0 then Cod.nil else S).d.now ≤ 16 * used := by
      split
      · simp [Cod.nil, Dic.nil]
      · exact i3
    repeat (first
    | refine AOps.op rfl rfl ?_ | refine AOps.load rfl rfl rfl rfl rfl ?_ | refine AOps.nil ?_ | refine AWP.seq ?_ | refine AWP.region ?_ | refine AWP.block ?_ | refine AWP.skip ?_ | refine AWP.exit ?_ | refine AWP.scope ?_ | refine AWP.label ?_)
    refine AOps.indexSl rfl rfl rfl rfl rfl rfl (by ((try dsimp only); omega)) (encB_get hc) rfl rfl ?_
    repeat (first
    | refine AOps.op rfl rfl ?_ | refine AOps.load rfl rfl rfl rfl rfl ?_ | refine AOps.nil ?_ | refine AWP.seq ?_ | refine AWP.region ?_ | refine AWP.skip ?_ | refine AWP.exit ?_ | refine AWP.scope ?_ | refine AWP.label ?_)
    refine AWP.thnA (α := Heap × Heap × Nat) (fun a => AT a.2.1 7 done.length tg a.1 H0 ∧ RCodAt a.1 a.2.2 (if hd = 0 then Cod.nil else S))
      (fun a => [(0, .sl (encB b) tag), (6, .sl (done.map iq) tg), (7, .int .i64 used), (8, .ptr a.2.2 0)]) (fun _ => []) (fun a => a.2.1) ?_ ?_
    · refine AWP.cond (by rw [← u8_zero]; rfl) (t := decide (hd = 0)) (fun h => ?_) (fun h => ?_)
      · rw [if_pos (by simpa using h)]
        repeat (first
    | refine AOps.op rfl rfl ?_ | refine AOps.load rfl rfl rfl rfl rfl ?_ | refine AOps.nil ?_ | refine AWP.seq ?_ | refine AWP.region ?_ | refine AWP.block ?_ | refine AWP.skip ?_ | refine AWP.exit ?_ | refine AWP.scope ?_ | refine AWP.label ?_)
        refine AOps.boxH rfl rfl rfl rfl fun q hq => ?_
        have at4 := i1.coder hq (rcbox Clk.zero (.sl [] .full) (.sl [] .full) 0)
        obtain ⟨H4, hH4⟩ : ∃ H4, H3.set q (rcbox Clk.zero (.sl [] .full) (.sl [] .full) 0) = H4 := ⟨_, rfl⟩
        rw [hH4] at at4
        rw [show H3.set q (.box (AV.agg [.int .i64 0, .int .i64 0, .int .i64 0, .sl [] .full, .sl [] .full, .int .i64 0]).cells) = H4 from hH4]
        repeat (first
    | refine AOps.op rfl rfl ?_ | refine AOps.load rfl rfl rfl rfl rfl ?_ | refine AOps.nil ?_ | refine AWP.seq ?_ | refine AWP.region ?_ | refine AWP.block ?_ | refine AWP.skip ?_ | refine AWP.exit ?_ | refine AWP.scope ?_ | refine AWP.label ?_)
        exact ⟨(_, H4, q), ⟨at4, RCodAt.new q⟩, ⟨rfl, rfl, rfl, rfl, trivial⟩, rfl, Heap.le_refl _⟩
      · rw [if_neg (by simpa using h)]
        repeat (first
    | refine AOps.op rfl rfl ?_ | refine AOps.load rfl rfl rfl rfl rfl ?_ | refine AOps.nil ?_ | refine AWP.seq ?_ | refine AWP.region ?_ | refine AWP.block ?_ | refine AWP.skip ?_ | refine AWP.exit ?_ | refine AWP.scope ?_ | refine AWP.label ?_)
        exact ⟨(A, H3, c), ⟨i1, i2⟩, ⟨rfl, rfl, rfl, rfl, trivial⟩, rfl, Heap.le_refl _⟩
    clear i1 i2 i3
    generalize (if hd = 0 then Cod.nil else S) = S0 at *
    rintro ⟨A, H4, c⟩ ⟨i1, i2⟩
    simp only at i1 i2
    dsimp only
    repeat (first
    | refine AOps.op rfl rfl ?_ | refine AOps.load rfl rfl rfl rfl rfl ?_ | refine AOps.nil ?_ | refine AWP.seq ?_ | refine AWP.region ?_ | refine AWP.block ?_ | refine AWP.skip ?_ | refine AWP.exit ?_ | refine AWP.scope ?_ | refine AWP.label ?_)
    refine AOps.step rfl rfl (cutFrom (used + 1) rfl (congrArg (fun x => some (AV.int .i64 x)) eu) (by omega) ?_)
    repeat (first
    | refine AOps.op rfl rfl ?_ | refine AOps.load rfl rfl rfl rfl rfl ?_ | refine AOps.nil ?_ | refine AWP.seq ?_ | refine AWP.region ?_ | refine AWP.block ?_ | refine AWP.skip ?_ | refine AWP.exit ?_ | refine AWP.scope ?_ | refine AWP.label ?_)
    refine AOps.call (vs := [.ptr c 0, .sl (encB (b.drop (used + 1))) .no]) rfl rfl rfl ((i1.call (R6Take_no c S0 (b.drop (used + 1)) .no A i2 (by rw [List.length_drop]; omega) (by omega))).mono ?_)
    rintro _ H5 ⟨A5, ⟨rfl, c5, -⟩, at5⟩
    obtain ⟨-, hnow, -, hn⟩ := tres_ok i2.ok (b.drop (used + 1))
    rw [List.length_drop] at hn
    generalize tres S0 (b.drop (used + 1)) = P at *
    obtain ⟨T, n, e, S'⟩ := P
    simp only at c5 hn hnow hstep hbad
    dsimp only
    have es : IntKind.i64.wrap (((used + 1 : Nat) : Int) + (n : Nat)) = ((used + 1 + n : Nat) : Int) := wrap_i64 (n := used + 1 + n) (by omega)
    repeat (first
    | refine AOps.op rfl rfl ?_ | refine AOps.load rfl rfl rfl rfl rfl ?_ | refine AOps.nil ?_ | refine AWP.seq ?_ | refine AWP.region ?_ | refine AWP.block ?_ | refine AWP.skip ?_ | refine AWP.exit ?_ | refine AWP.scope ?_ | refine AWP.label ?_)
    refine AOps.allocH rfl rfl fun y hy => ?_
    refine AOps.storeH rfl rfl rfl (Heap.set_same _ _ _) rfl rfl ?_
    rw [Heap.set_set]
    obtain ⟨at6, hbx, -⟩ := at5.set hy (tbox T .no)
    obtain ⟨H6, hH6⟩ : ∃ H6, H5.set y (tbox T .no) = H6 := ⟨_, rfl⟩
    rw [hH6] at at6 hbx
    rw [show H5.set y (.box [.int .i64 T.origin, .int .i64 T.seq, .int .i64 T.deps.a, .int .i64 T.deps.b, .int .i64 T.deps.c, .sl (T.writes.map wr) .no]) = H6 from hH6]
    clear hH6
    repeat (first
    | refine AOps.op rfl rfl ?_ | refine AOps.load rfl rfl rfl rfl rfl ?_ | refine AOps.nil ?_ | refine AWP.seq ?_ | refine AWP.region ?_ | refine AWP.block ?_ | refine AWP.skip ?_ | refine AWP.exit ?_ | refine AWP.scope ?_ | refine AWP.label ?_)
    refine AWP.cond rfl (fun h => ?_) (fun h => ?_)
    · have h : e ≠ 0 := by simp at h; omega
      rw [hbad h] at i6
      subst i6
      repeat (first
    | refine AOps.op rfl rfl ?_ | refine AOps.load rfl rfl rfl rfl rfl ?_ | refine AOps.nil ?_ | refine AWP.seq ?_ | refine AWP.region ?_ | refine AWP.block ?_ | refine AWP.skip ?_ | refine AWP.exit ?_ | refine AWP.scope ?_ | refine AWP.label ?_)
      refine AWP.ret ?_
      exact ⟨_, _, rfl, rfl, at6.old, tg, rfl, rfl⟩
    have h : e = 0 := by simp at h; omega
    rw [hstep h] at i6
    repeat (first
    | refine AOps.op rfl rfl ?_ | refine AOps.load rfl rfl rfl rfl rfl ?_ | refine AOps.nil ?_ | refine AWP.seq ?_ | refine AWP.region ?_ | refine AWP.block ?_ | refine AWP.skip ?_ | refine AWP.exit ?_ | refine AWP.scope ?_ | refine AWP.label ?_)
    refine AWP.draw [[], [], [], [1, 2], [1, 2, 3], [1, 2, 3, 4], [], [1, 2, 3, 4, 5, 6], [1, 2, 3, 4, 5, 6, 7], [0, 1, 2, 3, 4, 5, 6, 7, 8], [0, 1, 2, 3, 4, 5, 6, 7, 8, 9]] [(0, .pure), (1, .pure), (2, .pure), (3, .pure), (4, .read), (5, .pure), (6, .read), (7, .pure), (8, .pure), (9, .eff), (10, .pure)] rfl ?_
    repeat (first | refine DRun.op rfl rfl rfl ?_ | refine DRun.loadI rfl rfl rfl rfl rfl ?_ | refine DRun.load rfl rfl rfl rfl rfl rfl ?_ | refine DRun.nil ?_)
    refine DRun.indexSl rfl rfl rfl rfl rfl rfl rfl (by ((try dsimp only); omega)) (encB_get hc) rfl rfl ?_
    repeat (first | refine DRun.op rfl rfl rfl ?_ | refine DRun.loadI rfl rfl rfl rfl rfl ?_ | refine DRun.load rfl rfl rfl rfl rfl rfl ?_ | refine DRun.nil ?_)
    refine DRun.load rfl rfl rfl (cellsAt_ptr hbx) rfl rfl ?_
    repeat (first | refine DRun.op rfl rfl rfl ?_ | refine DRun.loadI rfl rfl rfl rfl rfl ?_ | refine DRun.load rfl rfl rfl rfl rfl rfl ?_ | refine DRun.nil ?_)
    refine DRun.buildSlice (els := [(⟨decide (hd = 0), T⟩ : It)].map iq) rfl rfl rfl (by rw [u8_zero]; rfl) ?_
    refine DRun.eff rfl rfl rfl (appR H6 (Heap.le_refl _) rfl rfl at6.app (by simp; omega) fun tg7 H7 k1 k2 => ⟨?_, ?_⟩)
    · repeat (first | exact Chk.nil | refine Chk.pre rfl ?_ | refine Chk.load rfl rfl rfl rfl ?_)
    repeat (first | refine DRun.op rfl rfl rfl ?_ | refine DRun.loadI rfl rfl rfl rfl rfl ?_ | refine DRun.load rfl rfl rfl rfl rfl rfl ?_ | refine DRun.nil ?_)
    repeat (first
    | refine AOps.op rfl rfl ?_ | refine AOps.load rfl rfl rfl rfl rfl ?_ | refine AOps.nil ?_ | refine AWP.seq ?_ | refine AWP.region ?_ | refine AWP.block ?_ | refine AWP.skip ?_ | refine AWP.exit ?_ | refine AWP.scope ?_ | refine AWP.label ?_)
    refine ⟨(S', done ++ [⟨decide (hd = 0), T⟩], used + 1 + n, tg7, A5, H7, c), by ((try dsimp only); omega), ⟨at6.next k1 k2, c5, by ((try dsimp only); omega), by simp; omega, by ((try dsimp only); omega), i6⟩, ⟨rfl, rfl, rfl, ?_, trivial⟩, rfl, Heap.le_refl _⟩
    exact congrArg (fun x => some (AV.int .i64 x)) (by rw [eu]; exact es)
  · have h : b.length ≤ used := by simp at h; omega
    rw [etake_end h] at i6
    subst i6
    repeat (first
    | refine AOps.op rfl rfl ?_ | refine AOps.load rfl rfl rfl rfl rfl ?_ | refine AOps.nil ?_ | refine AWP.seq ?_ | refine AWP.region ?_ | refine AWP.block ?_ | refine AWP.skip ?_ | refine AWP.exit ?_ | refine AWP.scope ?_ | refine AWP.label ?_)
    refine AWP.ret ?_
    refine ⟨_, _, rfl, rfl, i1.old, tg, ?_, rfl⟩
    simp [efin, eres]; rfl
end Go.Proofs.Ytlbnhokhhangdaa

/- The iterator of items: beside whatever its loop keeps. -/
namespace Go.Proofs.Ytlbnhokhhangdaa
open Go Go.Am Go.Pk Go.Lib
set_option linter.unusedVariables false
set_option linter.unusedSimpArgs false
set_option maxRecDepth 10000

theorem AYield.first {l : Nat} {args : List AV} {H A B : Heap} {K1 : AV → Heap → Prop} (h : Two H A B) (hc : AYield Q.prog l args A K1) :
    AYield Q.prog l args H fun r H' => ∃ A', K1 r A' ∧ Two H' A' B ∧ ∀ x o, H x = some o → A x = none → H' x = some o ∧ A' x = none :=
  ARun.part (YRun.mono _ _) h.a hc fun r A' k1 hg => by
    have k4 : Disj A' (H.minus A) := hg.disj (Heap.minus_le H A) (Heap.disj_minus H A)
    have hB := Heap.le_minus h.b h.d
    refine ⟨A', k1, ⟨Heap.le_over _ _, hB.trans (Heap.le_over' k4), k4.le (Heap.le_refl _) hB⟩, fun x o hx ha => ?_⟩
    have hm : (H.minus A) x = some o := by simp only [Heap.minus, ha]; exact hx
    exact ⟨Heap.le_over' k4 _ _ hm, k4.symm.none hm⟩

theorem Two.store {H A B : Heap} (h : Two H A B) {x : Nat} (ha : A x = none) (hb : B x = none) (o : AObj) : Two (H.set x o) A B ∧ (H.set x o) x = some o ∧ ∀ y p, y ≠ x → H y = some p → (H.set x o) y = some p := by
  refine ⟨⟨fun k y e => ?_, fun k y e => ?_, h.d⟩, Heap.set_same _ _ _, fun y p hy e => by rw [Heap.set_ne _ _ hy]; exact e⟩
  · have : k ≠ x := by rintro rfl; rw [ha] at e; cases e
    rw [Heap.set_ne _ _ this]; exact h.a _ _ e
  · have : k ≠ x := by rintro rfl; rw [hb] at e; cases e
    rw [Heap.set_ne _ _ this]; exact h.b _ _ e

/-- An item, how many bytes it has, why there is none. -/
abbrev td (x : It) (tag : Tag) (n e : Int) : AV := .agg [.bool x.reset, .int .i64 x.t.origin, .int .i64 x.t.seq, .int .i64 x.t.deps.a, .int .i64 x.t.deps.b, .int .i64 x.t.deps.c, .sl (x.t.writes.map wr) tag, .int .i64 n, .int .i64 e]
def tdbox (x : It) (tag : Tag) (n e : Int) : AObj := .box [.bool x.reset, .int .i64 x.t.origin, .int .i64 x.t.seq, .int .i64 x.t.deps.a, .int .i64 x.t.deps.b, .int .i64 x.t.deps.c, .sl (x.t.writes.map wr) tag, .int .i64 n, .int .i64 e]

theorem estep_form {S : Cod} {h : UInt8} {r : Str} {done : List It} {used : Nat} (hh : 1 < h.toNat) : efin (etake S (h :: r)) done used = (done, used, 3) := by
  rw [etake_form hh]; simp [efin]
theorem estep_err {S : Cod} {h : UInt8} {r : Str} {done : List It} {used : Nat} (hh : ¬ 1 < h.toNat) (he : (tres (if h = 0 then Cod.nil else S) r).2.2.1 ≠ 0) :
    efin (etake S (h :: r)) done used = (done, used, (tres (if h = 0 then Cod.nil else S) r).2.2.1) := by
  rw [etake_err hh (tres_err he)]; simp [efin]
theorem estep_ok {S : Cod} {h : UInt8} {r : Str} {done : List It} {used : Nat} (hh : ¬ 1 < h.toNat) (he : (tres (if h = 0 then Cod.nil else S) r).2.2.1 = 0) :
    efin (etake S (h :: r)) done used = efin (etake (tres (if h = 0 then Cod.nil else S) r).2.2.2 (r.drop (tres (if h = 0 then Cod.nil else S) r).2.1)) (done ++ [⟨decide (h = 0), (tres (if h = 0 then Cod.nil else S) r).1⟩]) (used + ((tres (if h = 0 then Cod.nil else S) r).2.1 + 1)) := by
  rw [etake_ok hh (tres_e he)]; simp [efin]; omega

attribute [local irreducible] AOps AWP DRun ACalls
attribute [local irreducible] ttake tres etake AYield

theorem items_spec (b : Str) (tag : Tag) (H : Heap) :
    ACalls Q.prog 59 [.sl (encB b) tag] H fun r H' => ∃ x, r = .func 78 [] [.ptr x 0] ∧ H x = none ∧ H' = H.set x (.box [.sl (encB b) tag]) := by
  refine ACalls.body (N := 4) Try.func59 rfl rfl rfl rfl ?_
  repeat (first
    | refine AOps.op rfl rfl ?_ | refine AOps.load rfl rfl rfl rfl rfl ?_ | refine AOps.nil ?_ | refine AWP.seq ?_ | refine AWP.region ?_ | refine AWP.block ?_ | refine AWP.skip ?_ | refine AWP.exit ?_ | refine AWP.scope ?_ | refine AWP.label ?_)
  refine AOps.boxH rfl rfl rfl rfl fun q hq => ?_
  repeat (first
    | refine AOps.op rfl rfl ?_ | refine AOps.load rfl rfl rfl rfl rfl ?_ | refine AOps.nil ?_ | refine AWP.seq ?_ | refine AWP.region ?_ | refine AWP.block ?_ | refine AWP.skip ?_ | refine AWP.exit ?_ | refine AWP.scope ?_ | refine AWP.label ?_)
  refine AWP.ret ?_
  exact ⟨_, _, rfl, rfl, Heap.le_refl _, q, rfl, hq, rfl⟩

set_option maxHeartbeats 1000000 in
theorem items1_spec (l x : Nat) (b : Str) (tag : Tag) (hb : b.length < 2 ^ 30) (J : List It → Nat → Heap → Prop) (JX : List It → Nat → Nat → Heap → Prop)
    (good : ∀ done used Hj y n, J done used Hj → done.length ≤ used → used + n ≤ b.length → AYield Q.prog l [td y .no (n : Nat) (0 : Nat)] Hj fun r H' => r = .bool true ∧ J (done ++ [y]) (used + n) H')
    (bad : ∀ done used Hj y tg n e, J done used Hj → (e : Nat) ≠ 0 → AYield Q.prog l [td y tg n (e : Nat)] Hj fun r H' => r = .bool false ∧ JX done used e H')
    (H Hj : Heap) (hx : H x = some (.box [.sl (encB b) tag])) (hj : Hj.le H) (hjx : Hj x = none) (h0 : J [] 0 Hj) :
    ACalls Q.prog 78 [.yield l, .ptr x 0] H fun _ H' =>
      (∃ Hj, J (etake Cod.nil b).1 (etake Cod.nil b).2.1 Hj ∧ Hj.le H' ∧ (etake Cod.nil b).2.2 = 0) ∨
      (∃ Hj, JX (etake Cod.nil b).1 (etake Cod.nil b).2.1 (etake Cod.nil b).2.2 Hj ∧ Hj.le H') := by
  refine ACalls.body (N := 56) Try.func78 rfl rfl rfl rfl ?_
  repeat (first
    | refine AOps.op rfl rfl ?_ | refine AOps.load rfl rfl rfl rfl rfl ?_ | refine AOps.nil ?_ | refine AWP.seq ?_ | refine AWP.region ?_ | refine AWP.block ?_ | refine AWP.skip ?_ | refine AWP.exit ?_ | refine AWP.scope ?_ | refine AWP.label ?_)
  refine AOps.call rfl rfl rfl ((cNew_spec H).mono ?_)
  rintro _ H1 ⟨c, rfl, hl1, hc1⟩
  have tw1 := Two.own hl1
  have hx1 := hl1 _ _ hx
  have hax1 : (H1.minus H) x = none := by simp only [Heap.minus, hx]
  have tw2 : Two H1 (H1.minus H) Hj := ⟨tw1.a, hj.trans hl1, tw1.d.le (Heap.le_refl _) hj⟩
  repeat (first
    | refine AOps.op rfl rfl ?_ | refine AOps.load rfl rfl rfl rfl rfl ?_ | refine AOps.nil ?_ | refine AWP.seq ?_ | refine AWP.region ?_ | refine AWP.skip ?_ | refine AWP.exit ?_ | refine AWP.scope ?_ | refine AWP.label ?_)
  refine AWP.block ?_
  refine AWP.loopA (α := Cod × Str × Tag × List It × Nat × Heap × Heap × Heap) (fun a => Two a.2.2.2.2.2.2.2 a.2.2.2.2.2.1 a.2.2.2.2.2.2.1 ∧ CodAt a.2.2.2.2.2.1 c a.1 ∧ a.2.2.2.2.2.2.2 x = some (.box [.sl (encB a.2.1) a.2.2.1]) ∧
      a.2.2.2.2.2.1 x = none ∧ a.2.2.2.2.2.2.1 x = none ∧ J a.2.2.2.1 a.2.2.2.2.1 a.2.2.2.2.2.2.1 ∧ a.2.2.2.1.length ≤ a.2.2.2.2.1 ∧ a.2.2.2.2.1 + a.2.1.length = b.length ∧ efin (etake a.1 a.2.1) a.2.2.2.1 a.2.2.2.2.1 = etake Cod.nil b) (fun a => a.2.1.length)
    (fun a => [(0, .yield l), (1, .ptr x 0), (3, .ptr c 0)]) (fun _ => []) (fun a => a.2.2.2.2.2.2.2)
    (Cod.nil, b, tag, [], 0, H1.minus H, Hj, H1) ⟨tw2, hc1, hx1, hax1, hjx, h0, by simp, by simp, by simp [efin]⟩ ⟨rfl, rfl, rfl, trivial⟩ rfl (Heap.le_refl _) ?_
  generalize etake Cod.nil b = z
  clear tw1 tw2 hx1 hax1 hc1 h0 hjx hj hx
  rintro ⟨S, rest, tg, done, used, A, Hj, H2⟩ ⟨i1, i2, i3, i4, i5, i6, i7, i8, i9⟩
  simp only at i1 i2 i3 i4 i5 i6 i7 i8 i9
  dsimp only
  have hrl := encB_length rest
  repeat (first
    | refine AOps.op rfl rfl ?_ | refine AOps.load rfl rfl rfl rfl rfl ?_ | refine AOps.nil ?_ | refine AWP.seq ?_ | refine AWP.region ?_ | refine AWP.block ?_ | refine AWP.skip ?_ | refine AWP.exit ?_ | refine AWP.scope ?_ | refine AWP.label ?_)
  refine AOps.load rfl (cellsAt_ptr i3) rfl rfl rfl ?_
  repeat (first
    | refine AOps.op rfl rfl ?_ | refine AOps.load rfl rfl rfl rfl rfl ?_ | refine AOps.nil ?_ | refine AWP.seq ?_ | refine AWP.region ?_ | refine AWP.block ?_ | refine AWP.skip ?_ | refine AWP.exit ?_ | refine AWP.scope ?_ | refine AWP.label ?_)
  refine AWP.cond rfl (fun h => ?_) (fun h => ?_)
  · have hlt : 0 < rest.length := by simp at h; omega
    obtain ⟨hd, r, rfl⟩ : ∃ hd r, rest = hd :: r := by
      cases rest with
      | nil => simp at hlt
      | cons a r => exact ⟨a, r, rfl⟩
    simp only [List.length_cons] at i8
    have hc2 := hd.toNat_lt
    repeat (first
    | refine AOps.op rfl rfl ?_ | refine AOps.load rfl rfl rfl rfl rfl ?_ | refine AOps.nil ?_ | refine AWP.seq ?_ | refine AWP.region ?_ | refine AWP.block ?_ | refine AWP.skip ?_ | refine AWP.exit ?_ | refine AWP.scope ?_ | refine AWP.label ?_)
    refine AOps.load rfl (cellsAt_ptr i3) rfl rfl rfl ?_
    repeat (first
    | refine AOps.op rfl rfl ?_ | refine AOps.load rfl rfl rfl rfl rfl ?_ | refine AOps.nil ?_ | refine AWP.seq ?_ | refine AWP.region ?_ | refine AWP.block ?_ | refine AWP.skip ?_ | refine AWP.exit ?_ | refine AWP.scope ?_ | refine AWP.label ?_)
    refine AOps.indexSl rfl rfl rfl rfl rfl rfl (by simp) rfl rfl rfl ?_
    repeat (first
    | refine AOps.op rfl rfl ?_ | refine AOps.load rfl rfl rfl rfl rfl ?_ | refine AOps.nil ?_ | refine AWP.seq ?_ | refine AWP.region ?_ | refine AWP.block ?_ | refine AWP.skip ?_ | refine AWP.exit ?_ | refine AWP.scope ?_ | refine AWP.label ?_)
    rw [u8_zero]
    refine AOps.allocH rfl rfl fun q hq => ?_
    refine AOps.storeH rfl rfl rfl (Heap.set_same _ _ _) rfl rfl ?_
    rw [Heap.set_set]
    obtain ⟨w3, q3, aq, jq, old3⟩ := i1.new hq (tdbox ⟨decide (hd = 0), Txn.zero⟩ .full 0 0)
    have x3 := old3 _ _ i3
    have hxq : x ≠ q := by rintro rfl; rw [hq] at i3; cases i3
    obtain ⟨H3, hH3⟩ : ∃ H3, H2.set q (tdbox ⟨decide (hd = 0), Txn.zero⟩ .full 0 0) = H3 := ⟨_, rfl⟩
    rw [hH3] at w3 q3 x3
    rw [show H2.set q (.box [.bool (decide (hd = 0)), .int .i64 0, .int .i64 0, .int .i64 0, .int .i64 0, .int .i64 0, .sl [] .full, .int .i64 0, .int .i64 0]) = H3 from hH3]
    clear hH3 old3 i1 i3 hq
    repeat (first
    | refine AOps.op rfl rfl ?_ | refine AOps.load rfl rfl rfl rfl rfl ?_ | refine AOps.nil ?_ | refine AWP.seq ?_ | refine AWP.region ?_ | refine AWP.block ?_ | refine AWP.skip ?_ | refine AWP.exit ?_ | refine AWP.scope ?_ | refine AWP.label ?_)
    refine AOps.load rfl (cellsAt_ptr x3) rfl rfl rfl ?_
    repeat (first
    | refine AOps.op rfl rfl ?_ | refine AOps.load rfl rfl rfl rfl rfl ?_ | refine AOps.nil ?_ | refine AWP.seq ?_ | refine AWP.region ?_ | refine AWP.block ?_ | refine AWP.skip ?_ | refine AWP.exit ?_ | refine AWP.scope ?_ | refine AWP.label ?_)
    refine AOps.indexSl rfl rfl rfl rfl rfl rfl (by simp) rfl rfl rfl ?_
    repeat (first
    | refine AOps.op rfl rfl ?_ | refine AOps.load rfl rfl rfl rfl rfl ?_ | refine AOps.nil ?_ | refine AWP.seq ?_ | refine AWP.region ?_ | refine AWP.block ?_ | refine AWP.skip ?_ | refine AWP.exit ?_ | refine AWP.scope ?_ | refine AWP.label ?_)
    refine AWP.cond rfl (fun h => ?_) (fun h => ?_)
    · have h : 1 < hd.toNat := by simp at h; omega
      rw [estep_form h] at i9
      subst i9
      repeat (first
    | refine AOps.op rfl rfl ?_ | refine AOps.load rfl rfl rfl rfl rfl ?_ | refine AOps.nil ?_ | refine AWP.seq ?_ | refine AWP.region ?_ | refine AWP.block ?_ | refine AWP.skip ?_ | refine AWP.exit ?_ | refine AWP.scope ?_ | refine AWP.label ?_)
      refine AOps.step rfl rfl (OpT.callY (vs := [td ⟨false, Txn.zero⟩ .full ((0 : Nat) : Int) ((3 : Nat) : Int)]) rfl rfl rfl ((AYield.first w3.symm (bad done used Hj ⟨false, Txn.zero⟩ .full 0 3 i6 (by decide))).mono ?_))
      rintro _ H4 ⟨J4, ⟨rfl, j4⟩, w4, -⟩
      repeat (first
    | refine AOps.op rfl rfl ?_ | refine AOps.load rfl rfl rfl rfl rfl ?_ | refine AOps.nil ?_ | refine AWP.seq ?_ | refine AWP.region ?_ | refine AWP.block ?_ | refine AWP.skip ?_ | refine AWP.exit ?_ | refine AWP.scope ?_ | refine AWP.label ?_)
      refine AWP.ret ?_
      exact ⟨_, _, rfl, rfl, Heap.le_refl _, .inr ⟨J4, j4, w4.a⟩⟩
    have hh : ¬ 1 < hd.toNat := by simp at h; omega
    clear h
    have hstep := estep_ok (S := S) (r := r) (done := done) (used := used) hh
    have hbad := estep_err (S := S) (r := r) (done := done) (used := used) hh
    repeat (first
    | refine AOps.op rfl rfl ?_ | refine AOps.load rfl rfl rfl rfl rfl ?_ | refine AOps.nil ?_ | refine AWP.seq ?_ | refine AWP.region ?_ | refine AWP.block ?_ | refine AWP.skip ?_ | refine AWP.exit ?_ | refine AWP.scope ?_ | refine AWP.label ?_)
    refine AOps.load rfl (cellsAt_ptr q3) rfl rfl rfl ?_
    repeat (first
    | refine AOps.op rfl rfl ?_ | refine AOps.load rfl rfl rfl rfl rfl ?_ | refine AOps.nil ?_ | refine AWP.seq ?_ | refine AWP.region ?_ | refine AWP.skip ?_ | refine AWP.exit ?_ | refine AWP.scope ?_ | refine AWP.label ?_)
    refine AWP.thnA (α := Heap × Heap) (fun a => Two a.2 a.1 Hj ∧ CodAt a.1 c (if hd = 0 then Cod.nil else S) ∧ a.2 x = some (.box [.sl (encB (hd :: r)) tg]) ∧ a.2 q = some (tdbox ⟨decide (hd = 0), Txn.zero⟩ .full 0 0) ∧ a.1 x = none ∧ a.1 q = none)
      (fun a => [(0, .yield l), (1, .ptr x 0), (3, .ptr c 0), (4, .ptr q 0)]) (fun _ => []) (fun a => a.2) ?_ ?_
    · refine AWP.cond rfl (fun h => ?_) (fun h => ?_)
      · rw [if_pos (by simpa using h)]
        repeat (first
    | refine AOps.op rfl rfl ?_ | refine AOps.load rfl rfl rfl rfl rfl ?_ | refine AOps.nil ?_ | refine AWP.seq ?_ | refine AWP.region ?_ | refine AWP.block ?_ | refine AWP.skip ?_ | refine AWP.exit ?_ | refine AWP.scope ?_ | refine AWP.label ?_)
        refine AOps.call (vs := [.ptr c 0]) rfl rfl rfl ((ACalls.first w3 (cReset_spec c S A i2)).mono ?_)
        rintro _ H4 ⟨A4, c4, w4, old4⟩
        repeat (first
    | refine AOps.op rfl rfl ?_ | refine AOps.load rfl rfl rfl rfl rfl ?_ | refine AOps.nil ?_ | refine AWP.seq ?_ | refine AWP.region ?_ | refine AWP.block ?_ | refine AWP.skip ?_ | refine AWP.exit ?_ | refine AWP.scope ?_ | refine AWP.label ?_)
        exact ⟨(A4, H4), ⟨w4, c4, (old4 _ _ x3 i4).1, (old4 _ _ q3 aq).1, (old4 _ _ x3 i4).2, (old4 _ _ q3 aq).2⟩, ⟨rfl, rfl, rfl, rfl, trivial⟩, rfl, Heap.le_refl _⟩
      · rw [if_neg (by simpa using h)]
        repeat (first
    | refine AOps.op rfl rfl ?_ | refine AOps.load rfl rfl rfl rfl rfl ?_ | refine AOps.nil ?_ | refine AWP.seq ?_ | refine AWP.region ?_ | refine AWP.block ?_ | refine AWP.skip ?_ | refine AWP.exit ?_ | refine AWP.scope ?_ | refine AWP.label ?_)
        exact ⟨(A, H3), ⟨w3, i2, x3, q3, i4, aq⟩, ⟨rfl, rfl, rfl, rfl, trivial⟩, rfl, Heap.le_refl _⟩
    clear w3 i2 x3 q3 i4 aq
    generalize (if hd = 0 then Cod.nil else S) = S0 at *
    rintro ⟨A, H4⟩ ⟨w4, i2, x4, q4, i4, aq⟩
    simp only at w4 i2 x4 q4 i4 aq
    dsimp only
    repeat (first
    | refine AOps.op rfl rfl ?_ | refine AOps.load rfl rfl rfl rfl rfl ?_ | refine AOps.nil ?_ | refine AWP.seq ?_ | refine AWP.region ?_ | refine AWP.block ?_ | refine AWP.skip ?_ | refine AWP.exit ?_ | refine AWP.scope ?_ | refine AWP.label ?_)
    refine AOps.load rfl (cellsAt_ptr x4) rfl rfl rfl ?_
    refine AOps.step rfl rfl (cutFrom 1 rfl rfl (by simp) ?_)
    refine AOps.call (vs := [.ptr c 0, .sl (encB r) .no]) rfl rfl rfl ((ACalls.first w4 (coTake_no c S0 r .no A i2 (by omega))).mono ?_)
    rintro _ H5 ⟨A5, ⟨rfl, c5⟩, w5, old5⟩
    obtain ⟨x5, ax5⟩ := old5 _ _ x4 i4
    obtain ⟨q5, aq5⟩ := old5 _ _ q4 aq
    have hn := (tres_ok i2.ok r).2.2.2
    generalize tres S0 r = P at *
    obtain ⟨T, n, e, S'⟩ := P
    simp only at c5 hn hstep hbad
    dsimp only
    have en : IntKind.i64.wrap (((n : Nat) : Int) + 1) = ((n + 1 : Nat) : Int) := wrap_i64 (n := n + 1) (by omega)
    repeat (first
    | refine AOps.op rfl rfl ?_ | refine AOps.load rfl rfl rfl rfl rfl ?_ | refine AOps.nil ?_ | refine AWP.seq ?_ | refine AWP.region ?_ | refine AWP.block ?_ | refine AWP.skip ?_ | refine AWP.exit ?_ | refine AWP.scope ?_ | refine AWP.label ?_)
    refine AOps.storeH rfl rfl rfl q5 rfl rfl ?_
    repeat (first
    | refine AOps.op rfl rfl ?_ | refine AOps.load rfl rfl rfl rfl rfl ?_ | refine AOps.nil ?_ | refine AWP.seq ?_ | refine AWP.region ?_ | refine AWP.block ?_ | refine AWP.skip ?_ | refine AWP.exit ?_ | refine AWP.scope ?_ | refine AWP.label ?_)
    refine AOps.storeH rfl rfl rfl (Heap.set_same _ _ _) rfl rfl ?_
    rw [Heap.set_set]
    repeat (first
    | refine AOps.op rfl rfl ?_ | refine AOps.load rfl rfl rfl rfl rfl ?_ | refine AOps.nil ?_ | refine AWP.seq ?_ | refine AWP.region ?_ | refine AWP.block ?_ | refine AWP.skip ?_ | refine AWP.exit ?_ | refine AWP.scope ?_ | refine AWP.label ?_)
    refine AOps.storeH rfl rfl rfl (Heap.set_same _ _ _) rfl rfl ?_
    rw [Heap.set_set]
    repeat (first
    | refine AOps.op rfl rfl ?_ | refine AOps.load rfl rfl rfl rfl rfl ?_ | refine AOps.nil ?_ | refine AWP.seq ?_ | refine AWP.region ?_ | refine AWP.block ?_ | refine AWP.skip ?_ | refine AWP.exit ?_ | refine AWP.scope ?_ | refine AWP.label ?_)
    refine AOps.load rfl (cellsAt_ptr (Heap.set_same _ _ _)) rfl rfl rfl ?_
    repeat (first
    | refine AOps.op rfl rfl ?_ | refine AOps.load rfl rfl rfl rfl rfl ?_ | refine AOps.nil ?_ | refine AWP.seq ?_ | refine AWP.region ?_ | refine AWP.block ?_ | refine AWP.skip ?_ | refine AWP.exit ?_ | refine AWP.scope ?_ | refine AWP.label ?_)
    refine AOps.storeH rfl rfl rfl (Heap.set_same _ _ _) rfl rfl ?_
    rw [Heap.set_set]
    rw [en]
    obtain ⟨w6, q6, old6⟩ := w5.store aq5 jq (tdbox ⟨decide (hd = 0), T⟩ .no ((n + 1 : Nat) : Int) (e : Nat))
    have x6 := old6 _ _ hxq x5
    obtain ⟨H6, hH6⟩ : ∃ H6, H5.set q (tdbox ⟨decide (hd = 0), T⟩ .no ((n + 1 : Nat) : Int) (e : Nat)) = H6 := ⟨_, rfl⟩
    rw [hH6] at w6 q6 x6
    rw [show H5.set q (.box [.bool (It.mk (decide (hd = 0)) Txn.zero).reset, .int .i64 T.origin, .int .i64 T.seq, .int .i64 T.deps.a, .int .i64 T.deps.b, .int .i64 T.deps.c, .sl (T.writes.map wr) .no, .int .i64 ((n + 1 : Nat) : Int), .int .i64 ((e : Nat) : Int)]) = H6 from hH6]
    clear hH6 old6
    repeat (first
    | refine AOps.op rfl rfl ?_ | refine AOps.load rfl rfl rfl rfl rfl ?_ | refine AOps.nil ?_ | refine AWP.seq ?_ | refine AWP.region ?_ | refine AWP.block ?_ | refine AWP.skip ?_ | refine AWP.exit ?_ | refine AWP.scope ?_ | refine AWP.label ?_)
    refine AOps.load rfl (cellsAt_ptr q6) rfl rfl rfl ?_
    by_cases he : e = 0
    · subst he
      rw [hstep rfl] at i9
      refine AOps.step rfl rfl (OpT.callY (vs := [td ⟨decide (hd = 0), T⟩ .no ((n + 1 : Nat) : Int) ((0 : Nat) : Int)]) rfl rfl rfl ((AYield.first w6.symm (good done used Hj ⟨decide (hd = 0), T⟩ (n + 1) i6 i7 (by omega))).mono ?_))
      rintro _ H7 ⟨J7, ⟨rfl, j7⟩, w7, old7⟩
      obtain ⟨x7, jx7⟩ := old7 _ _ x6 i5
      obtain ⟨q7, -⟩ := old7 _ _ q6 jq
      repeat (first
    | refine AOps.op rfl rfl ?_ | refine AOps.load rfl rfl rfl rfl rfl ?_ | refine AOps.nil ?_ | refine AWP.seq ?_ | refine AWP.region ?_ | refine AWP.block ?_ | refine AWP.skip ?_ | refine AWP.exit ?_ | refine AWP.scope ?_ | refine AWP.label ?_)
      refine AOps.or (j := 4) (y := false) [_, _, _] rfl rfl rfl rfl rfl rfl rfl (fun hb => ?_) ?_
      · repeat (first | refine AOps.unguard rfl rfl (by assumption) ?_ | refine AOps.op rfl rfl ?_ | refine AOps.load rfl rfl rfl rfl rfl ?_)
        refine AOps.load rfl (cellsAt_ptr q7) rfl rfl rfl ?_
        repeat (first | refine AOps.unguard rfl rfl (by assumption) ?_ | refine AOps.op rfl rfl ?_ | refine AOps.load rfl rfl rfl rfl rfl ?_)
        exact AOps.nil (GuardEnd.of 3 rfl rfl rfl rfl rfl)
      refine AOps.nil ?_
      refine AWP.cond rfl (fun h => absurd h (by simp)) (fun _ => ?_)
      repeat (first
    | refine AOps.op rfl rfl ?_ | refine AOps.load rfl rfl rfl rfl rfl ?_ | refine AOps.nil ?_ | refine AWP.seq ?_ | refine AWP.region ?_ | refine AWP.block ?_ | refine AWP.skip ?_ | refine AWP.exit ?_ | refine AWP.scope ?_ | refine AWP.label ?_)
      refine AOps.load rfl (cellsAt_ptr x7) rfl rfl rfl ?_
      repeat (first
    | refine AOps.op rfl rfl ?_ | refine AOps.load rfl rfl rfl rfl rfl ?_ | refine AOps.nil ?_ | refine AWP.seq ?_ | refine AWP.region ?_ | refine AWP.block ?_ | refine AWP.skip ?_ | refine AWP.exit ?_ | refine AWP.scope ?_ | refine AWP.label ?_)
      refine AOps.load rfl (cellsAt_ptr q7) rfl rfl rfl ?_
      refine AOps.step rfl rfl (cutFrom (n + 1) rfl rfl (by simp; omega) ?_)
      refine AOps.storeH rfl rfl rfl x7 rfl rfl ?_
      obtain ⟨w8, x8, -⟩ := w7.symm.store ax5 jx7 (.box [.sl (encB (r.drop n)) .no])
      repeat (first
    | refine AOps.op rfl rfl ?_ | refine AOps.load rfl rfl rfl rfl rfl ?_ | refine AOps.nil ?_ | refine AWP.seq ?_ | refine AWP.region ?_ | refine AWP.block ?_ | refine AWP.skip ?_ | refine AWP.exit ?_ | refine AWP.scope ?_ | refine AWP.label ?_)
      refine ⟨(S', r.drop n, .no, done ++ [⟨decide (hd = 0), T⟩], used + (n + 1), A5, J7, _), by simp; omega, ⟨w8, c5, x8, ax5, jx7, j7, by simp; omega, by simp; omega, i9⟩, ⟨rfl, rfl, rfl, trivial⟩, rfl, Heap.le_refl _⟩
    · rw [hbad he] at i9
      subst i9
      refine AOps.step rfl rfl (OpT.callY (vs := [td ⟨decide (hd = 0), T⟩ .no ((n + 1 : Nat) : Int) ((e : Nat) : Int)]) rfl rfl rfl ((AYield.first w6.symm (bad done used Hj ⟨decide (hd = 0), T⟩ .no ((n + 1 : Nat) : Int) e i6 he)).mono ?_))
      rintro _ H7 ⟨J7, ⟨rfl, j7⟩, w7, old7⟩
      repeat (first
    | refine AOps.op rfl rfl ?_ | refine AOps.load rfl rfl rfl rfl rfl ?_ | refine AOps.nil ?_ | refine AWP.seq ?_ | refine AWP.region ?_ | refine AWP.block ?_ | refine AWP.skip ?_ | refine AWP.exit ?_ | refine AWP.scope ?_ | refine AWP.label ?_)
      refine AOps.or (j := 4) (y := false) [_, _, _] rfl rfl rfl rfl rfl rfl rfl (fun hb => absurd hb (by simp)) ?_
      refine AOps.nil ?_
      refine AWP.cond rfl (fun _ => ?_) (fun h => absurd h (by simp))
      repeat (first
    | refine AOps.op rfl rfl ?_ | refine AOps.load rfl rfl rfl rfl rfl ?_ | refine AOps.nil ?_ | refine AWP.seq ?_ | refine AWP.region ?_ | refine AWP.block ?_ | refine AWP.skip ?_ | refine AWP.exit ?_ | refine AWP.scope ?_ | refine AWP.label ?_)
      refine AWP.ret ?_
      exact ⟨_, _, rfl, rfl, Heap.le_refl _, .inr ⟨J7, j7, w7.a⟩⟩
  · have h : rest = [] := by
      cases rest with
      | nil => rfl
      | cons a r => rw [hrl] at h; simp at h
    subst h
    rw [etake_nil] at i9
    subst i9
    repeat (first
    | refine AOps.op rfl rfl ?_ | refine AOps.load rfl rfl rfl rfl rfl ?_ | refine AOps.nil ?_ | refine AWP.seq ?_ | refine AWP.region ?_ | refine AWP.block ?_ | refine AWP.skip ?_ | refine AWP.exit ?_ | refine AWP.scope ?_ | refine AWP.label ?_)
    exact ⟨_, _, rfl, rfl, Heap.le_refl _, .inl ⟨Hj, by simpa [efin] using i6, i1.b, rfl⟩⟩
end Go.Proofs.Ytlbnhokhhangdaa
