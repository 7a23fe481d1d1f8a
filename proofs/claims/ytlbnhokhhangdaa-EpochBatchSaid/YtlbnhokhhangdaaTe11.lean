/- The texts of this part, one behind the other: what is proved of the model and of the functions that the law reaches. -/
import Derived.Test.YtlbnhokhhangdaaTe10
import Derived.Test.YtlbnhokhhangdaaTe1
/- The package txn: transactions read. -/
namespace Go.Proofs.Ytlbnhokhhangdaa
open Go Go.Am Go.Pk Go.Lib
set_option linter.unusedVariables false
set_option maxRecDepth 10000
attribute [local irreducible] AOps AWP DRun ACalls

/-- A reader and a dictionary of the call's own, beside what was there. -/
def RS (H0 H : Heap) (q d : Nat) (b : Str) (tag : Tag) (u e : Nat) (D : Dic) : Prop :=
  ∃ A : Heap, A.le H ∧ H0.le H ∧ Disj A H0 ∧ A q = some (rbox b tag u e) ∧ DictAt (A.del q) d D

section
variable {H0 H : Heap} {q d : Nat} {b : Str} {tag : Tag} {u e : Nat} {D : Dic}
theorem RS.box (h : RS H0 H q d b tag u e D) : H q = some (rbox b tag u e) := by
  obtain ⟨A, h1, h2, h3, h4, h5⟩ := h
  exact h1 _ _ h4

theorem RS.old (h : RS H0 H q d b tag u e D) : H0.le H := by
  obtain ⟨A, h1, h2, h3, h4, h5⟩ := h
  exact h2

theorem RS.mono {H' : Heap} (h : RS H0 H q d b tag u e D) (hl : H.le H') : RS H0 H' q d b tag u e D := by
  obtain ⟨A, h1, h2, h3, h4, h5⟩ := h
  exact ⟨A, h1.trans hl, h2.trans hl, h3, h4, h5⟩

theorem RS.set (h : RS H0 H q d b tag u e D) (u' e' : Nat) : RS H0 (H.set q (rbox b tag u' e')) q d b tag u' e' D := by
  obtain ⟨A, h1, h2, h3, h4, h5⟩ := h
  have hq := h3.none h4
  refine ⟨A.set q (rbox b tag u' e'), fun k x e => ?_, fun k x e => ?_, fun k => ?_, Heap.set_same _ _ _, ?_⟩
  · by_cases c : k = q
    · subst c; rw [Heap.set_same] at e ⊢; exact e
    · rw [Heap.set_ne _ _ c] at e ⊢; exact h1 k x e
  · by_cases c : k = q
    · subst c; rw [hq] at e; cases e
    · rw [Heap.set_ne _ _ c]; exact h2 k x e
  · by_cases c : k = q
    · subst c; exact .inr hq
    · rw [Heap.set_ne _ _ c]; exact h3 k
  · rw [Heap.del_set]; exact h5
end

/-- A block that is there is written beside what may be appended to. -/
theorem App.write {H : Heap} {sz n q : Nat} {tag : Tag} {x y : AObj} (h : App H sz n tag) (hq : (hbase H tag) q = some x) : App (H.set q y) sz n tag ∧ hbase (H.set q y) tag = (hbase H tag).set q y := by
  cases tag with
  | no => exact h.elim
  | full => exact ⟨trivial, rfl⟩
  | own g =>
    have hh : H g = some (.tail sz n) := h
    have hne : g ≠ q := by rintro rfl; simp only [hbase, Heap.del_same] at hq; cases hq
    refine ⟨by show (H.set q y) g = _; rw [Heap.set_ne _ _ hne]; exact hh, ?_⟩
    funext k
    simp only [hbase, Heap.del, Heap.set]
    by_cases c : k = g
    · subst c; rw [if_pos rfl, if_neg hne, if_pos rfl]
    · rw [if_neg c]
      by_cases e : k = q
      · rw [if_pos e, if_pos e]
      · rw [if_neg e, if_neg e, if_neg c]

attribute [local irreducible] rnum rclock wloop rwrite tcheck ctake

def takeOut (c : Nat) (S : Cod) (b : Str) (r : AV) (H' : Heap) : Prop :=
  match ttake S b with
  | .ok x => ∃ tag', r = .tuple [tx x.1 tag', .int .i64 (x.2.1 : Nat), .int .i64 0] ∧ CodAt H' c x.2.2
  | .error e => r = .tuple [tx Txn.zero .full, .int .i64 0, .int .i64 (e : Nat)] ∧ CodAt H' c S

set_option maxHeartbeats 2000000 in
theorem coTake_spec (c : Nat) (S : Cod) (b : Str) (tag : Tag) (H0 : Heap) (h : CodAt H0 c S) (hb : b.length < 2 ^ 40) :
    ACalls Q.prog 14 [.ptr c 0, .sl (encB b) tag] H0 (takeOut c S b) := by
  have hcod := h
  obtain ⟨d0, h1, h2, h3⟩ := h
  have parts := ttake_parts S b
  have ul1 := rnum_le (b := b) (s := (0, 0)) (by simp) 4611686018427387903 1
  have ol1 := rnum_lt b (0, 0) 4611686018427387903 1
  generalize hx : rnum b (0, 0) 4611686018427387903 1 = x at *
  obtain ⟨o, u1, e1⟩ := x
  simp only at parts
  have ul2 := rnum_le (b := b) (s := (u1, e1)) ul1 4611686018427387903 1
  have ol2 := rnum_lt b (u1, e1) 4611686018427387903 1
  generalize hy : rnum b (u1, e1) 4611686018427387903 1 = y at *
  obtain ⟨p, u2, e2⟩ := y
  simp only at parts
  have ul3 := rclock_le (c := S.c) (b := b) (s := (u2, e2)) ul2
  generalize hz : rclock S.c b (u2, e2) = z at *
  obtain ⟨k, u3, e3⟩ := z
  simp only at parts
  have ul4 := rnum_le (b := b) (s := (u3, e3)) ul3 16 4
  have ol4 := rnum_lt b (u3, e3) 16 4
  have ok4 := rnum_ok (b := b) (s := (u3, e3)) (most := 16) (above := 4) (by decide)
  have good4 := rnum_good (b := b) (s := (u3, e3)) (most := 16) (above := 4)
  generalize hm : rnum b (u3, e3) 16 4 = m at *
  obtain ⟨m, u4, e4⟩ := m
  simp only at parts
  simp only at ul1 ul2 ul3 ul4 ol1 ol2 ol4 ok4 good4
  have hm16 : e4 = 0 → m ≤ 16 := fun h => by
    obtain ⟨a1, a2, a3⟩ := ok4 h
    have := congrArg Prod.fst (good4 a1 a2 (by omega))
    simp only at this
    omega
  clear ok4 good4
  generalize hw : wloop b m S.d u4 e4 [] = W at *
  refine ACalls.body (N := 113) Try.func14 rfl rfl rfl rfl ?_
  repeat (first | refine AOps.op rfl rfl ?_ | refine AOps.load rfl rfl rfl rfl rfl ?_)
  refine AWP.seq (AWP.region ?_)
  refine AOps.allocL 0 rfl rfl rfl rfl ?_
  repeat (first
    | refine AOps.op rfl rfl ?_ | refine AOps.load rfl rfl rfl rfl rfl ?_ | refine AOps.nil ?_ | refine AWP.seq ?_ | refine AWP.region ?_ | refine AWP.block ?_ | refine AWP.skip ?_ | refine AWP.exit ?_ | refine AWP.scope ?_ | refine AWP.label ?_)
  refine AOps.boxH rfl rfl rfl rfl fun q hq => ?_
  have hle1 : H0.le (H0.set q (rbox b tag 0 0)) := Heap.le_set hq
  repeat (first
    | refine AOps.op rfl rfl ?_ | refine AOps.load rfl rfl rfl rfl rfl ?_ | refine AOps.nil ?_ | refine AWP.seq ?_ | refine AWP.region ?_ | refine AWP.block ?_ | refine AWP.skip ?_ | refine AWP.exit ?_ | refine AWP.scope ?_ | refine AWP.label ?_)
  refine AOps.load rfl (cellsAt_ptr (hle1 _ _ h1)) rfl rfl rfl ?_
  refine AOps.call rfl rfl rfl ((dCopy_spec d0 S.d (H0.set q (rbox b tag 0 0)) (h2.mono ((Heap.del_le _ _).trans hle1))).mono ?_)
  rintro _ H2 ⟨d, rfl, k1, k2⟩
  have hrs : RS H0 H2 q d b tag 0 0 S.d := by
    refine ⟨H2.minus H0, Heap.minus_le _ _, hle1.trans k1, (Heap.disj_minus H2 H0).symm, ?_, k2.mono fun k x e => ?_⟩
    · simp only [Heap.minus, hq]; exact k1 _ _ (Heap.set_same _ _ _)
    · have hkq : k ≠ q := by
        rintro rfl
        simp only [Heap.minus, Heap.set_same] at e; cases e
      rw [Heap.del_ne _ hkq]
      simp only [Heap.minus, Heap.set_ne _ _ hkq] at e ⊢
      exact e
  clear k1 k2
  repeat (first
    | refine AOps.op rfl rfl ?_ | refine AOps.load rfl rfl rfl rfl rfl ?_ | refine AOps.nil ?_ | refine AWP.seq ?_ | refine AWP.region ?_ | refine AWP.block ?_ | refine AWP.skip ?_ | refine AWP.exit ?_ | refine AWP.scope ?_ | refine AWP.label ?_)
  refine AOps.allocL 1 rfl rfl rfl rfl ?_
  repeat (first
    | refine AOps.op rfl rfl ?_ | refine AOps.load rfl rfl rfl rfl rfl ?_ | refine AOps.nil ?_ | refine AWP.seq ?_ | refine AWP.region ?_ | refine AWP.block ?_ | refine AWP.skip ?_ | refine AWP.exit ?_ | refine AWP.scope ?_ | refine AWP.label ?_)
  refine AOps.call (vs := [.ptr q 0, .int .u64 (4611686018427387903 : Nat), .int .i64 (1 : Nat)]) rfl rfl rfl ((number_spec q b tag 0 0 4611686018427387903 1 H2 hrs.box (by omega) hb).mono ?_)
  rintro _ H3 ⟨rfl, rfl⟩
  rw [hx]
  replace hrs := hrs.set u1 e1
  generalize H2.set q (rbox b tag u1 e1) = H3 at *
  repeat (first
    | refine AOps.op rfl rfl ?_ | refine AOps.load rfl rfl rfl rfl rfl ?_ | refine AOps.nil ?_ | refine AWP.seq ?_ | refine AWP.region ?_ | refine AWP.block ?_ | refine AWP.skip ?_ | refine AWP.exit ?_ | refine AWP.scope ?_ | refine AWP.label ?_)
  refine AOps.storeL rfl rfl rfl rfl ?_
  repeat (first
    | refine AOps.op rfl rfl ?_ | refine AOps.load rfl rfl rfl rfl rfl ?_ | refine AOps.nil ?_ | refine AWP.seq ?_ | refine AWP.region ?_ | refine AWP.block ?_ | refine AWP.skip ?_ | refine AWP.exit ?_ | refine AWP.scope ?_ | refine AWP.label ?_)
  refine AOps.call (vs := [.ptr q 0, .int .u64 (4611686018427387903 : Nat), .int .i64 (1 : Nat)]) rfl rfl rfl ((number_spec q b tag u1 e1 4611686018427387903 1 H3 hrs.box (by omega) hb).mono ?_)
  rintro _ H4 ⟨rfl, rfl⟩
  rw [hy]
  replace hrs := hrs.set u2 e2
  generalize H3.set q (rbox b tag u2 e2) = H4 at *
  repeat (first
    | refine AOps.op rfl rfl ?_ | refine AOps.load rfl rfl rfl rfl rfl ?_ | refine AOps.nil ?_ | refine AWP.seq ?_ | refine AWP.region ?_ | refine AWP.block ?_ | refine AWP.skip ?_ | refine AWP.exit ?_ | refine AWP.scope ?_ | refine AWP.label ?_)
  refine AOps.storeL rfl rfl rfl rfl ?_
  repeat (first
    | refine AOps.op rfl rfl ?_ | refine AOps.load rfl rfl rfl rfl rfl ?_ | refine AOps.nil ?_ | refine AWP.seq ?_ | refine AWP.region ?_ | refine AWP.block ?_ | refine AWP.skip ?_ | refine AWP.exit ?_ | refine AWP.scope ?_ | refine AWP.label ?_)
  refine AOps.load rfl (cellsAt_ptr hrs.box) rfl rfl rfl ?_
  repeat (first
    | refine AOps.op rfl rfl ?_ | refine AOps.load rfl rfl rfl rfl rfl ?_ | refine AOps.nil ?_ | refine AWP.seq ?_ | refine AWP.region ?_ | refine AWP.block ?_ | refine AWP.skip ?_ | refine AWP.exit ?_ | refine AWP.scope ?_ | refine AWP.label ?_)
  refine AWP.thnA (α := Heap) (fun a => RS H0 a q d b tag u3 e3 S.d)
    (fun a => [(0, .ptr c 0), (1, .sl (encB b) tag), (4, .lptr 0 0), (5, .int .i64 0), (6, .int .i64 0), (7, .ptr q 0), (8, .ptr d 0), (9, .lptr 1 0)])
    (fun _ => [[.int .i64 0, .int .i64 0, .int .i64 0, .int .i64 0, .int .i64 0, .sl [] .full], [.int .i64 (IntKind.i64.wrap (o : Nat)), .int .i64 (IntKind.i64.wrap (p : Nat)), .int .i64 k.a, .int .i64 k.b, .int .i64 k.c, .sl [] .full]]) (fun a => a) ?_ ?_
  · refine AWP.cond rfl (fun he => ?_) (fun he => ?_)
    · have he : e2 = 0 := by simp at he; omega
      subst he
      have hcl := ctake_le S.c (b.drop u2)
      have hz2 : rclock S.c b (u2, 0) = ((ctake S.c (b.drop u2)).1, u2 + (ctake S.c (b.drop u2)).2.1, (ctake S.c (b.drop u2)).2.2) := by unfold rclock; rw [if_neg (by simp)]
      rw [hz2] at hz
      clear hz2
      generalize hcc : ctake S.c (b.drop u2) = cc at *
      obtain ⟨ck1, n1, f1⟩ := cc
      simp only [Prod.mk.injEq] at hz
      obtain ⟨rfl, rfl, rfl⟩ := hz
      rw [List.length_drop] at hcl
      simp only at hcl
      have hc4 := hrs.old _ _ h1
      repeat (first
    | refine AOps.op rfl rfl ?_ | refine AOps.load rfl rfl rfl rfl rfl ?_ | refine AOps.nil ?_ | refine AWP.seq ?_ | refine AWP.region ?_ | refine AWP.block ?_ | refine AWP.skip ?_ | refine AWP.exit ?_ | refine AWP.scope ?_ | refine AWP.label ?_)
      refine AWP.draw [[], [], [1], [1, 2], [1, 2, 3], [], [], [6], [6, 7], [6, 7, 8], [5, 6, 7, 8, 9], [1, 2, 3, 4, 5, 6, 7, 8, 9, 10], [1, 2, 3, 4, 5, 6, 7, 8, 9, 10, 11], [1, 2, 3, 4, 5, 6, 7, 8, 9, 10, 11, 12], [1, 2, 3, 4, 5, 6, 7, 8, 9, 10, 11, 12], [1, 2, 3, 4, 5, 6, 7, 8, 9, 10, 11, 12], [1, 2, 3, 4, 5, 6, 7, 8, 9, 10, 11, 12, 13], [1, 2, 3, 4, 5, 6, 7, 8, 9, 10, 11, 12, 13, 16], [1, 2, 3, 4, 5, 6, 7, 8, 9, 10, 11, 12, 13, 14, 16, 17], [0, 1, 2, 3, 4, 5, 6, 7, 8, 9, 10, 11, 12, 13, 14, 15, 16, 17, 18], [0, 1, 2, 3, 4, 5, 6, 7, 8, 9, 10, 11, 12, 13, 14, 15, 16, 17, 18, 19], [0, 1, 2, 3, 4, 5, 6, 7, 8, 9, 10, 11, 12, 13, 14, 15, 16, 17, 18, 19, 20]] [(0, .pure), (1, .pure), (2, .pure), (3, .pure), (4, .read), (5, .pure), (6, .pure), (7, .pure), (8, .pure), (9, .read), (10, .pure), (11, .eff), (12, .pure), (13, .pure), (14, .pure), (15, .pure), (16, .pure), (17, .eff), (18, .pure), (19, .pure), (20, .pure), (21, .eff)] rfl ?_
      repeat (first | refine DRun.op rfl rfl rfl ?_ | refine DRun.loadI rfl rfl rfl rfl rfl ?_ | refine DRun.load rfl rfl rfl rfl rfl rfl ?_ | refine DRun.nil ?_)
      refine DRun.load rfl rfl rfl (cellsAt_ptr hc4) rfl rfl ?_
      repeat (first | refine DRun.op rfl rfl rfl ?_ | refine DRun.loadI rfl rfl rfl rfl rfl ?_ | refine DRun.load rfl rfl rfl rfl rfl rfl ?_ | refine DRun.nil ?_)
      refine DRun.load rfl rfl rfl (cellsAt_ptr hrs.box) rfl rfl ?_
      repeat (first | refine DRun.op rfl rfl rfl ?_ | refine DRun.loadI rfl rfl rfl rfl rfl ?_ | refine DRun.load rfl rfl rfl rfl rfl rfl ?_ | refine DRun.nil ?_)
      refine DRun.pureT rfl rfl rfl (fun loc H => cutFrom u2 rfl rfl ul2 ⟨rfl, rfl, rfl⟩) ?_
      repeat (first | refine DRun.op rfl rfl rfl ?_ | refine DRun.loadI rfl rfl rfl rfl rfl ?_ | refine DRun.load rfl rfl rfl rfl rfl rfl ?_ | refine DRun.nil ?_)
      refine DRun.eff rfl rfl rfl (OpT.callF rfl rfl ((cTake_spec S.c (b.drop u2) .no h3 (by rw [List.length_drop]; omega) H4).mono ?_))
      rintro _ H5 ⟨rfl, rfl⟩
      rw [hcc]
      refine ⟨?_, ?_⟩
      · repeat (first | exact Chk.nil | refine Chk.pre rfl ?_)
      repeat (first | refine DRun.op rfl rfl rfl ?_ | refine DRun.loadI rfl rfl rfl rfl rfl ?_ | refine DRun.load rfl rfl rfl rfl rfl rfl ?_ | refine DRun.nil ?_)
      refine DRun.eff rfl rfl rfl (OpT.storeL rfl rfl rfl rfl ⟨?_, ?_⟩)
      · repeat (first | exact Chk.nil | refine Chk.pre rfl ?_)
      repeat (first | refine DRun.op rfl rfl rfl ?_ | refine DRun.loadI rfl rfl rfl rfl rfl ?_ | refine DRun.load rfl rfl rfl rfl rfl rfl ?_ | refine DRun.nil ?_)
      refine DRun.eff rfl rfl rfl (OpT.storeH rfl rfl rfl hrs.box rfl rfl ⟨?_, ?_⟩)
      · repeat (first | exact Chk.nil | refine Chk.pre rfl ?_)
      repeat (first | refine DRun.op rfl rfl rfl ?_ | refine DRun.loadI rfl rfl rfl rfl rfl ?_ | refine DRun.load rfl rfl rfl rfl rfl rfl ?_ | refine DRun.nil ?_)
      have hrs2 := hrs.set u2 f1
      have es : IntKind.i64.wrap ((u2 : Int) + (n1 : Nat)) = ((u2 + n1 : Nat) : Int) := wrap_i64 (n := u2 + n1) (by omega)
      repeat (first
    | refine AOps.op rfl rfl ?_ | refine AOps.load rfl rfl rfl rfl rfl ?_ | refine AOps.nil ?_ | refine AWP.seq ?_ | refine AWP.region ?_ | refine AWP.block ?_ | refine AWP.skip ?_ | refine AWP.exit ?_ | refine AWP.scope ?_ | refine AWP.label ?_)
      refine AOps.load rfl (cellsAt_ptr hrs2.box) rfl rfl rfl ?_
      repeat (first
    | refine AOps.op rfl rfl ?_ | refine AOps.load rfl rfl rfl rfl rfl ?_ | refine AOps.nil ?_ | refine AWP.seq ?_ | refine AWP.region ?_ | refine AWP.block ?_ | refine AWP.skip ?_ | refine AWP.exit ?_ | refine AWP.scope ?_ | refine AWP.label ?_)
      refine AOps.storeH rfl rfl rfl hrs2.box rfl rfl ?_
      repeat (first
    | refine AOps.op rfl rfl ?_ | refine AOps.load rfl rfl rfl rfl rfl ?_ | refine AOps.nil ?_ | refine AWP.seq ?_ | refine AWP.region ?_ | refine AWP.block ?_ | refine AWP.skip ?_ | refine AWP.exit ?_ | refine AWP.scope ?_ | refine AWP.label ?_)
      refine ⟨_, hrs2.set (u2 + n1) f1, ⟨rfl, rfl, rfl, rfl, rfl, rfl, rfl, rfl, trivial⟩, rfl, ?_⟩
      rw [show rbox b tag (u2 + n1) f1 = .box [.sl (encB b) tag, .int .i64 (IntKind.i64.wrap ((u2 : Int) + (n1 : Nat))), .int .i64 f1] by rw [es]; rfl]
      exact Heap.le_refl _
    · have he : e2 ≠ 0 := by simp at he; omega
      have hz2 : rclock S.c b (u2, e2) = (Clk.zero, u2, e2) := by unfold rclock; rw [if_pos he]
      rw [hz2] at hz
      simp only [Prod.mk.injEq] at hz
      obtain ⟨rfl, rfl, rfl⟩ := hz
      repeat (first
    | refine AOps.op rfl rfl ?_ | refine AOps.load rfl rfl rfl rfl rfl ?_ | refine AOps.nil ?_ | refine AWP.seq ?_ | refine AWP.region ?_ | refine AWP.block ?_ | refine AWP.skip ?_ | refine AWP.exit ?_ | refine AWP.scope ?_ | refine AWP.label ?_)
      exact ⟨_, hrs, ⟨rfl, rfl, rfl, rfl, rfl, rfl, rfl, rfl, trivial⟩, rfl, Heap.le_refl _⟩
  clear hrs
  intro H5 hrs
  repeat (first
    | refine AOps.op rfl rfl ?_ | refine AOps.load rfl rfl rfl rfl rfl ?_ | refine AOps.nil ?_ | refine AWP.seq ?_ | refine AWP.region ?_ | refine AWP.block ?_ | refine AWP.skip ?_ | refine AWP.exit ?_ | refine AWP.scope ?_ | refine AWP.label ?_)
  refine AOps.call (vs := [.ptr q 0, .int .u64 (16 : Nat), .int .i64 (4 : Nat)]) rfl rfl rfl ((number_spec q b tag u3 e3 16 4 H5 hrs.box (by omega) hb).mono ?_)
  rintro _ H6 ⟨rfl, rfl⟩
  rw [hm]
  replace hrs := hrs.set u4 e4
  generalize H5.set q (rbox b tag u4 e4) = H6 at *
  repeat (first
    | refine AOps.op rfl rfl ?_ | refine AOps.load rfl rfl rfl rfl rfl ?_ | refine AOps.nil ?_ | refine AWP.seq ?_ | refine AWP.region ?_ | refine AWP.skip ?_ | refine AWP.exit ?_ | refine AWP.scope ?_ | refine AWP.label ?_)
  refine AWP.thnA (α := Tag × Heap) (fun a => RS H0 (hbase a.2 a.1) q d b tag W.2.2.1 W.2.2.2 W.2.1)
    (fun a => [(0, .ptr c 0), (1, .sl (encB b) tag), (4, .lptr 0 0), (5, .int .i64 0), (6, .int .i64 0), (7, .ptr q 0), (8, .ptr d 0), (9, .lptr 1 0)])
    (fun a => [[.int .i64 0, .int .i64 0, .int .i64 0, .int .i64 0, .int .i64 0, .sl [] .full], [.int .i64 (IntKind.i64.wrap (o : Nat)), .int .i64 (IntKind.i64.wrap (p : Nat)), .int .i64 k.a, .int .i64 k.b, .int .i64 k.c, .sl (W.1.map wr) a.1]]) (fun a => a.2) ?_ ?_
  · refine AWP.block ?_
    refine AWP.loopA (α := Nat × List Wr × Nat × Nat × Dic × Tag × Heap) (fun a => a.1 ≤ m ∧ wloop b (m - a.1) a.2.2.2.2.1 a.2.2.1 a.2.2.2.1 a.2.1 = W ∧ a.2.1.length ≤ a.1 ∧ (a.2.2.2.1 = 0 → e4 = 0) ∧
        App a.2.2.2.2.2.2 3 a.2.1.length a.2.2.2.2.2.1 ∧ RS H0 (hbase a.2.2.2.2.2.2 a.2.2.2.2.2.1) q d b tag a.2.2.1 a.2.2.2.1 a.2.2.2.2.1 ∧ a.2.2.1 ≤ b.length) (fun a => m - a.1)
      (fun a => [(0, .ptr c 0), (1, .sl (encB b) tag), (4, .lptr 0 0), (5, .int .i64 0), (6, .int .i64 0), (7, .ptr q 0), (8, .ptr d 0), (9, .lptr 1 0), (62, .int .u64 m), (63, .int .u64 a.1)])
      (fun a => [[.int .i64 0, .int .i64 0, .int .i64 0, .int .i64 0, .int .i64 0, .sl [] .full], [.int .i64 (IntKind.i64.wrap (o : Nat)), .int .i64 (IntKind.i64.wrap (p : Nat)), .int .i64 k.a, .int .i64 k.b, .int .i64 k.c, .sl (a.2.1.map wr) a.2.2.2.2.2.1]])
      (fun a => a.2.2.2.2.2.2) (0, [], u4, e4, S.d, .full, H6)
      ⟨by simp, hw, by simp, fun h => h, trivial, hrs, ul4⟩ ⟨rfl, rfl, rfl, rfl, rfl, rfl, rfl, rfl, rfl, rfl, trivial⟩ rfl (Heap.le_refl _) ?_
    clear hrs
    rintro ⟨i, ws, u, e, D, tg, H7⟩ ⟨i1, i2, i3, i4, i5, i6, i7⟩
    simp only at i1 i2 i3 i4 i5 i6 i7
    dsimp only
    repeat (first
    | refine AOps.op rfl rfl ?_ | refine AOps.load rfl rfl rfl rfl rfl ?_ | refine AOps.nil ?_ | refine AWP.seq ?_ | refine AWP.region ?_ | refine AWP.block ?_ | refine AWP.skip ?_ | refine AWP.exit ?_ | refine AWP.scope ?_ | refine AWP.label ?_)
    refine AWP.cond rfl (fun h => ?_) (fun h => ?_)
    · have h : i < m := by simp at h; omega
      repeat (first
    | refine AOps.op rfl rfl ?_ | refine AOps.load rfl rfl rfl rfl rfl ?_ | refine AOps.nil ?_ | refine AWP.seq ?_ | refine AWP.region ?_ | refine AWP.block ?_ | refine AWP.skip ?_ | refine AWP.exit ?_ | refine AWP.scope ?_ | refine AWP.label ?_)
      refine AOps.load rfl (cellsAt_ptr (hbase_le _ _ _ _ i6.box)) rfl rfl rfl ?_
      repeat (first
    | refine AOps.op rfl rfl ?_ | refine AOps.load rfl rfl rfl rfl rfl ?_ | refine AOps.nil ?_ | refine AWP.seq ?_ | refine AWP.region ?_ | refine AWP.block ?_ | refine AWP.skip ?_ | refine AWP.exit ?_ | refine AWP.scope ?_ | refine AWP.label ?_)
      refine AWP.cond rfl (fun he => ?_) (fun he => ?_)
      · have he : e ≠ 0 := by simp at he; omega
        rw [wloop_err _ he] at i2
        subst i2
        repeat (first
    | refine AOps.op rfl rfl ?_ | refine AOps.load rfl rfl rfl rfl rfl ?_ | refine AOps.nil ?_ | refine AWP.seq ?_ | refine AWP.region ?_ | refine AWP.block ?_ | refine AWP.skip ?_ | refine AWP.exit ?_ | refine AWP.scope ?_ | refine AWP.label ?_)
        exact ⟨(tg, H7), i6, ⟨rfl, rfl, rfl, rfl, rfl, rfl, rfl, rfl, trivial⟩, rfl, Heap.le_refl _⟩
      have he : e = 0 := by simp at he; omega
      subst he
      have hm6 := hm16 (i4 rfl)
      have ei : IntKind.u64.wrap ((i : Int) + 1) = ((i + 1 : Nat) : Int) := wrap_u64 (n := i + 1) (by omega)
      rw [show m - i = (m - (i + 1)) + 1 by omega] at i2
      have hst : wloop b (m - (i + 1)) (rwrite b D u).2.1 (rwrite b D u).2.2.1 (rwrite b D u).2.2.2 (ws ++ [(rwrite b D u).1]) = W := by
        rw [← i2, wloop, if_neg (by simp)]
      have hul := rwrite_le (b := b) (D := D) (u := u) i7
      generalize hrw : rwrite b D u = R at *
      obtain ⟨w, D', u', e'⟩ := R
      simp only at hst hul
      obtain ⟨A, r1, r2, r3, r4, r5⟩ := i6
      repeat (first
    | refine AOps.op rfl rfl ?_ | refine AOps.load rfl rfl rfl rfl rfl ?_ | refine AOps.nil ?_ | refine AWP.seq ?_ | refine AWP.region ?_ | refine AWP.block ?_ | refine AWP.skip ?_ | refine AWP.exit ?_ | refine AWP.scope ?_ | refine AWP.label ?_)
      refine AWP.draw [[], [0], [], [], [2, 3], [2, 3, 4], [0, 1, 2, 3, 4, 5], [0, 1, 2, 3, 4, 5, 6], [0, 1, 2, 3, 4, 5, 6, 7]] [(0, .pure), (1, .read), (2, .pure), (3, .pure), (4, .eff), (5, .pure), (6, .eff), (7, .pure), (8, .eff)] rfl ?_
      repeat (first | refine DRun.op rfl rfl rfl ?_ | refine DRun.loadI rfl rfl rfl rfl rfl ?_ | refine DRun.load rfl rfl rfl rfl rfl rfl ?_ | refine DRun.nil ?_)
      refine DRun.eff rfl rfl rfl (OpT.callF rfl rfl ((ACalls.frame (r1.trans (hbase_le _ _)) (write_spec q d b tag u D A r4 r5 i7 hb)).mono ?_))
      rintro _ H8 ⟨A', ⟨rfl, q2, q3⟩, k2, k3, k4⟩
      rw [hrw] at q2 q3 ⊢
      simp only at q2 q3
      obtain ⟨a8, b8, c8⟩ := App.keep i5 r1 k3 k2 k4
      have old8 : H0.le (hbase H8 tg) := (Heap.le_minus r2 r3).trans c8
      have dis8 : Disj A' H0 := k4.le (Heap.le_refl _) (Heap.le_minus (r2.trans (hbase_le _ _)) r3)
      refine ⟨?_, ?_⟩
      · repeat (first | exact Chk.nil | refine Chk.pre rfl ?_ | refine Chk.load rfl rfl rfl rfl ?_)
      repeat (first | refine DRun.op rfl rfl rfl ?_ | refine DRun.loadI rfl rfl rfl rfl rfl ?_ | refine DRun.load rfl rfl rfl rfl rfl rfl ?_ | refine DRun.nil ?_)
      refine DRun.buildSlice (els := [w].map wr) rfl rfl rfl rfl ?_
      refine DRun.eff rfl rfl rfl (OpT.append rfl rfl rfl rfl rfl rfl rfl rfl (els_wr ws) (els_wr [w]) (by rw [wr_len]; exact a8) ?_ ?_ ?_)
      · rw [wr_len, wr_len]; simp only [maxLen, List.length_cons, List.length_nil]; omega
      · rw [wr_len, wr_len]; simp only [List.length_cons, List.length_nil]; omega
      intro tg9 H9 a9 b9
      rw [← List.map_append] at *
      refine ⟨?_, ?_⟩
      · repeat (first | exact Chk.nil | refine Chk.pre rfl ?_ | refine Chk.load rfl rfl rfl rfl ?_)
      repeat (first | refine DRun.op rfl rfl rfl ?_ | refine DRun.loadI rfl rfl rfl rfl rfl ?_ | refine DRun.load rfl rfl rfl rfl rfl rfl ?_ | refine DRun.nil ?_)
      refine DRun.eff rfl rfl rfl (OpT.storeL rfl rfl rfl rfl ⟨?_, ?_⟩)
      · repeat (first | exact Chk.nil | refine Chk.pre rfl ?_ | refine Chk.load rfl rfl rfl rfl ?_)
      repeat (first | refine DRun.op rfl rfl rfl ?_ | refine DRun.loadI rfl rfl rfl rfl rfl ?_ | refine DRun.load rfl rfl rfl rfl rfl rfl ?_ | refine DRun.nil ?_)
      repeat (first
    | refine AOps.op rfl rfl ?_ | refine AOps.load rfl rfl rfl rfl rfl ?_ | refine AOps.nil ?_ | refine AWP.seq ?_ | refine AWP.region ?_ | refine AWP.block ?_ | refine AWP.skip ?_ | refine AWP.exit ?_ | refine AWP.scope ?_ | refine AWP.label ?_)
      refine ⟨(i + 1, ws ++ [w], u', e', D', tg9, H9), by ((try dsimp only); omega), ⟨h, hst, ?_, fun _ => i4 rfl, ?_, ⟨A', by rw [b9]; exact b8, by rw [b9]; exact old8, dis8, q2, q3⟩, hul⟩,
        ⟨rfl, rfl, rfl, rfl, rfl, rfl, rfl, rfl, rfl, congrArg (fun x => some (AV.int .u64 x)) ei, trivial⟩, rfl, Heap.le_refl _⟩
      · simp; omega
      · simpa [wr_len] using a9
    · have h : i = m := by simp at h; omega
      rw [h, Nat.sub_self, wloop] at i2
      subst i2
      repeat (first
    | refine AOps.op rfl rfl ?_ | refine AOps.load rfl rfl rfl rfl rfl ?_ | refine AOps.nil ?_ | refine AWP.seq ?_ | refine AWP.region ?_ | refine AWP.block ?_ | refine AWP.skip ?_ | refine AWP.exit ?_ | refine AWP.scope ?_ | refine AWP.label ?_)
      exact ⟨(tg, H7), i6, ⟨rfl, rfl, rfl, rfl, rfl, rfl, rfl, rfl, trivial⟩, rfl, Heap.le_refl _⟩
  clear hrs
  rintro ⟨tg, H7⟩ hrs
  simp only at hrs
  dsimp only
  obtain ⟨ws, D, u, e⟩ := W
  simp only at parts hrs
  have hrs7 := hrs.mono (hbase_le _ _)
  repeat (first
    | refine AOps.op rfl rfl ?_ | refine AOps.load rfl rfl rfl rfl rfl ?_ | refine AOps.nil ?_ | refine AWP.seq ?_ | refine AWP.region ?_ | refine AWP.block ?_ | refine AWP.skip ?_ | refine AWP.exit ?_ | refine AWP.scope ?_ | refine AWP.label ?_)
  refine AOps.load rfl (cellsAt_ptr hrs7.box) rfl rfl rfl ?_
  repeat (first
    | refine AOps.op rfl rfl ?_ | refine AOps.load rfl rfl rfl rfl rfl ?_ | refine AOps.nil ?_ | refine AWP.seq ?_ | refine AWP.region ?_ | refine AWP.block ?_ | refine AWP.skip ?_ | refine AWP.exit ?_ | refine AWP.scope ?_ | refine AWP.label ?_)
  have fin : ∀ (H8 : Heap) (u e : Nat) (cs : List AV), RS H0 H8 q d b tag u e D → e ≠ 0 → ttake S b = .error e → takeOut c S b (.tuple [tx Txn.zero .full, .int .i64 0, .int .i64 (e : Nat)]) H8 := fun H8 u e cs hr he ht => by
    unfold takeOut; rw [ht]; exact ⟨rfl, hcod.mono hr.old⟩
  refine AWP.cond rfl (fun he => ?_) (fun he => ?_)
  · have he : e = 0 := by simp at he; omega
    subst he
    obtain ⟨v1, v2, v3, v4, v5⟩ := parts.2 rfl
    have hlen : ws.length ≤ 16 := by
      have := wloop_len b m S.d u4 e4 []
      rw [hw] at this
      simp at this; omega
    have eo : IntKind.i64.wrap ((o : Nat) : Int) = ((o : Nat) : Int) := wrap_i64 (by omega)
    have ep : IntKind.i64.wrap ((p : Nat) : Int) = ((p : Nat) : Int) := wrap_i64 (by omega)
    rw [eo, ep]
    repeat (first
    | refine AOps.op rfl rfl ?_ | refine AOps.load rfl rfl rfl rfl rfl ?_ | refine AOps.nil ?_ | refine AWP.seq ?_ | refine AWP.region ?_ | refine AWP.block ?_ | refine AWP.skip ?_ | refine AWP.exit ?_ | refine AWP.scope ?_ | refine AWP.label ?_)
    refine AOps.call rfl rfl rfl ((Check_spec ⟨o, p, k, ws⟩ tg (by simp only; omega) H7).mono ?_)
    rintro _ H7 ⟨rfl, rfl⟩
    repeat (first
    | refine AOps.op rfl rfl ?_ | refine AOps.load rfl rfl rfl rfl rfl ?_ | refine AOps.nil ?_ | refine AWP.seq ?_ | refine AWP.region ?_ | refine AWP.block ?_ | refine AWP.skip ?_ | refine AWP.exit ?_ | refine AWP.scope ?_ | refine AWP.label ?_)
    refine AOps.storeH rfl rfl rfl hrs7.box rfl rfl ?_
    have hrs8 := hrs7.set u (tcheck ⟨o, p, k, ws⟩)
    generalize htc : tcheck ⟨o, p, k, ws⟩ = tc at *
    obtain ⟨H8, hH8⟩ : ∃ H8, H7.set q (.box [.sl (encB b) tag, .int .i64 u, .int .i64 tc]) = H8 := ⟨_, rfl⟩
    rw [show H7.set q (rbox b tag u tc) = H8 from hH8] at hrs8
    rw [hH8]
    clear hH8
    repeat (first
    | refine AOps.op rfl rfl ?_ | refine AOps.load rfl rfl rfl rfl rfl ?_ | refine AOps.nil ?_ | refine AWP.seq ?_ | refine AWP.region ?_ | refine AWP.block ?_ | refine AWP.skip ?_ | refine AWP.exit ?_ | refine AWP.scope ?_ | refine AWP.label ?_)
    refine AOps.load rfl (cellsAt_ptr hrs8.box) rfl rfl rfl ?_
    repeat (first
    | refine AOps.op rfl rfl ?_ | refine AOps.load rfl rfl rfl rfl rfl ?_ | refine AOps.nil ?_ | refine AWP.seq ?_ | refine AWP.region ?_ | refine AWP.block ?_ | refine AWP.skip ?_ | refine AWP.exit ?_ | refine AWP.scope ?_ | refine AWP.label ?_)
    refine AWP.cond rfl (fun he => ?_) (fun he => ?_)
    · have he : tc ≠ 0 := by simp at he; omega
      rw [if_pos he] at v5
      repeat (first
    | refine AOps.op rfl rfl ?_ | refine AOps.load rfl rfl rfl rfl rfl ?_ | refine AOps.nil ?_ | refine AWP.seq ?_ | refine AWP.region ?_ | refine AWP.block ?_ | refine AWP.skip ?_ | refine AWP.exit ?_ | refine AWP.scope ?_ | refine AWP.label ?_)
      refine AWP.draw [[], [], [1], [1, 2], [1, 2, 3], [0], [0, 5], [0, 1, 2, 3, 4, 5, 6]] [(0, .pure), (1, .pure), (2, .pure), (3, .pure), (4, .read), (5, .eff), (6, .pure), (7, .pure)] rfl ?_
      repeat (first | refine DRun.op rfl rfl rfl ?_ | refine DRun.loadI rfl rfl rfl rfl rfl ?_ | refine DRun.load rfl rfl rfl rfl rfl rfl ?_ | refine DRun.nil ?_)
      refine DRun.load rfl rfl rfl (cellsAt_ptr hrs8.box) rfl rfl ?_
      repeat (first | refine DRun.op rfl rfl rfl ?_ | refine DRun.loadI rfl rfl rfl rfl rfl ?_ | refine DRun.load rfl rfl rfl rfl rfl rfl ?_ | refine DRun.nil ?_)
      refine DRun.eff rfl rfl rfl (OpT.storeL rfl rfl rfl rfl ⟨?_, ?_⟩)
      · repeat (first | exact Chk.nil | refine Chk.pre rfl ?_ | refine Chk.load rfl (cellsAt_ptr hrs8.box) rfl rfl ?_)
      repeat (first | refine DRun.op rfl rfl rfl ?_ | refine DRun.loadI rfl rfl rfl rfl rfl ?_ | refine DRun.load rfl rfl rfl rfl rfl rfl ?_ | refine DRun.nil ?_)
      repeat (first
    | refine AOps.op rfl rfl ?_ | refine AOps.load rfl rfl rfl rfl rfl ?_ | refine AOps.nil ?_ | refine AWP.seq ?_ | refine AWP.region ?_ | refine AWP.block ?_ | refine AWP.skip ?_ | refine AWP.exit ?_ | refine AWP.scope ?_ | refine AWP.label ?_)
      refine AWP.ret ?_
      exact ⟨_, _, rfl, rfl, Heap.le_refl _, fin _ u tc [] hrs8 he v5⟩
    · have he : tc = 0 := by simp at he; omega
      subst he
      rw [if_neg (by simp)] at v5
      obtain ⟨t1, t2, t3, t4, t5, t6, t7⟩ := tcheck_ok htc
      simp only at t3
      obtain ⟨A, r1, r2, r3, r4, r5⟩ := hrs8
      have hc8 := r2 _ _ h1
      have hqc : q ≠ c := r3.ne r4 h1
      have hq8 := r1 _ _ r4
      have hAc : A c = none := r3.symm.none h1
      repeat (first
    | refine AOps.op rfl rfl ?_ | refine AOps.load rfl rfl rfl rfl rfl ?_ | refine AOps.nil ?_ | refine AWP.seq ?_ | refine AWP.region ?_ | refine AWP.block ?_ | refine AWP.skip ?_ | refine AWP.exit ?_ | refine AWP.scope ?_ | refine AWP.label ?_)
      refine AWP.draw [[], [], [], [], [3], [0, 2], [0, 2, 5], [0, 2, 5, 6], [0, 1, 2, 3, 4, 5, 6, 7], [0, 1, 2, 3, 4, 5, 6, 7, 8], [0, 1, 2, 3, 4, 5, 6, 7, 8, 9]] [(0, .pure), (1, .pure), (2, .pure), (3, .pure), (4, .read), (5, .pure), (6, .pure), (7, .eff), (8, .pure), (9, .pure), (10, .eff)] rfl ?_
      repeat (first | refine DRun.op rfl rfl rfl ?_ | refine DRun.loadI rfl rfl rfl rfl rfl ?_ | refine DRun.load rfl rfl rfl rfl rfl rfl ?_ | refine DRun.nil ?_)
      refine DRun.eff rfl rfl rfl (OpT.storeH rfl rfl rfl hc8 rfl rfl ⟨?_, ?_⟩)
      · repeat (first | exact Chk.nil | refine Chk.pre rfl ?_ | refine Chk.load rfl rfl rfl rfl ?_)
      repeat (first | refine DRun.op rfl rfl rfl ?_ | refine DRun.loadI rfl rfl rfl rfl rfl ?_ | refine DRun.load rfl rfl rfl rfl rfl rfl ?_ | refine DRun.nil ?_)
      refine DRun.eff rfl rfl rfl (OpT.storeH rfl rfl rfl (Heap.set_same _ _ _) rfl rfl ⟨?_, ?_⟩)
      · repeat (first | exact Chk.nil | refine Chk.pre rfl ?_ | refine Chk.load rfl rfl rfl rfl ?_)
      rw [Heap.set_set]
      repeat (first | refine DRun.op rfl rfl rfl ?_ | refine DRun.loadI rfl rfl rfl rfl rfl ?_ | refine DRun.load rfl rfl rfl rfl rfl rfl ?_ | refine DRun.nil ?_)
      have hq9 : (H8.set c (.box [.ptr d 0, .int .i64 k.a, .int .i64 k.b, .int .i64 k.c])) q = some (rbox b tag u 0) := by rw [Heap.set_ne _ _ hqc]; exact hq8
      repeat (first
    | refine AOps.op rfl rfl ?_ | refine AOps.load rfl rfl rfl rfl rfl ?_ | refine AOps.nil ?_ | refine AWP.seq ?_ | refine AWP.region ?_ | refine AWP.block ?_ | refine AWP.skip ?_ | refine AWP.exit ?_ | refine AWP.scope ?_ | refine AWP.label ?_)
      refine AWP.draw [[], [], [1], [1, 2], [1, 2, 3], [0], [0, 1, 2, 3, 4, 5], [0, 1, 2, 3, 4, 5, 6]] [(0, .read), (1, .pure), (2, .pure), (3, .pure), (4, .read), (5, .eff), (6, .pure), (7, .pure)] rfl ?_
      repeat (first | refine DRun.op rfl rfl rfl ?_ | refine DRun.loadI rfl rfl rfl rfl rfl ?_ | refine DRun.load rfl rfl rfl rfl rfl rfl ?_ | refine DRun.nil ?_)
      refine DRun.load rfl rfl rfl (cellsAt_ptr hq9) rfl rfl ?_
      repeat (first | refine DRun.op rfl rfl rfl ?_ | refine DRun.loadI rfl rfl rfl rfl rfl ?_ | refine DRun.load rfl rfl rfl rfl rfl rfl ?_ | refine DRun.nil ?_)
      refine DRun.eff rfl rfl rfl (OpT.storeL rfl rfl rfl rfl ⟨?_, ?_⟩)
      · repeat (first | exact Chk.nil | refine Chk.pre rfl ?_ | refine Chk.load rfl (cellsAt_ptr hq9) rfl rfl ?_)
      repeat (first | refine DRun.op rfl rfl rfl ?_ | refine DRun.loadI rfl rfl rfl rfl rfl ?_ | refine DRun.load rfl rfl rfl rfl rfl rfl ?_ | refine DRun.nil ?_)
      repeat (first
    | refine AOps.op rfl rfl ?_ | refine AOps.load rfl rfl rfl rfl rfl ?_ | refine AOps.nil ?_ | refine AWP.seq ?_ | refine AWP.region ?_ | refine AWP.block ?_ | refine AWP.skip ?_ | refine AWP.exit ?_ | refine AWP.scope ?_ | refine AWP.label ?_)
      refine AWP.ret ?_
      refine ⟨_, _, rfl, rfl, Heap.le_refl _, ?_⟩
      unfold takeOut
      rw [v5]
      refine ⟨tg, rfl, d, Heap.set_same _ _ _, ?_, t3⟩
      rw [Heap.del_set]
      exact r5.mono fun k x e => by
        have hk : k ≠ c := by
          rintro rfl
          have := Heap.del_le _ _ _ _ e
          rw [hAc] at this; cases this
        rw [Heap.del_ne _ hk]
        exact r1 _ _ (Heap.del_le _ _ _ _ e)
  · have he : e ≠ 0 := by simp at he; omega
    repeat (first
    | refine AOps.op rfl rfl ?_ | refine AOps.load rfl rfl rfl rfl rfl ?_ | refine AOps.nil ?_ | refine AWP.seq ?_ | refine AWP.region ?_ | refine AWP.block ?_ | refine AWP.skip ?_ | refine AWP.exit ?_ | refine AWP.scope ?_ | refine AWP.label ?_)
    refine AOps.load rfl (cellsAt_ptr hrs7.box) rfl rfl rfl ?_
    repeat (first
    | refine AOps.op rfl rfl ?_ | refine AOps.load rfl rfl rfl rfl rfl ?_ | refine AOps.nil ?_ | refine AWP.seq ?_ | refine AWP.region ?_ | refine AWP.block ?_ | refine AWP.skip ?_ | refine AWP.exit ?_ | refine AWP.scope ?_ | refine AWP.label ?_)
    refine AWP.cond rfl (fun _ => ?_) (fun h => by simp at h; omega)
    repeat (first
    | refine AOps.op rfl rfl ?_ | refine AOps.load rfl rfl rfl rfl rfl ?_ | refine AOps.nil ?_ | refine AWP.seq ?_ | refine AWP.region ?_ | refine AWP.block ?_ | refine AWP.skip ?_ | refine AWP.exit ?_ | refine AWP.scope ?_ | refine AWP.label ?_)
    refine AWP.draw [[], [], [1], [1, 2], [1, 2, 3], [0], [0, 5], [0, 1, 2, 3, 4, 5, 6]] [(0, .pure), (1, .pure), (2, .pure), (3, .pure), (4, .read), (5, .eff), (6, .pure), (7, .pure)] rfl ?_
    repeat (first | refine DRun.op rfl rfl rfl ?_ | refine DRun.loadI rfl rfl rfl rfl rfl ?_ | refine DRun.load rfl rfl rfl rfl rfl rfl ?_ | refine DRun.nil ?_)
    refine DRun.load rfl rfl rfl (cellsAt_ptr hrs7.box) rfl rfl ?_
    repeat (first | refine DRun.op rfl rfl rfl ?_ | refine DRun.loadI rfl rfl rfl rfl rfl ?_ | refine DRun.load rfl rfl rfl rfl rfl rfl ?_ | refine DRun.nil ?_)
    refine DRun.eff rfl rfl rfl (OpT.storeL rfl rfl rfl rfl ⟨?_, ?_⟩)
    · repeat (first | exact Chk.nil | refine Chk.pre rfl ?_ | refine Chk.load rfl (cellsAt_ptr hrs7.box) rfl rfl ?_)
    repeat (first | refine DRun.op rfl rfl rfl ?_ | refine DRun.loadI rfl rfl rfl rfl rfl ?_ | refine DRun.load rfl rfl rfl rfl rfl rfl ?_ | refine DRun.nil ?_)
    repeat (first
    | refine AOps.op rfl rfl ?_ | refine AOps.load rfl rfl rfl rfl rfl ?_ | refine AOps.nil ?_ | refine AWP.seq ?_ | refine AWP.region ?_ | refine AWP.block ?_ | refine AWP.skip ?_ | refine AWP.exit ?_ | refine AWP.scope ?_ | refine AWP.label ?_)
    refine AWP.ret ?_
    exact ⟨_, _, rfl, rfl, Heap.le_refl _, fin _ u e [] hrs7 he (parts.1 he)⟩
end Go.Proofs.Ytlbnhokhhangdaa

/- The document's numbers. -/
namespace Go.Proofs.Ytlbnhokhhangdaa
open Go Go.Am Go.Pk Go.Lib
set_option linter.unusedVariables false
set_option maxRecDepth 10000
attribute [local irreducible] AOps AWP DRun ACalls

theorem R1Same_spec (a b : Str) (ta tb : Tag) (ha : a.length < 2 ^ 40) (hb : b.length < 2 ^ 40) (H : Heap) :
    ACalls Q.prog 17 [.sl (encB a) ta, .sl (encB b) tb] H fun r H' => r = .bool (decide (a = b)) ∧ H' = H := by
  refine ACalls.body (N := 26) Try.func17 rfl rfl rfl rfl ?_
  repeat (first
    | refine AOps.op rfl rfl ?_ | refine AOps.load rfl rfl rfl rfl rfl ?_ | refine AOps.nil ?_ | refine AWP.seq ?_ | refine AWP.region ?_ | refine AWP.block ?_ | refine AWP.skip ?_ | refine AWP.exit ?_ | refine AWP.scope ?_ | refine AWP.label ?_)
  refine AWP.cond rfl (fun h => ?_) (fun h => ?_)
  · have h : a.length ≠ b.length := by simp [encB_length] at h; omega
    repeat (first
    | refine AOps.op rfl rfl ?_ | refine AOps.load rfl rfl rfl rfl rfl ?_ | refine AOps.nil ?_ | refine AWP.seq ?_ | refine AWP.region ?_ | refine AWP.block ?_ | refine AWP.skip ?_ | refine AWP.exit ?_ | refine AWP.scope ?_ | refine AWP.label ?_)
    refine AWP.ret ?_
    refine ⟨_, _, rfl, rfl, Heap.le_refl _, ?_, rfl⟩
    have : a ≠ b := fun e => h (by rw [e])
    simp [this, ofConst]
  · have hab : a.length = b.length := by simp [encB_length] at h; omega
    repeat (first
    | refine AOps.op rfl rfl ?_ | refine AOps.load rfl rfl rfl rfl rfl ?_ | refine AOps.nil ?_ | refine AWP.seq ?_ | refine AWP.region ?_ | refine AWP.block ?_ | refine AWP.skip ?_ | refine AWP.exit ?_ | refine AWP.scope ?_ | refine AWP.label ?_)
    refine AWP.loopA (α := Nat) (fun i => i ≤ a.length ∧ a.take i = b.take i) (fun i => a.length - i)
      (fun i => [(0, .sl (encB a) ta), (1, .sl (encB b) tb), (5, .int .i64 i)]) (fun _ => []) (fun _ => H) 0 ⟨by simp, by simp⟩ ⟨rfl, rfl, rfl, trivial⟩ rfl (Heap.le_refl _) ?_
    rintro i ⟨h1, h2⟩
    repeat (first
    | refine AOps.op rfl rfl ?_ | refine AOps.load rfl rfl rfl rfl rfl ?_ | refine AOps.nil ?_ | refine AWP.seq ?_ | refine AWP.region ?_ | refine AWP.block ?_ | refine AWP.skip ?_ | refine AWP.exit ?_ | refine AWP.scope ?_ | refine AWP.label ?_)
    refine AWP.cond rfl (fun h => ?_) (fun h => ?_)
    · have h : i < a.length := by simp [encB_length] at h; omega
      have ei : IntKind.i64.wrap ((i : Int) + 1) = ((i + 1 : Nat) : Int) := wrap_i64 (n := i + 1) (by omega)
      obtain ⟨c, hc⟩ : ∃ c, a[i]? = some c := ⟨a[i], List.getElem?_eq_getElem h⟩
      obtain ⟨d, hd⟩ : ∃ d, b[i]? = some d := ⟨b[i], List.getElem?_eq_getElem (by omega)⟩
      repeat (first
    | refine AOps.op rfl rfl ?_ | refine AOps.load rfl rfl rfl rfl rfl ?_ | refine AOps.nil ?_ | refine AWP.seq ?_ | refine AWP.region ?_ | refine AWP.block ?_ | refine AWP.skip ?_ | refine AWP.exit ?_ | refine AWP.scope ?_ | refine AWP.label ?_)
      refine AWP.draw [[], [], [0, 1], [0, 1, 2], [], [], [4, 5], [4, 5, 6], [0, 1, 2, 3, 4, 5, 6, 7]] [(0, .pure), (1, .pure), (2, .pure), (3, .read), (4, .pure), (5, .pure), (6, .pure), (7, .read), (8, .pure)] rfl ?_
      repeat (first | refine DRun.op rfl rfl rfl ?_ | refine DRun.loadI rfl rfl rfl rfl rfl ?_ | refine DRun.load rfl rfl rfl rfl rfl rfl ?_ | refine DRun.nil ?_)
      refine DRun.indexSl rfl rfl rfl rfl rfl rfl rfl (by omega) (encB_get hc) rfl rfl ?_
      repeat (first | refine DRun.op rfl rfl rfl ?_ | refine DRun.loadI rfl rfl rfl rfl rfl ?_ | refine DRun.load rfl rfl rfl rfl rfl rfl ?_ | refine DRun.nil ?_)
      refine DRun.indexSl rfl rfl rfl rfl rfl rfl rfl (by omega) (encB_get hd) rfl rfl ?_
      repeat (first | refine DRun.op rfl rfl rfl ?_ | refine DRun.loadI rfl rfl rfl rfl rfl ?_ | refine DRun.load rfl rfl rfl rfl rfl rfl ?_ | refine DRun.nil ?_)
      refine AWP.cond rfl (fun h => ?_) (fun h => ?_)
      · have hne : c ≠ d := by intro e; subst e; simp at h
        repeat (first
    | refine AOps.op rfl rfl ?_ | refine AOps.load rfl rfl rfl rfl rfl ?_ | refine AOps.nil ?_ | refine AWP.seq ?_ | refine AWP.region ?_ | refine AWP.block ?_ | refine AWP.skip ?_ | refine AWP.exit ?_ | refine AWP.scope ?_ | refine AWP.label ?_)
        refine AWP.ret ?_
        refine ⟨_, _, rfl, rfl, Heap.le_refl _, ?_, rfl⟩
        have : a ≠ b := fun e => hne (by rw [e, hd] at hc; exact (Option.some.inj hc).symm)
        simp [this, ofConst]
      · have he : c = d := by
          simp at h
          exact UInt8.toNat.inj (by omega)
        repeat (first
    | refine AOps.op rfl rfl ?_ | refine AOps.load rfl rfl rfl rfl rfl ?_ | refine AOps.nil ?_ | refine AWP.seq ?_ | refine AWP.region ?_ | refine AWP.block ?_ | refine AWP.skip ?_ | refine AWP.exit ?_ | refine AWP.scope ?_ | refine AWP.label ?_)
        refine ⟨i + 1, by omega, ⟨by omega, ?_⟩, ⟨rfl, rfl, congrArg (fun x => some (AV.int .i64 x)) ei, trivial⟩, rfl, Heap.le_refl _⟩
        rw [List.take_add_one, List.take_add_one, h2, hc, hd, he]
    · have h : a.length ≤ i := by simp [encB_length] at h; omega
      repeat (first
    | refine AOps.op rfl rfl ?_ | refine AOps.load rfl rfl rfl rfl rfl ?_ | refine AOps.nil ?_ | refine AWP.seq ?_ | refine AWP.region ?_ | refine AWP.block ?_ | refine AWP.skip ?_ | refine AWP.exit ?_ | refine AWP.scope ?_ | refine AWP.label ?_)
      refine AWP.ret ?_
      refine ⟨_, _, rfl, rfl, Heap.le_refl _, ?_, rfl⟩
      have : a = b := by rw [← List.take_of_length_le h, h2, List.take_of_length_le (by omega)]
      simp [this, ofConst]
end Go.Proofs.Ytlbnhokhhangdaa

/- The document's numbers, told. -/
namespace Go.Proofs.Ytlbnhokhhangdaa
open Go Go.Am Go.Pk Go.Lib
set_option linter.unusedVariables false
set_option maxRecDepth 10000
attribute [local irreducible] AOps AWP DRun ACalls

theorem R1Put_spec (n : Nat) (hn : n < 2 ^ 64) (H : Heap) : ACalls Q.prog 54 [.int .u64 n] H (Bs H (uvarint n)) := by
  refine ACalls.body (N := 21) Try.func54 rfl rfl rfl rfl ?_
  repeat (first
    | refine AOps.op rfl rfl ?_ | refine AOps.load rfl rfl rfl rfl rfl ?_ | refine AOps.nil ?_ | refine AWP.seq ?_ | refine AWP.region ?_ | refine AWP.block ?_ | refine AWP.skip ?_ | refine AWP.exit ?_ | refine AWP.scope ?_ | refine AWP.label ?_)
  refine AOps.buildSlice (els := encB []) rfl rfl rfl ?_
  repeat (first
    | refine AOps.op rfl rfl ?_ | refine AOps.load rfl rfl rfl rfl rfl ?_ | refine AOps.nil ?_ | refine AWP.seq ?_ | refine AWP.region ?_ | refine AWP.block ?_ | refine AWP.skip ?_ | refine AWP.exit ?_ | refine AWP.scope ?_ | refine AWP.label ?_)
  refine AWP.loopA (α := Str × Nat × Tag × Heap) (fun a => a.1 ++ uvarint a.2.1 = uvarint n ∧ a.2.1 < 2 ^ 64 ∧ App a.2.2.2 1 a.1.length a.2.2.1 ∧ hbase a.2.2.2 a.2.2.1 = H) (fun a => a.2.1)
    (fun a => [(0, .int .u64 a.2.1), (3, .sl (encB a.1) a.2.2.1)]) (fun _ => []) (fun a => a.2.2.2) ([], n, .full, H) ⟨rfl, hn, trivial, rfl⟩ ⟨rfl, rfl, trivial⟩ rfl (Heap.le_refl _) ?_
  rintro ⟨acc, m, tg, H1⟩ ⟨h1, h2, h3, h4⟩
  simp only at h1 h2 h3 h4
  have hlen : acc.length ≤ 10 := by
    have := congrArg List.length h1
    simp only [List.length_append] at this
    have := uvarint_length64 hn
    omega
  repeat (first
    | refine AOps.op rfl rfl ?_ | refine AOps.load rfl rfl rfl rfl rfl ?_ | refine AOps.nil ?_ | refine AWP.seq ?_ | refine AWP.region ?_ | refine AWP.block ?_ | refine AWP.skip ?_ | refine AWP.exit ?_ | refine AWP.scope ?_ | refine AWP.label ?_)
  refine AWP.cond rfl (fun h => ?_) (fun h => ?_)
  · have h : 128 ≤ m := by simp at h; omega
    repeat (first
    | refine AOps.op rfl rfl ?_ | refine AOps.load rfl rfl rfl rfl rfl ?_ | refine AOps.nil ?_ | refine AWP.seq ?_ | refine AWP.region ?_ | refine AWP.block ?_ | refine AWP.skip ?_ | refine AWP.exit ?_ | refine AWP.scope ?_ | refine AWP.label ?_)
    have e1 : IntKind.u8.wrap (IntKind.u64.wrap (128 + (m : Int).tmod 128)) = (((m % 128 + 128).toUInt8.toNat : Nat) : Int) := by
      rw [show (128 : Int) + (m : Int).tmod 128 = ((128 + m % 128 : Nat) : Int) by rw [Int.natCast_add]; rfl, wrap_u64 (n := 128 + m % 128) (by omega), wrap_u8]
      simp; omega
    refine AOps.buildSlice (els := encB [(m % 128 + 128).toUInt8]) rfl (bytes1 e1) rfl ?_
    refine appB H1 (Heap.le_refl _) rfl rfl rfl rfl rfl h3 (by simp; omega) fun tag' H' k1 k2 => ?_
    repeat (first
    | refine AOps.op rfl rfl ?_ | refine AOps.load rfl rfl rfl rfl rfl ?_ | refine AOps.nil ?_ | refine AWP.seq ?_ | refine AWP.region ?_ | refine AWP.block ?_ | refine AWP.skip ?_ | refine AWP.exit ?_ | refine AWP.scope ?_ | refine AWP.label ?_)
    refine ⟨(acc ++ [(m % 128 + 128).toUInt8], m / 128, tag', H'), ?_, ⟨?_, by ((try dsimp only); omega), k1, k2.trans h4⟩, ⟨?_, rfl, trivial⟩, rfl, Heap.le_refl _⟩
    · ((try dsimp only); omega)
    · simp only [List.append_assoc, List.cons_append, List.nil_append]; rw [← uvarint_big h]; exact h1
    · refine congrArg (fun x => some (AV.int .u64 x)) ?_
      show IntKind.u64.wrap ((m : Int).tdiv ((128 : Nat) : Int)) = _
      rw [show (m : Int).tdiv ((128 : Nat) : Int) = ((m / 128 : Nat) : Int) from rfl]; exact wrap_u64 (n := m / 128) (by omega)
  · have h : m < 128 := by simp at h; omega
    repeat (first
    | refine AOps.op rfl rfl ?_ | refine AOps.load rfl rfl rfl rfl rfl ?_ | refine AOps.nil ?_ | refine AWP.seq ?_ | refine AWP.region ?_ | refine AWP.block ?_ | refine AWP.skip ?_ | refine AWP.exit ?_ | refine AWP.scope ?_ | refine AWP.label ?_)
    have e1 : IntKind.u8.wrap (m : Int) = ((m.toUInt8.toNat : Nat) : Int) := by rw [wrap_u8]; simp
    refine AOps.buildSlice (els := encB [m.toUInt8]) rfl (bytes1 e1) rfl ?_
    refine appB H1 (Heap.le_refl _) rfl rfl rfl rfl rfl h3 (by simp; omega) fun tag' H' k1 k2 => ?_
    repeat (first
    | refine AOps.op rfl rfl ?_ | refine AOps.load rfl rfl rfl rfl rfl ?_ | refine AOps.nil ?_ | refine AWP.seq ?_ | refine AWP.region ?_ | refine AWP.block ?_ | refine AWP.skip ?_ | refine AWP.exit ?_ | refine AWP.scope ?_ | refine AWP.label ?_)
    refine AWP.ret ?_
    refine ⟨_, _, rfl, rfl, Heap.le_refl _, tag', ?_, ?_, k2.trans h4⟩
    · rw [← h1, uvarint_small h]
    · rw [← h1, uvarint_small h]; exact k1

theorem R1Zig_spec (n : Int) (h1 : -9223372036854775808 ≤ n) (h2 : n ≤ 9223372036854775807) (H : Heap) :
    ACalls Q.prog 73 [.int .i64 n] H fun r H' => r = .int .u64 (zigzag n) ∧ H' = H := by
  refine ACalls.body (N := 14) Try.func73 rfl rfl rfl rfl ?_
  repeat (first
    | refine AOps.op rfl rfl ?_ | refine AOps.load rfl rfl rfl rfl rfl ?_ | refine AOps.nil ?_ | refine AWP.seq ?_ | refine AWP.region ?_ | refine AWP.block ?_ | refine AWP.skip ?_ | refine AWP.exit ?_ | refine AWP.scope ?_ | refine AWP.label ?_)
  refine AWP.cond rfl (fun h => ?_) (fun h => ?_)
  · have h : 0 ≤ n := by simp at h; omega
    repeat (first
    | refine AOps.op rfl rfl ?_ | refine AOps.load rfl rfl rfl rfl rfl ?_ | refine AOps.nil ?_ | refine AWP.seq ?_ | refine AWP.region ?_ | refine AWP.block ?_ | refine AWP.skip ?_ | refine AWP.exit ?_ | refine AWP.scope ?_ | refine AWP.label ?_)
    refine AWP.ret ?_
    refine ⟨_, _, rfl, rfl, Heap.le_refl _, congrArg (AV.int .u64) ?_, rfl⟩
    rw [zigzag_nonneg h]
    show IntKind.u64.wrap (2 * IntKind.u64.wrap n) = _
    rw [IntKind.wrap_u64, IntKind.wrap_u64]; omega
  · have h : n < 0 := by simp at h; omega
    repeat (first
    | refine AOps.op rfl rfl ?_ | refine AOps.load rfl rfl rfl rfl rfl ?_ | refine AOps.nil ?_ | refine AWP.seq ?_ | refine AWP.region ?_ | refine AWP.block ?_ | refine AWP.skip ?_ | refine AWP.exit ?_ | refine AWP.scope ?_ | refine AWP.label ?_)
    refine AWP.ret ?_
    refine ⟨_, _, rfl, rfl, Heap.le_refl _, congrArg (AV.int .u64) ?_, rfl⟩
    show IntKind.u64.wrap (IntKind.u64.wrap (2 * IntKind.u64.wrap (IntKind.i64.wrap (0 - IntKind.i64.wrap (n + 1)))) + 1) = _
    unfold zigzag
    rw [if_neg (by omega)]
    simp only [IntKind.wrap_u64, IntKind.wrap_i64]; omega

theorem R1Zag_spec (u : Nat) (h : u < 2 ^ 64) (H : Heap) : ACalls Q.prog 83 [.int .u64 u] H fun r H' => r = .int .i64 (zag u) ∧ H' = H := by
  have e2 : IntKind.u64.wrap ((u : Int).tdiv 2) = ((u / 2 : Nat) : Int) := by
    rw [show (u : Int).tdiv 2 = ((u / 2 : Nat) : Int) from rfl]; exact wrap_u64 (n := u / 2) (by omega)
  have e3 : IntKind.i64.wrap ((u / 2 : Nat) : Int) = ((u / 2 : Nat) : Int) := wrap_i64 (by omega)
  refine ACalls.body (N := 14) Try.func83 rfl rfl rfl rfl ?_
  repeat (first
    | refine AOps.op rfl rfl ?_ | refine AOps.load rfl rfl rfl rfl rfl ?_ | refine AOps.nil ?_ | refine AWP.seq ?_ | refine AWP.region ?_ | refine AWP.block ?_ | refine AWP.skip ?_ | refine AWP.exit ?_ | refine AWP.scope ?_ | refine AWP.label ?_)
  refine AWP.cond rfl (fun h => ?_) (fun h => ?_)
  · have h : u % 2 = 0 := by
      have e : (u : Int).tmod 2 = ((u % 2 : Nat) : Int) := rfl
      simp at h; rw [e] at h; omega
    repeat (first
    | refine AOps.op rfl rfl ?_ | refine AOps.load rfl rfl rfl rfl rfl ?_ | refine AOps.nil ?_ | refine AWP.seq ?_ | refine AWP.region ?_ | refine AWP.block ?_ | refine AWP.skip ?_ | refine AWP.exit ?_ | refine AWP.scope ?_ | refine AWP.label ?_)
    refine AWP.ret ?_
    refine ⟨_, _, rfl, rfl, Heap.le_refl _, congrArg (AV.int .i64) ?_, rfl⟩
    show IntKind.i64.wrap (IntKind.u64.wrap ((u : Int).tdiv 2)) = _
    rw [e2, e3]; unfold zag; rw [if_pos h]
  · have h : ¬ u % 2 = 0 := by
      have e : (u : Int).tmod 2 = ((u % 2 : Nat) : Int) := rfl
      simp at h; rw [e] at h; omega
    repeat (first
    | refine AOps.op rfl rfl ?_ | refine AOps.load rfl rfl rfl rfl rfl ?_ | refine AOps.nil ?_ | refine AWP.seq ?_ | refine AWP.region ?_ | refine AWP.block ?_ | refine AWP.skip ?_ | refine AWP.exit ?_ | refine AWP.scope ?_ | refine AWP.label ?_)
    refine AWP.ret ?_
    refine ⟨_, _, rfl, rfl, Heap.le_refl _, congrArg (AV.int .i64) ?_, rfl⟩
    show IntKind.i64.wrap (IntKind.i64.wrap (0 - IntKind.i64.wrap (IntKind.u64.wrap ((u : Int).tdiv 2))) - 1) = _
    rw [e2, e3]; unfold zag; rw [if_neg h]
    simp only [IntKind.wrap_i64]; omega
end Go.Proofs.Ytlbnhokhhangdaa

/- The document's numbers, read. -/
namespace Go.Proofs.Ytlbnhokhhangdaa
open Go Go.Am Go.Pk Go.Lib
set_option linter.unusedVariables false
set_option maxRecDepth 10000
attribute [local irreducible] AOps AWP DRun ACalls

theorem R1Take_spec (b : Str) (tag : Tag) (H : Heap) (hb : b.length < 2 ^ 40) :
    ACalls Q.prog 61 [.sl (encB b) tag] H fun r H' => r = .tuple [.int .u64 (vtake b).1, .int .i64 (vtake b).2.1, .int .i64 (vtake b).2.2] ∧ H' = H := by
  have hlen := encB_length b
  refine ACalls.body (N := 63) Try.func61 rfl rfl rfl rfl ?_
  repeat (first
    | refine AOps.op rfl rfl ?_ | refine AOps.load rfl rfl rfl rfl rfl ?_ | refine AOps.nil ?_ | refine AWP.seq ?_ | refine AWP.region ?_ | refine AWP.skip ?_ | refine AWP.exit ?_ | refine AWP.scope ?_ | refine AWP.label ?_)
  refine AWP.thnA (α := Nat) (fun s => (s = 0 ∧ vtake b = (0, 0, if b.length < 10 then 2 else 3)) ∨ (First b s ∧ s ≤ 10))
    (fun s => [(0, .sl (encB b) tag), (5, .int .i64 s)]) (fun _ => []) (fun _ => H) ?_ ?_
  · refine AWP.block ?_
    refine AWP.loopA (α := Nat × Nat) (fun a => a.1 ≤ b.length ∧ a.1 ≤ 10 ∧ ((a.2 = 0 ∧ ∀ j c, j < a.1 → b[j]? = some c → 128 ≤ c.toNat) ∨ (a.2 = a.1 ∧ First b a.1))) (fun a => b.length - a.1)
      (fun a => [(0, .sl (encB b) tag), (5, .int .i64 a.2), (6, .int .i64 a.1)]) (fun _ => []) (fun _ => H) (0, 0)
      ⟨by simp, by simp, .inl ⟨rfl, fun j c hj => by omega⟩⟩ ⟨rfl, rfl, rfl, trivial⟩ rfl (Heap.le_refl _) ?_
    rintro ⟨i, s⟩ ⟨h1, h2, h3⟩
    simp only at h1 h2 h3
    repeat (first
    | refine AOps.op rfl rfl ?_ | refine AOps.load rfl rfl rfl rfl rfl ?_ | refine AOps.nil ?_ | refine AWP.seq ?_ | refine AWP.region ?_ | refine AWP.block ?_ | refine AWP.skip ?_ | refine AWP.exit ?_ | refine AWP.scope ?_ | refine AWP.label ?_)
    refine AOps.and (j := 4) (y := decide ((i : Int) < 10)) [_, _] rfl rfl rfl rfl rfl rfl rfl (fun hb => ?_) ?_
    · repeat (first | refine AOps.unguard rfl rfl (by assumption) ?_ | refine AOps.op rfl rfl ?_ | refine AOps.load rfl rfl rfl rfl rfl ?_)
      exact AOps.nil (GuardEnd.of 2 rfl rfl rfl rfl rfl)
    repeat (first
    | refine AOps.op rfl rfl ?_ | refine AOps.load rfl rfl rfl rfl rfl ?_ | refine AOps.nil ?_ | refine AWP.seq ?_ | refine AWP.region ?_ | refine AWP.block ?_ | refine AWP.skip ?_ | refine AWP.exit ?_ | refine AWP.scope ?_ | refine AWP.label ?_)
    refine AOps.and (j := 8) (y := (s : Int) == 0) [_, _] rfl rfl rfl rfl rfl rfl rfl (fun hb => ?_) ?_
    · repeat (first | refine AOps.unguard rfl rfl (by assumption) ?_ | refine AOps.op rfl rfl ?_ | refine AOps.load rfl rfl rfl rfl rfl ?_)
      exact AOps.nil (GuardEnd.of 2 rfl rfl rfl rfl rfl)
    repeat (first
    | refine AOps.op rfl rfl ?_ | refine AOps.load rfl rfl rfl rfl rfl ?_ | refine AOps.nil ?_ | refine AWP.seq ?_ | refine AWP.region ?_ | refine AWP.block ?_ | refine AWP.skip ?_ | refine AWP.exit ?_ | refine AWP.scope ?_ | refine AWP.label ?_)
    refine AWP.cond rfl (fun h => ?_) (fun h => ?_)
    · have h : (i < b.length ∧ i < 10) ∧ s = 0 := by simp [hlen] at h; omega
      obtain ⟨⟨g1, g2⟩, rfl⟩ := h
      have hall : ∀ j c, j < i → b[j]? = some c → 128 ≤ c.toNat := by
        rcases h3 with h3 | ⟨h3, h4⟩
        · exact h3.2
        · obtain ⟨q1, -⟩ := h4; omega
      obtain ⟨c, hc⟩ : ∃ c, b[i]? = some c := ⟨b[i], List.getElem?_eq_getElem g1⟩
      have ei : IntKind.i64.wrap ((i : Int) + 1) = ((i + 1 : Nat) : Int) := wrap_i64 (n := i + 1) (by omega)
      repeat (first
    | refine AOps.op rfl rfl ?_ | refine AOps.load rfl rfl rfl rfl rfl ?_ | refine AOps.nil ?_ | refine AWP.seq ?_ | refine AWP.region ?_ | refine AWP.block ?_ | refine AWP.skip ?_ | refine AWP.exit ?_ | refine AWP.scope ?_ | refine AWP.label ?_)
      refine AOps.indexSl rfl rfl rfl rfl rfl rfl (by ((try dsimp only); omega)) (encB_get hc) rfl rfl ?_
      repeat (first
    | refine AOps.op rfl rfl ?_ | refine AOps.load rfl rfl rfl rfl rfl ?_ | refine AOps.nil ?_ | refine AWP.seq ?_ | refine AWP.region ?_ | refine AWP.block ?_ | refine AWP.skip ?_ | refine AWP.exit ?_ | refine AWP.scope ?_ | refine AWP.label ?_)
      refine AWP.cond rfl (fun h => ?_) (fun h => ?_)
      · have h : c.toNat < 128 := by simp at h; omega
        repeat (first
    | refine AOps.op rfl rfl ?_ | refine AOps.load rfl rfl rfl rfl rfl ?_ | refine AOps.nil ?_ | refine AWP.seq ?_ | refine AWP.region ?_ | refine AWP.block ?_ | refine AWP.skip ?_ | refine AWP.exit ?_ | refine AWP.scope ?_ | refine AWP.label ?_)
        refine ⟨(i + 1, i + 1), by ((try dsimp only); omega), ⟨by ((try dsimp only); omega), by ((try dsimp only); omega), .inr ⟨rfl, by ((try dsimp only); omega), by ((try dsimp only); omega), ?_, ?_⟩⟩, ⟨rfl, congrArg (fun x => some (AV.int .i64 x)) ei, congrArg (fun x => some (AV.int .i64 x)) ei, trivial⟩, rfl, Heap.le_refl _⟩
        · intro d hd; simp only [Nat.add_sub_cancel] at hd; rw [hc] at hd; cases hd; exact h
        · intro j d hj hd; exact hall j d (by ((try dsimp only); omega)) hd
      · have h8 : 128 ≤ c.toNat := by simp at h; omega
        repeat (first
    | refine AOps.op rfl rfl ?_ | refine AOps.load rfl rfl rfl rfl rfl ?_ | refine AOps.nil ?_ | refine AWP.seq ?_ | refine AWP.region ?_ | refine AWP.block ?_ | refine AWP.skip ?_ | refine AWP.exit ?_ | refine AWP.scope ?_ | refine AWP.label ?_)
        refine ⟨(i + 1, 0), by ((try dsimp only); omega), ⟨by ((try dsimp only); omega), by ((try dsimp only); omega), .inl ⟨rfl, ?_⟩⟩, ⟨rfl, rfl, congrArg (fun x => some (AV.int .i64 x)) ei, trivial⟩, rfl, Heap.le_refl _⟩
        intro j d hj hd
        by_cases e : j = i
        · subst e; rw [hc] at hd; cases hd; exact h8
        · exact hall j d (by ((try dsimp only); omega)) hd
    · have h : ¬ ((i < b.length ∧ i < 10) ∧ s = 0) := by simp [hlen] at h; omega
      repeat (first
    | refine AOps.op rfl rfl ?_ | refine AOps.load rfl rfl rfl rfl rfl ?_ | refine AOps.nil ?_ | refine AWP.seq ?_ | refine AWP.region ?_ | refine AWP.block ?_ | refine AWP.skip ?_ | refine AWP.exit ?_ | refine AWP.scope ?_ | refine AWP.label ?_)
      refine ⟨s, ?_, ⟨rfl, rfl, trivial⟩, rfl, Heap.le_refl _⟩
      rcases h3 with ⟨rfl, h4⟩ | ⟨rfl, h4⟩
      · refine .inl ⟨rfl, vtake_none fun j c hj hc => h4 j c ?_ hc⟩
        have := (List.getElem?_eq_some_iff.1 hc).1
        omega
      · exact .inr ⟨h4, h2⟩
  intro s hs
  repeat (first
    | refine AOps.op rfl rfl ?_ | refine AOps.load rfl rfl rfl rfl rfl ?_ | refine AOps.nil ?_ | refine AWP.seq ?_ | refine AWP.region ?_ | refine AWP.block ?_ | refine AWP.skip ?_ | refine AWP.exit ?_ | refine AWP.scope ?_ | refine AWP.label ?_)
  refine AOps.and (j := 2) (y := decide ((b.length : Int) < 10)) [_, _, _] rfl rfl rfl rfl rfl rfl rfl (fun hb => ?_) ?_
  · refine AOps.unguard rfl rfl hb ?_
    refine AOps.op rfl rfl ?_
    refine AOps.unguard rfl rfl hb ?_
    refine AOps.op (r := .int .i64 b.length) (congrArg (fun n : Nat => some (AV.int .i64 n)) hlen) rfl ?_
    repeat (first | refine AOps.unguard rfl rfl (by assumption) ?_ | refine AOps.op rfl rfl ?_ | refine AOps.load rfl rfl rfl rfl rfl ?_)
    exact AOps.nil (GuardEnd.of 3 rfl rfl rfl rfl rfl)
  repeat (first
    | refine AOps.op rfl rfl ?_ | refine AOps.load rfl rfl rfl rfl rfl ?_ | refine AOps.nil ?_ | refine AWP.seq ?_ | refine AWP.region ?_ | refine AWP.block ?_ | refine AWP.skip ?_ | refine AWP.exit ?_ | refine AWP.scope ?_ | refine AWP.label ?_)
  rcases hs with ⟨rfl, hs⟩ | ⟨hs, hs2⟩
  · refine AWP.cond rfl (fun h => ?_) (fun h => ?_)
    · have h : b.length < 10 := by simp at h; omega
      repeat (first
    | refine AOps.op rfl rfl ?_ | refine AOps.load rfl rfl rfl rfl rfl ?_ | refine AOps.nil ?_ | refine AWP.seq ?_ | refine AWP.region ?_ | refine AWP.block ?_ | refine AWP.skip ?_ | refine AWP.exit ?_ | refine AWP.scope ?_ | refine AWP.label ?_)
      refine AWP.ret ?_
      refine ⟨_, _, rfl, rfl, Heap.le_refl _, ?_, rfl⟩
      rw [hs, if_pos h]; rfl
    · have h10 : ¬ b.length < 10 := by simp at h; omega
      repeat (first
    | refine AOps.op rfl rfl ?_ | refine AOps.load rfl rfl rfl rfl rfl ?_ | refine AOps.nil ?_ | refine AWP.seq ?_ | refine AWP.region ?_ | refine AWP.block ?_ | refine AWP.skip ?_ | refine AWP.exit ?_ | refine AWP.scope ?_ | refine AWP.label ?_)
      refine AWP.cond rfl (fun h => ?_) (fun h => by simp at h)
      repeat (first
    | refine AOps.op rfl rfl ?_ | refine AOps.load rfl rfl rfl rfl rfl ?_ | refine AOps.nil ?_ | refine AWP.seq ?_ | refine AWP.region ?_ | refine AWP.block ?_ | refine AWP.skip ?_ | refine AWP.exit ?_ | refine AWP.scope ?_ | refine AWP.label ?_)
      refine AWP.ret ?_
      refine ⟨_, _, rfl, rfl, Heap.le_refl _, ?_, rfl⟩
      rw [hs, if_neg h10]; rfl
  have hs' := hs
  obtain ⟨s1, s2, -, -⟩ := hs
  refine AWP.cond rfl (fun h => by simp at h; omega) (fun _ => ?_)
  repeat (first
    | refine AOps.op rfl rfl ?_ | refine AOps.load rfl rfl rfl rfl rfl ?_ | refine AOps.nil ?_ | refine AWP.seq ?_ | refine AWP.region ?_ | refine AWP.block ?_ | refine AWP.skip ?_ | refine AWP.exit ?_ | refine AWP.scope ?_ | refine AWP.label ?_)
  refine AWP.cond rfl (fun h => by simp at h; omega) (fun _ => ?_)
  have es : IntKind.i64.wrap ((s : Int) - 1) = (s : Int) - 1 := wrap_i64' (by omega) (by omega)
  repeat (first
    | refine AOps.op rfl rfl ?_ | refine AOps.load rfl rfl rfl rfl rfl ?_ | refine AOps.nil ?_ | refine AWP.seq ?_ | refine AWP.region ?_ | refine AWP.block ?_ | refine AWP.skip ?_ | refine AWP.exit ?_ | refine AWP.scope ?_ | refine AWP.label ?_)
  refine AWP.loopA (α := Nat) (fun k => k ≤ s) (fun k => k)
    (fun k => [(0, .sl (encB b) tag), (5, .int .i64 s), (7, .int .u64 ((hor ((b.take s).drop k) % 2 ^ 64 : Nat) : Int)), (8, .int .i64 ((k : Int) - 1))]) (fun _ => []) (fun _ => H) s (Nat.le_refl _)
    ⟨rfl, rfl, ?_, congrArg (fun x => some (AV.int .i64 x)) es, trivial⟩ rfl (Heap.le_refl _) ?_
  · rw [List.drop_of_length_le (by simp; omega)]; rfl
  intro k hk
  repeat (first
    | refine AOps.op rfl rfl ?_ | refine AOps.load rfl rfl rfl rfl rfl ?_ | refine AOps.nil ?_ | refine AWP.seq ?_ | refine AWP.region ?_ | refine AWP.block ?_ | refine AWP.skip ?_ | refine AWP.exit ?_ | refine AWP.scope ?_ | refine AWP.label ?_)
  refine AWP.cond rfl (fun h => ?_) (fun h => ?_)
  · have h : 1 ≤ k := by simp at h; omega
    obtain ⟨c, hc⟩ : ∃ c, b[k - 1]? = some c := ⟨b[k - 1]'(by omega), List.getElem?_eq_getElem _⟩
    have e1 : (k : Int) - 1 = ((k - 1 : Nat) : Int) := by omega
    repeat (first
    | refine AOps.op rfl rfl ?_ | refine AOps.load rfl rfl rfl rfl rfl ?_ | refine AOps.nil ?_ | refine AWP.seq ?_ | refine AWP.region ?_ | refine AWP.block ?_ | refine AWP.skip ?_ | refine AWP.exit ?_ | refine AWP.scope ?_ | refine AWP.label ?_)
    refine AOps.indexSl rfl rfl rfl rfl rfl rfl (by ((try dsimp only); omega)) (by rw [e1]; exact encB_get hc) rfl rfl ?_
    repeat (first
    | refine AOps.op rfl rfl ?_ | refine AOps.load rfl rfl rfl rfl rfl ?_ | refine AOps.nil ?_ | refine AWP.seq ?_ | refine AWP.region ?_ | refine AWP.block ?_ | refine AWP.skip ?_ | refine AWP.exit ?_ | refine AWP.scope ?_ | refine AWP.label ?_)
    refine ⟨k - 1, by omega, by omega, ⟨rfl, rfl, ?_, ?_, trivial⟩, rfl, Heap.le_refl _⟩
    · refine congrArg (fun x => some (AV.int .u64 x)) ?_
      rw [hor_drop (k := k - 1) (by omega) hc, show k - 1 + 1 = k by omega]
      show IntKind.u64.wrap (IntKind.u64.wrap (((hor ((b.take s).drop k) % 2 ^ 64 : Nat) : Int) * 128) + IntKind.u64.wrap ((c.toNat : Int).tmod 128)) = _
      rw [show (c.toNat : Int).tmod 128 = ((c.toNat % 128 : Nat) : Int) from rfl]
      generalize hor ((b.take s).drop k) = n
      simp only [IntKind.wrap_u64]
      omega
    · refine congrArg (fun x => some (AV.int .i64 x)) ?_
      show IntKind.i64.wrap ((k : Int) - 1 - 1) = _
      rw [wrap_i64' (by omega) (by omega)]; omega
  · have h : k = 0 := by simp at h; omega
    subst h
    repeat (first
    | refine AOps.op rfl rfl ?_ | refine AOps.load rfl rfl rfl rfl rfl ?_ | refine AOps.nil ?_ | refine AWP.seq ?_ | refine AWP.region ?_ | refine AWP.block ?_ | refine AWP.skip ?_ | refine AWP.exit ?_ | refine AWP.scope ?_ | refine AWP.label ?_)
    refine AWP.draw [[], [0], [], [], [2, 3], [0, 1, 2, 3, 4], [0, 1, 2, 3, 4, 5]] [(0, .pure), (2, .pure), (3, .pure), (4, .pure), (1, .eff), (5, .pure), (6, .pure)] rfl ?_
    repeat (first | refine DRun.op rfl rfl rfl ?_ | refine DRun.loadI rfl rfl rfl rfl rfl ?_ | refine DRun.load rfl rfl rfl rfl rfl rfl ?_ | refine DRun.nil ?_)
    refine DRun.pureT rfl rfl rfl (fun loc H => cutTo s rfl rfl s2 ⟨rfl, rfl, rfl⟩) ?_
    refine DRun.eff rfl rfl rfl (OpT.callF rfl rfl ((R1Put_spec _ (Nat.mod_lt _ (by decide)) H).mono ?_))
    rintro _ H' ⟨t2, rfl, k1, k2⟩
    refine ⟨Chk.nil, ?_⟩
    refine DRun.callP rfl rfl rfl rfl (fun H => (R1Same_spec _ _ _ _ (by have := uvarint_length64 (x := hor ((b.take s).drop 0) % 2 ^ 64) (Nat.mod_lt _ (by decide)); omega) (by simp; omega) H)) ?_
    repeat (first | refine DRun.op rfl rfl rfl ?_ | refine DRun.loadI rfl rfl rfl rfl rfl ?_ | refine DRun.load rfl rfl rfl rfl rfl rfl ?_ | refine DRun.nil ?_)
    rw [List.drop_zero]
    have hH : H.le H' := by rw [← k2]; exact hbase_le _ _
    refine AWP.cond rfl (fun h => ?_) (fun h => ?_)
    · have h : ¬ uvarint (hor (b.take s) % 2 ^ 64) = b.take s := by simpa using h
      repeat (first
    | refine AOps.op rfl rfl ?_ | refine AOps.load rfl rfl rfl rfl rfl ?_ | refine AOps.nil ?_ | refine AWP.seq ?_ | refine AWP.region ?_ | refine AWP.block ?_ | refine AWP.skip ?_ | refine AWP.exit ?_ | refine AWP.scope ?_ | refine AWP.label ?_)
      refine AWP.ret ?_
      refine ⟨_, H, rfl, rfl, hH, ?_, rfl⟩
      rw [vtake_first hs', if_neg h]; rfl
    · have h : uvarint (hor (b.take s) % 2 ^ 64) = b.take s := by simpa using h
      repeat (first
    | refine AOps.op rfl rfl ?_ | refine AOps.load rfl rfl rfl rfl rfl ?_ | refine AOps.nil ?_ | refine AWP.seq ?_ | refine AWP.region ?_ | refine AWP.block ?_ | refine AWP.skip ?_ | refine AWP.exit ?_ | refine AWP.scope ?_ | refine AWP.label ?_)
      refine AWP.ret ?_
      refine ⟨_, H, rfl, rfl, hH, ?_, rfl⟩
      rw [vtake_first hs', if_pos h]; rfl
end Go.Proofs.Ytlbnhokhhangdaa

/- The document's clocks. -/
namespace Go.Proofs.Ytlbnhokhhangdaa
open Go Go.Am Go.Pk Go.Lib
set_option linter.unusedVariables false
set_option maxRecDepth 10000
attribute [local irreducible] AOps AWP DRun ACalls

theorem R4Right_spec (c : Clk) (H : Heap) : ACalls Q.prog 53 [ck c] H fun r H' => r = .bool c.ok ∧ H' = H := by
  obtain ⟨a, b, c⟩ := c
  refine ACalls.body (N := 31) Try.func53 rfl rfl rfl rfl ?_
  repeat (first | refine AOps.op rfl rfl ?_ | refine AOps.load rfl rfl rfl rfl rfl ?_)
  refine AWP.seq (AWP.region ?_)
  refine AOps.boxL 0 rfl rfl rfl rfl rfl ?_
  repeat (first
    | refine AOps.op rfl rfl ?_ | refine AOps.load rfl rfl rfl rfl rfl ?_ | refine AOps.nil ?_ | refine AWP.seq ?_ | refine AWP.region ?_ | refine AWP.block ?_ | refine AWP.skip ?_ | refine AWP.exit ?_ | refine AWP.scope ?_ | refine AWP.label ?_)
  refine AOps.and (j := 3) (y := decide (a ≤ 4611686018427387903)) [_, _, _] rfl rfl rfl rfl rfl rfl rfl (fun hb => ?_) ?_
  · repeat (first | refine AOps.unguard rfl rfl (by assumption) ?_ | refine AOps.op rfl rfl ?_ | refine AOps.load rfl rfl rfl rfl rfl ?_)
    exact AOps.nil (GuardEnd.of 3 rfl rfl rfl rfl rfl)
  repeat (first
    | refine AOps.op rfl rfl ?_ | refine AOps.load rfl rfl rfl rfl rfl ?_ | refine AOps.nil ?_ | refine AWP.seq ?_ | refine AWP.region ?_ | refine AWP.block ?_ | refine AWP.skip ?_ | refine AWP.exit ?_ | refine AWP.scope ?_ | refine AWP.label ?_)
  refine AOps.and (j := 8) (y := decide (b ≥ 0)) [_, _, _] rfl rfl rfl rfl rfl rfl rfl (fun hb => ?_) ?_
  · repeat (first | refine AOps.unguard rfl rfl (by assumption) ?_ | refine AOps.op rfl rfl ?_ | refine AOps.load rfl rfl rfl rfl rfl ?_)
    exact AOps.nil (GuardEnd.of 3 rfl rfl rfl rfl rfl)
  repeat (first
    | refine AOps.op rfl rfl ?_ | refine AOps.load rfl rfl rfl rfl rfl ?_ | refine AOps.nil ?_ | refine AWP.seq ?_ | refine AWP.region ?_ | refine AWP.block ?_ | refine AWP.skip ?_ | refine AWP.exit ?_ | refine AWP.scope ?_ | refine AWP.label ?_)
  refine AOps.and (j := 13) (y := decide (b ≤ 4611686018427387903)) [_, _, _] rfl rfl rfl rfl rfl rfl rfl (fun hb => ?_) ?_
  · repeat (first | refine AOps.unguard rfl rfl (by assumption) ?_ | refine AOps.op rfl rfl ?_ | refine AOps.load rfl rfl rfl rfl rfl ?_)
    exact AOps.nil (GuardEnd.of 3 rfl rfl rfl rfl rfl)
  repeat (first
    | refine AOps.op rfl rfl ?_ | refine AOps.load rfl rfl rfl rfl rfl ?_ | refine AOps.nil ?_ | refine AWP.seq ?_ | refine AWP.region ?_ | refine AWP.block ?_ | refine AWP.skip ?_ | refine AWP.exit ?_ | refine AWP.scope ?_ | refine AWP.label ?_)
  refine AOps.and (j := 18) (y := decide (c ≥ 0)) [_, _, _] rfl rfl rfl rfl rfl rfl rfl (fun hb => ?_) ?_
  · repeat (first | refine AOps.unguard rfl rfl (by assumption) ?_ | refine AOps.op rfl rfl ?_ | refine AOps.load rfl rfl rfl rfl rfl ?_)
    exact AOps.nil (GuardEnd.of 3 rfl rfl rfl rfl rfl)
  repeat (first
    | refine AOps.op rfl rfl ?_ | refine AOps.load rfl rfl rfl rfl rfl ?_ | refine AOps.nil ?_ | refine AWP.seq ?_ | refine AWP.region ?_ | refine AWP.block ?_ | refine AWP.skip ?_ | refine AWP.exit ?_ | refine AWP.scope ?_ | refine AWP.label ?_)
  refine AOps.and (j := 23) (y := decide (c ≤ 4611686018427387903)) [_, _, _] rfl rfl rfl rfl rfl rfl rfl (fun hb => ?_) ?_
  · repeat (first | refine AOps.unguard rfl rfl (by assumption) ?_ | refine AOps.op rfl rfl ?_ | refine AOps.load rfl rfl rfl rfl rfl ?_)
    exact AOps.nil (GuardEnd.of 3 rfl rfl rfl rfl rfl)
  repeat (first
    | refine AOps.op rfl rfl ?_ | refine AOps.load rfl rfl rfl rfl rfl ?_ | refine AOps.nil ?_ | refine AWP.seq ?_ | refine AWP.region ?_ | refine AWP.block ?_ | refine AWP.skip ?_ | refine AWP.exit ?_ | refine AWP.scope ?_ | refine AWP.label ?_)
  refine AWP.ret ?_
  refine ⟨_, _, rfl, rfl, Heap.le_refl _, ?_, rfl⟩
  refine congrArg AV.bool ?_
  rw [Bool.eq_iff_iff, ok_iff]
  simp
  omega

set_option maxHeartbeats 1000000 in
theorem R4Put_spec (p c : Clk) (hp : p.ok = true) (hc : c.ok = true) (H : Heap) :
    ACalls Q.prog 55 [ck p, ck c] H fun r H' => ∃ x, r = .tuple [x, .int .i64 0] ∧ Bs H (cput p c) x H' := by
  obtain ⟨p1, p2, p3⟩ := (ok_iff p).1 hp
  obtain ⟨c1, c2, c3⟩ := (ok_iff c).1 hc
  refine ACalls.body (N := 33) Try.func55 rfl rfl rfl rfl ?_
  repeat (first | refine AOps.op rfl rfl ?_ | refine AOps.load rfl rfl rfl rfl rfl ?_)
  refine AWP.seq (AWP.region ?_)
  refine AOps.boxL 0 rfl rfl rfl rfl rfl ?_
  refine AOps.boxL 1 rfl rfl rfl rfl rfl ?_
  repeat (first
    | refine AOps.op rfl rfl ?_ | refine AOps.load rfl rfl rfl rfl rfl ?_ | refine AOps.nil ?_ | refine AWP.seq ?_ | refine AWP.region ?_ | refine AWP.block ?_ | refine AWP.skip ?_ | refine AWP.exit ?_ | refine AWP.scope ?_ | refine AWP.label ?_)
  refine AOps.call rfl rfl rfl ((R4Right_spec p H).mono ?_)
  rintro _ H ⟨rfl, rfl⟩
  rw [hp]
  repeat (first
    | refine AOps.op rfl rfl ?_ | refine AOps.load rfl rfl rfl rfl rfl ?_ | refine AOps.nil ?_ | refine AWP.seq ?_ | refine AWP.region ?_ | refine AWP.block ?_ | refine AWP.skip ?_ | refine AWP.exit ?_ | refine AWP.scope ?_ | refine AWP.label ?_)
  refine AOps.or (j := 3) (y := false) [_, _, _] rfl rfl rfl rfl rfl rfl rfl (fun hb => ?_) ?_
  · refine AOps.unguard rfl rfl hb ?_
    refine AOps.load rfl rfl rfl rfl rfl ?_
    refine AOps.unguard rfl rfl hb ?_
    refine AOps.call rfl rfl rfl ((R4Right_spec c _).mono ?_)
    rintro _ H ⟨rfl, rfl⟩
    rw [hc]
    repeat (first | refine AOps.unguard rfl rfl (by assumption) ?_ | refine AOps.op rfl rfl ?_ | refine AOps.load rfl rfl rfl rfl rfl ?_)
    exact AOps.nil (GuardEnd.of 3 rfl rfl rfl rfl rfl)
  repeat (first
    | refine AOps.op rfl rfl ?_ | refine AOps.load rfl rfl rfl rfl rfl ?_ | refine AOps.nil ?_ | refine AWP.seq ?_ | refine AWP.region ?_ | refine AWP.block ?_ | refine AWP.skip ?_ | refine AWP.exit ?_ | refine AWP.scope ?_ | refine AWP.label ?_)
  refine AWP.cond rfl (fun h => by simp at h) (fun _ => ?_)
  repeat (first
    | refine AOps.op rfl rfl ?_ | refine AOps.load rfl rfl rfl rfl rfl ?_ | refine AOps.nil ?_ | refine AWP.seq ?_ | refine AWP.region ?_ | refine AWP.block ?_ | refine AWP.skip ?_ | refine AWP.exit ?_ | refine AWP.scope ?_ | refine AWP.label ?_)
  refine AOps.buildSlice (els := encB []) rfl rfl rfl ?_
  repeat (first
    | refine AOps.op rfl rfl ?_ | refine AOps.load rfl rfl rfl rfl rfl ?_ | refine AOps.nil ?_ | refine AWP.seq ?_ | refine AWP.region ?_ | refine AWP.block ?_ | refine AWP.skip ?_ | refine AWP.exit ?_ | refine AWP.scope ?_ | refine AWP.label ?_)
  refine AWP.loopA (α := Nat × Str × Tag × Heap) (fun a => a.1 ≤ 3 ∧ a.2.1 = cpre p c a.1 ∧ App a.2.2.2 1 a.2.1.length a.2.2.1 ∧ hbase a.2.2.2 a.2.2.1 = H ∧ a.2.1.length ≤ 10 * a.1) (fun a => 3 - a.1)
    (fun a => [(2, .lptr 0 0), (3, .lptr 1 0), (7, .int .i64 a.1), (6, .sl (encB a.2.1) a.2.2.1)]) (fun _ => [(ck p).cells, (ck c).cells]) (fun a => a.2.2.2) (0, [], .full, H)
    ⟨by simp, rfl, trivial, rfl, by simp⟩ ⟨rfl, rfl, rfl, rfl, trivial⟩ rfl (Heap.le_refl _) ?_
  rintro ⟨i, acc, tg, H1⟩ ⟨h1, h2, h3, h4, h5⟩
  simp only at h1 h2 h3 h4 h5
  have ei : IntKind.i64.wrap ((i : Int) + 1) = ((i + 1 : Nat) : Int) := wrap_i64 (n := i + 1) (by omega)
  rcases (by omega : i = 0 ∨ i = 1 ∨ i = 2 ∨ i = 3) with rfl | rfl | rfl | rfl
  · repeat (first
    | refine AOps.op rfl rfl ?_ | refine AOps.load rfl rfl rfl rfl rfl ?_ | refine AOps.nil ?_ | refine AWP.seq ?_ | refine AWP.region ?_ | refine AWP.block ?_ | refine AWP.skip ?_ | refine AWP.exit ?_ | refine AWP.scope ?_ | refine AWP.label ?_)
    refine AWP.cond rfl (fun h => ?_) (fun h => by simp at h)
    have e : IntKind.i64.wrap (c.a - p.a) = c.a - p.a := wrap_i64' (by omega) (by omega)
    have hz := uvarint_length64 (zigzag_lt (x := c.a - p.a) (by omega) (by omega))
    repeat (first
    | refine AOps.op rfl rfl ?_ | refine AOps.load rfl rfl rfl rfl rfl ?_ | refine AOps.nil ?_ | refine AWP.seq ?_ | refine AWP.region ?_ | refine AWP.block ?_ | refine AWP.skip ?_ | refine AWP.exit ?_ | refine AWP.scope ?_ | refine AWP.label ?_)
    refine AWP.draw [[], [], [1], [1, 2], [], [4], [4, 5], [1, 2, 3, 4, 5, 6], [1, 2, 3, 4, 5, 6, 7], [1, 2, 3, 4, 5, 6, 7, 8], [0, 1, 2, 3, 4, 5, 6, 7, 8, 9], [0, 1, 2, 3, 4, 5, 6, 7, 8, 9, 10]] [(0, .pure), (1, .pure), (2, .pure), (3, .read), (4, .pure), (5, .pure), (6, .read), (7, .pure), (8, .pure), (9, .eff), (10, .eff), (11, .pure)] rfl ?_
    repeat (first | refine DRun.op rfl rfl rfl ?_ | refine DRun.loadI rfl rfl rfl rfl rfl ?_ | refine DRun.load rfl rfl rfl rfl rfl rfl ?_ | refine DRun.nil ?_)
    refine DRun.callP rfl rfl (vs := [.int .i64 (c.a - p.a)]) (congrArg (fun x => some [AV.int .i64 x]) e) rfl (fun H => R1Zig_spec _ (by omega) (by omega) H) ?_
    repeat (first | refine DRun.op rfl rfl rfl ?_ | refine DRun.loadI rfl rfl rfl rfl rfl ?_ | refine DRun.load rfl rfl rfl rfl rfl rfl ?_ | refine DRun.nil ?_)
    refine DRun.eff rfl rfl rfl (OpT.callF rfl rfl ((R1Put_spec _ (zigzag_lt (by omega) (by omega)) H1).mono ?_))
    rintro _ H2 ⟨t2, rfl, k1, k2⟩
    refine ⟨?_, ?_⟩
    · repeat (first | exact Chk.nil | refine Chk.pre rfl ?_ | refine Chk.load rfl rfl rfl rfl ?_)
    have hd : App (hbase H2 t2) 1 acc.length tg := by rw [k2]; exact h3
    refine DRun.eff rfl rfl rfl (appBT (hbase H2 t2) (hbase_le _ _) rfl rfl rfl rfl hd (by ((try dsimp only); omega)) fun tag' H' q1 q2 => ?_)
    rw [k2, h4] at q2
    refine ⟨?_, ?_⟩
    · repeat (first | exact Chk.nil | refine Chk.pre rfl ?_ | refine Chk.load rfl rfl rfl rfl ?_)
    repeat (first | refine DRun.op rfl rfl rfl ?_ | refine DRun.loadI rfl rfl rfl rfl rfl ?_ | refine DRun.load rfl rfl rfl rfl rfl rfl ?_ | refine DRun.nil ?_)
    repeat (first
    | refine AOps.op rfl rfl ?_ | refine AOps.load rfl rfl rfl rfl rfl ?_ | refine AOps.nil ?_ | refine AWP.seq ?_ | refine AWP.region ?_ | refine AWP.block ?_ | refine AWP.skip ?_ | refine AWP.exit ?_ | refine AWP.scope ?_ | refine AWP.label ?_)
    refine ⟨(_, acc ++ uvarint (zigzag (c.a - p.a)), tag', H'), ?_, ?_, ⟨rfl, rfl, congrArg (fun x => some (AV.int .i64 x)) ei, rfl, trivial⟩, rfl, Heap.le_refl _⟩
    · simp
    · refine ⟨by simp, by simp only [h2]; rfl, q1, q2, by simp only [List.length_append]; omega⟩
  · repeat (first
    | refine AOps.op rfl rfl ?_ | refine AOps.load rfl rfl rfl rfl rfl ?_ | refine AOps.nil ?_ | refine AWP.seq ?_ | refine AWP.region ?_ | refine AWP.block ?_ | refine AWP.skip ?_ | refine AWP.exit ?_ | refine AWP.scope ?_ | refine AWP.label ?_)
    refine AWP.cond rfl (fun h => ?_) (fun h => by simp at h)
    have e : IntKind.i64.wrap (c.b - p.b) = c.b - p.b := wrap_i64' (by omega) (by omega)
    have hz := uvarint_length64 (zigzag_lt (x := c.b - p.b) (by omega) (by omega))
    repeat (first
    | refine AOps.op rfl rfl ?_ | refine AOps.load rfl rfl rfl rfl rfl ?_ | refine AOps.nil ?_ | refine AWP.seq ?_ | refine AWP.region ?_ | refine AWP.block ?_ | refine AWP.skip ?_ | refine AWP.exit ?_ | refine AWP.scope ?_ | refine AWP.label ?_)
    refine AWP.draw [[], [], [1], [1, 2], [], [4], [4, 5], [1, 2, 3, 4, 5, 6], [1, 2, 3, 4, 5, 6, 7], [1, 2, 3, 4, 5, 6, 7, 8], [0, 1, 2, 3, 4, 5, 6, 7, 8, 9], [0, 1, 2, 3, 4, 5, 6, 7, 8, 9, 10]] [(0, .pure), (1, .pure), (2, .pure), (3, .read), (4, .pure), (5, .pure), (6, .read), (7, .pure), (8, .pure), (9, .eff), (10, .eff), (11, .pure)] rfl ?_
    repeat (first | refine DRun.op rfl rfl rfl ?_ | refine DRun.loadI rfl rfl rfl rfl rfl ?_ | refine DRun.load rfl rfl rfl rfl rfl rfl ?_ | refine DRun.nil ?_)
    refine DRun.callP rfl rfl (vs := [.int .i64 (c.b - p.b)]) (congrArg (fun x => some [AV.int .i64 x]) e) rfl (fun H => R1Zig_spec _ (by omega) (by omega) H) ?_
    repeat (first | refine DRun.op rfl rfl rfl ?_ | refine DRun.loadI rfl rfl rfl rfl rfl ?_ | refine DRun.load rfl rfl rfl rfl rfl rfl ?_ | refine DRun.nil ?_)
    refine DRun.eff rfl rfl rfl (OpT.callF rfl rfl ((R1Put_spec _ (zigzag_lt (by omega) (by omega)) H1).mono ?_))
    rintro _ H2 ⟨t2, rfl, k1, k2⟩
    refine ⟨?_, ?_⟩
    · repeat (first | exact Chk.nil | refine Chk.pre rfl ?_ | refine Chk.load rfl rfl rfl rfl ?_)
    have hd : App (hbase H2 t2) 1 acc.length tg := by rw [k2]; exact h3
    refine DRun.eff rfl rfl rfl (appBT (hbase H2 t2) (hbase_le _ _) rfl rfl rfl rfl hd (by ((try dsimp only); omega)) fun tag' H' q1 q2 => ?_)
    rw [k2, h4] at q2
    refine ⟨?_, ?_⟩
    · repeat (first | exact Chk.nil | refine Chk.pre rfl ?_ | refine Chk.load rfl rfl rfl rfl ?_)
    repeat (first | refine DRun.op rfl rfl rfl ?_ | refine DRun.loadI rfl rfl rfl rfl rfl ?_ | refine DRun.load rfl rfl rfl rfl rfl rfl ?_ | refine DRun.nil ?_)
    repeat (first
    | refine AOps.op rfl rfl ?_ | refine AOps.load rfl rfl rfl rfl rfl ?_ | refine AOps.nil ?_ | refine AWP.seq ?_ | refine AWP.region ?_ | refine AWP.block ?_ | refine AWP.skip ?_ | refine AWP.exit ?_ | refine AWP.scope ?_ | refine AWP.label ?_)
    refine ⟨(_, acc ++ uvarint (zigzag (c.b - p.b)), tag', H'), ?_, ?_, ⟨rfl, rfl, congrArg (fun x => some (AV.int .i64 x)) ei, rfl, trivial⟩, rfl, Heap.le_refl _⟩
    · simp
    · refine ⟨by simp, by simp only [h2]; rfl, q1, q2, by simp only [List.length_append]; omega⟩
  · repeat (first
    | refine AOps.op rfl rfl ?_ | refine AOps.load rfl rfl rfl rfl rfl ?_ | refine AOps.nil ?_ | refine AWP.seq ?_ | refine AWP.region ?_ | refine AWP.block ?_ | refine AWP.skip ?_ | refine AWP.exit ?_ | refine AWP.scope ?_ | refine AWP.label ?_)
    refine AWP.cond rfl (fun h => ?_) (fun h => by simp at h)
    have e : IntKind.i64.wrap (c.c - p.c) = c.c - p.c := wrap_i64' (by omega) (by omega)
    have hz := uvarint_length64 (zigzag_lt (x := c.c - p.c) (by omega) (by omega))
    repeat (first
    | refine AOps.op rfl rfl ?_ | refine AOps.load rfl rfl rfl rfl rfl ?_ | refine AOps.nil ?_ | refine AWP.seq ?_ | refine AWP.region ?_ | refine AWP.block ?_ | refine AWP.skip ?_ | refine AWP.exit ?_ | refine AWP.scope ?_ | refine AWP.label ?_)
    refine AWP.draw [[], [], [1], [1, 2], [], [4], [4, 5], [1, 2, 3, 4, 5, 6], [1, 2, 3, 4, 5, 6, 7], [1, 2, 3, 4, 5, 6, 7, 8], [0, 1, 2, 3, 4, 5, 6, 7, 8, 9], [0, 1, 2, 3, 4, 5, 6, 7, 8, 9, 10]] [(0, .pure), (1, .pure), (2, .pure), (3, .read), (4, .pure), (5, .pure), (6, .read), (7, .pure), (8, .pure), (9, .eff), (10, .eff), (11, .pure)] rfl ?_
    repeat (first | refine DRun.op rfl rfl rfl ?_ | refine DRun.loadI rfl rfl rfl rfl rfl ?_ | refine DRun.load rfl rfl rfl rfl rfl rfl ?_ | refine DRun.nil ?_)
    refine DRun.callP rfl rfl (vs := [.int .i64 (c.c - p.c)]) (congrArg (fun x => some [AV.int .i64 x]) e) rfl (fun H => R1Zig_spec _ (by omega) (by omega) H) ?_
    repeat (first | refine DRun.op rfl rfl rfl ?_ | refine DRun.loadI rfl rfl rfl rfl rfl ?_ | refine DRun.load rfl rfl rfl rfl rfl rfl ?_ | refine DRun.nil ?_)
    refine DRun.eff rfl rfl rfl (OpT.callF rfl rfl ((R1Put_spec _ (zigzag_lt (by omega) (by omega)) H1).mono ?_))
    rintro _ H2 ⟨t2, rfl, k1, k2⟩
    refine ⟨?_, ?_⟩
    · repeat (first | exact Chk.nil | refine Chk.pre rfl ?_ | refine Chk.load rfl rfl rfl rfl ?_)
    have hd : App (hbase H2 t2) 1 acc.length tg := by rw [k2]; exact h3
    refine DRun.eff rfl rfl rfl (appBT (hbase H2 t2) (hbase_le _ _) rfl rfl rfl rfl hd (by ((try dsimp only); omega)) fun tag' H' q1 q2 => ?_)
    rw [k2, h4] at q2
    refine ⟨?_, ?_⟩
    · repeat (first | exact Chk.nil | refine Chk.pre rfl ?_ | refine Chk.load rfl rfl rfl rfl ?_)
    repeat (first | refine DRun.op rfl rfl rfl ?_ | refine DRun.loadI rfl rfl rfl rfl rfl ?_ | refine DRun.load rfl rfl rfl rfl rfl rfl ?_ | refine DRun.nil ?_)
    repeat (first
    | refine AOps.op rfl rfl ?_ | refine AOps.load rfl rfl rfl rfl rfl ?_ | refine AOps.nil ?_ | refine AWP.seq ?_ | refine AWP.region ?_ | refine AWP.block ?_ | refine AWP.skip ?_ | refine AWP.exit ?_ | refine AWP.scope ?_ | refine AWP.label ?_)
    refine ⟨(_, acc ++ uvarint (zigzag (c.c - p.c)), tag', H'), ?_, ?_, ⟨rfl, rfl, congrArg (fun x => some (AV.int .i64 x)) ei, rfl, trivial⟩, rfl, Heap.le_refl _⟩
    · simp
    · refine ⟨by simp, by simp only [h2]; rfl, q1, q2, by simp only [List.length_append]; omega⟩
  · repeat (first
    | refine AOps.op rfl rfl ?_ | refine AOps.load rfl rfl rfl rfl rfl ?_ | refine AOps.nil ?_ | refine AWP.seq ?_ | refine AWP.region ?_ | refine AWP.block ?_ | refine AWP.skip ?_ | refine AWP.exit ?_ | refine AWP.scope ?_ | refine AWP.label ?_)
    refine AWP.cond rfl (fun h => by simp at h) (fun h => ?_)
    repeat (first
    | refine AOps.op rfl rfl ?_ | refine AOps.load rfl rfl rfl rfl rfl ?_ | refine AOps.nil ?_ | refine AWP.seq ?_ | refine AWP.region ?_ | refine AWP.block ?_ | refine AWP.skip ?_ | refine AWP.exit ?_ | refine AWP.scope ?_ | refine AWP.label ?_)
    refine AWP.ret ?_
    refine ⟨_, _, rfl, rfl, Heap.le_refl _, _, rfl, tg, ?_, ?_, h4⟩
    · rw [h2]; simp [cpre, cput]
    · rw [h2] at h3; simpa [cpre, cput] using h3
end Go.Proofs.Ytlbnhokhhangdaa

/- The document's clocks, read. -/
namespace Go.Proofs.Ytlbnhokhhangdaa
open Go Go.Am Go.Pk Go.Lib
set_option linter.unusedVariables false
set_option maxRecDepth 10000
attribute [local irreducible] AOps AWP DRun ACalls

def cmerge (p c : Clk) : Nat → Clk
  | 0 => p
  | 1 => ⟨c.a, p.b, p.c⟩
  | 2 => ⟨c.a, c.b, p.c⟩
  | _ => c

attribute [local irreducible] vtake zag IntKind.wrap bits zigzag

set_option maxHeartbeats 4000000 in
theorem R4Take_spec (p : Clk) (b : Str) (tag : Tag) (hp : p.ok = true) (hb : b.length < 2 ^ 40) (H : Heap) :
    ACalls Q.prog 76 [ck p, .sl (encB b) tag] H fun r H' => r = .tuple [ck (ctake p b).1, .int .i64 (ctake p b).2.1, .int .i64 (ctake p b).2.2] ∧ H' = H := by
  obtain ⟨p1, p2, p3⟩ := (ok_iff p).1 hp
  refine ACalls.body (N := 64) Try.func76 rfl rfl rfl rfl ?_
  repeat (first | refine AOps.op rfl rfl ?_ | refine AOps.load rfl rfl rfl rfl rfl ?_)
  refine AWP.seq (AWP.region ?_)
  refine AOps.boxL 0 rfl rfl rfl rfl rfl ?_
  refine AOps.allocL 1 rfl rfl rfl rfl ?_
  repeat (first
    | refine AOps.op rfl rfl ?_ | refine AOps.load rfl rfl rfl rfl rfl ?_ | refine AOps.nil ?_ | refine AWP.seq ?_ | refine AWP.region ?_ | refine AWP.block ?_ | refine AWP.skip ?_ | refine AWP.exit ?_ | refine AWP.scope ?_ | refine AWP.label ?_)
  refine AOps.call rfl rfl rfl ((R4Right_spec p H).mono ?_)
  rintro _ H ⟨rfl, rfl⟩
  rw [hp]
  repeat (first
    | refine AOps.op rfl rfl ?_ | refine AOps.load rfl rfl rfl rfl rfl ?_ | refine AOps.nil ?_ | refine AWP.seq ?_ | refine AWP.region ?_ | refine AWP.block ?_ | refine AWP.skip ?_ | refine AWP.exit ?_ | refine AWP.scope ?_ | refine AWP.label ?_)
  refine AWP.cond rfl (fun h => by simp at h) (fun _ => ?_)
  repeat (first
    | refine AOps.op rfl rfl ?_ | refine AOps.load rfl rfl rfl rfl rfl ?_ | refine AOps.nil ?_ | refine AWP.seq ?_ | refine AWP.region ?_ | refine AWP.block ?_ | refine AWP.skip ?_ | refine AWP.exit ?_ | refine AWP.scope ?_ | refine AWP.label ?_)
  refine AOps.allocL 2 rfl rfl rfl rfl ?_
  refine AOps.storeL rfl rfl rfl rfl ?_
  repeat (first
    | refine AOps.op rfl rfl ?_ | refine AOps.load rfl rfl rfl rfl rfl ?_ | refine AOps.nil ?_ | refine AWP.seq ?_ | refine AWP.region ?_ | refine AWP.block ?_ | refine AWP.skip ?_ | refine AWP.exit ?_ | refine AWP.scope ?_ | refine AWP.label ?_)
  refine AWP.loopA (α := Nat × Clk × Nat) (fun a => a.1 ≤ 3 ∧ cInv p b a.1 (cmerge p a.2.1 a.1) a.2.2 ∧ a.2.2 ≤ b.length) (fun a => 3 - a.1)
    (fun a => [(1, .sl (encB b) tag), (2, .lptr 0 0), (4, .lptr 1 0), (7, .lptr 2 0), (8, .int .i64 a.2.2), (9, .int .i64 a.1)]) (fun a => [(ck p).cells, (ck Clk.zero).cells, (ck a.2.1).cells]) (fun _ => H) (0, Clk.zero, 0)
    ⟨by simp, ⟨rfl, rfl⟩, by simp⟩ ⟨rfl, rfl, rfl, rfl, rfl, rfl, trivial⟩ rfl (Heap.le_refl _) ?_
  rintro ⟨i, c, u⟩ ⟨h1, h2, h3⟩
  simp only at h1 h2 h3
  have ei : IntKind.i64.wrap ((i : Int) + 1) = ((i + 1 : Nat) : Int) := wrap_i64 (n := i + 1) (by omega)
  have hz := zag_range (vtake_le (b.drop u)).2.2.1
  have hle := (vtake_le (b.drop u)).1
  rw [List.length_drop] at hle
  have eu : IntKind.i64.wrap ((u : Int) + ((vtake (b.drop u)).2.1 : Nat)) = ((u + (vtake (b.drop u)).2.1 : Nat) : Int) := wrap_i64 (n := u + (vtake (b.drop u)).2.1) (by omega)
  rcases (by omega : i = 0 ∨ i = 1 ∨ i = 2 ∨ i = 3) with rfl | rfl | rfl | rfl
  · repeat (first
    | refine AOps.op rfl rfl ?_ | refine AOps.load rfl rfl rfl rfl rfl ?_ | refine AOps.nil ?_ | refine AWP.seq ?_ | refine AWP.region ?_ | refine AWP.block ?_ | refine AWP.skip ?_ | refine AWP.exit ?_ | refine AWP.scope ?_ | refine AWP.label ?_)
    refine AWP.cond rfl (fun h => ?_) (fun h => by simp at h)
    repeat (first
    | refine AOps.op rfl rfl ?_ | refine AOps.load rfl rfl rfl rfl rfl ?_ | refine AOps.nil ?_ | refine AWP.seq ?_ | refine AWP.region ?_ | refine AWP.block ?_ | refine AWP.skip ?_ | refine AWP.exit ?_ | refine AWP.scope ?_ | refine AWP.label ?_)
    refine AOps.step rfl rfl (cutFrom u rfl rfl h3 ?_)
    refine AOps.call rfl rfl rfl ((R1Take_spec (b.drop u) .no H (by rw [List.length_drop]; omega)).mono ?_)
    rintro _ H ⟨rfl, rfl⟩
    repeat (first
    | refine AOps.op rfl rfl ?_ | refine AOps.load rfl rfl rfl rfl rfl ?_ | refine AOps.nil ?_ | refine AWP.seq ?_ | refine AWP.region ?_ | refine AWP.block ?_ | refine AWP.skip ?_ | refine AWP.exit ?_ | refine AWP.scope ?_ | refine AWP.label ?_)
    refine AWP.cond rfl (fun h => ?_) (fun h => ?_)
    · have he : (vtake (b.drop u)).2.2 ≠ 0 := by simp at h; omega
      repeat (first
    | refine AOps.op rfl rfl ?_ | refine AOps.load rfl rfl rfl rfl rfl ?_ | refine AOps.nil ?_ | refine AWP.seq ?_ | refine AWP.region ?_ | refine AWP.block ?_ | refine AWP.skip ?_ | refine AWP.exit ?_ | refine AWP.scope ?_ | refine AWP.label ?_)
      refine AOps.storeL rfl rfl rfl rfl ?_
      repeat (first
    | refine AOps.op rfl rfl ?_ | refine AOps.load rfl rfl rfl rfl rfl ?_ | refine AOps.nil ?_ | refine AWP.seq ?_ | refine AWP.region ?_ | refine AWP.block ?_ | refine AWP.skip ?_ | refine AWP.exit ?_ | refine AWP.scope ?_ | refine AWP.label ?_)
      refine AWP.ret ?_
      refine ⟨_, _, rfl, rfl, Heap.le_refl _, ?_, rfl⟩
      have e3 : ctake1 p.a (b.drop u) = (0, 0, (vtake (b.drop u)).2.2) := by simp only [ctake1]; rw [if_pos he]
      rw [cInv_err hp (by omega) h2 (by show (ctake1 p.a (b.drop u)).2.2 ≠ 0; rw [e3]; exact he)]
      show _ = AV.tuple [ck Clk.zero, .int .i64 ((0 : Nat) : Int), .int .i64 ((ctake1 p.a (b.drop u)).2.2 : Nat)]
      rw [e3]; rfl
    · have he : (vtake (b.drop u)).2.2 = 0 := by simp at h; omega
      have en : IntKind.i64.wrap (0 - p.a) = -p.a := by rw [wrap_i64' (by omega) (by omega)]; omega
      have et : IntKind.i64.wrap (4611686018427387903 - p.a) = 4611686018427387903 - p.a := wrap_i64' (by omega) (by omega)
      repeat (first
    | refine AOps.op rfl rfl ?_ | refine AOps.load rfl rfl rfl rfl rfl ?_ | refine AOps.nil ?_ | refine AWP.seq ?_ | refine AWP.region ?_ | refine AWP.block ?_ | refine AWP.skip ?_ | refine AWP.exit ?_ | refine AWP.scope ?_ | refine AWP.label ?_)
      refine AOps.call rfl rfl rfl ((R1Zag_spec _ (vtake_le (b.drop u)).2.2.1 H).mono ?_)
      rintro _ H ⟨rfl, rfl⟩
      repeat (first
    | refine AOps.op rfl rfl ?_ | refine AOps.load rfl rfl rfl rfl rfl ?_ | refine AOps.nil ?_ | refine AWP.seq ?_ | refine AWP.region ?_ | refine AWP.block ?_ | refine AWP.skip ?_ | refine AWP.exit ?_ | refine AWP.scope ?_ | refine AWP.label ?_)
      refine AOps.or (j := 6) (y := decide (zag (vtake (b.drop u)).1 > IntKind.i64.wrap (4611686018427387903 - p.a))) [_, _, _, _, _, _] rfl rfl rfl rfl rfl rfl rfl (fun hb => ?_) ?_
      · repeat (first | refine AOps.unguard rfl rfl (by assumption) ?_ | refine AOps.op rfl rfl ?_ | refine AOps.load rfl rfl rfl rfl rfl ?_)
        exact AOps.nil (GuardEnd.of 6 rfl rfl rfl rfl rfl)
      repeat (first
    | refine AOps.op rfl rfl ?_ | refine AOps.load rfl rfl rfl rfl rfl ?_ | refine AOps.nil ?_ | refine AWP.seq ?_ | refine AWP.region ?_ | refine AWP.block ?_ | refine AWP.skip ?_ | refine AWP.exit ?_ | refine AWP.scope ?_ | refine AWP.label ?_)
      refine AWP.cond rfl (fun h => ?_) (fun h => ?_)
      · have hg : zag (vtake (b.drop u)).1 < -p.a ∨ zag (vtake (b.drop u)).1 > top - p.a := by
          simp only [en, et] at h; simp at h; unfold top; omega
        repeat (first
    | refine AOps.op rfl rfl ?_ | refine AOps.load rfl rfl rfl rfl rfl ?_ | refine AOps.nil ?_ | refine AWP.seq ?_ | refine AWP.region ?_ | refine AWP.block ?_ | refine AWP.skip ?_ | refine AWP.exit ?_ | refine AWP.scope ?_ | refine AWP.label ?_)
        refine AOps.storeL rfl rfl rfl rfl ?_
        repeat (first
    | refine AOps.op rfl rfl ?_ | refine AOps.load rfl rfl rfl rfl rfl ?_ | refine AOps.nil ?_ | refine AWP.seq ?_ | refine AWP.region ?_ | refine AWP.block ?_ | refine AWP.skip ?_ | refine AWP.exit ?_ | refine AWP.scope ?_ | refine AWP.label ?_)
        refine AWP.ret ?_
        refine ⟨_, _, rfl, rfl, Heap.le_refl _, ?_, rfl⟩
        have e3 : ctake1 p.a (b.drop u) = (0, 0, 3) := by simp only [ctake1]; rw [if_neg (by simp [he]), if_pos hg]
        rw [cInv_err hp (by omega) h2 (by show (ctake1 p.a (b.drop u)).2.2 ≠ 0; rw [e3]; decide)]
        show _ = AV.tuple [ck Clk.zero, .int .i64 ((0 : Nat) : Int), .int .i64 ((ctake1 p.a (b.drop u)).2.2 : Nat)]
        rw [e3]; rfl
      · have hg : ¬ (zag (vtake (b.drop u)).1 < -p.a ∨ zag (vtake (b.drop u)).1 > top - p.a) := by
          simp only [en, et] at h; simp at h; unfold top; omega
        have e3 : ctake1 p.a (b.drop u) = (p.a + zag (vtake (b.drop u)).1, (vtake (b.drop u)).2.1, 0) := by simp only [ctake1]; rw [if_neg (by simp [he]), if_neg hg]
        have es : IntKind.i64.wrap (p.a + zag (vtake (b.drop u)).1) = p.a + zag (vtake (b.drop u)).1 := by unfold top at hg; exact wrap_i64' (by omega) (by omega)
        repeat (first
    | refine AOps.op rfl rfl ?_ | refine AOps.load rfl rfl rfl rfl rfl ?_ | refine AOps.nil ?_ | refine AWP.seq ?_ | refine AWP.region ?_ | refine AWP.block ?_ | refine AWP.skip ?_ | refine AWP.exit ?_ | refine AWP.scope ?_ | refine AWP.label ?_)
        refine AOps.storeL rfl rfl rfl rfl ?_
        repeat (first
    | refine AOps.op rfl rfl ?_ | refine AOps.load rfl rfl rfl rfl rfl ?_ | refine AOps.nil ?_ | refine AWP.seq ?_ | refine AWP.region ?_ | refine AWP.block ?_ | refine AWP.skip ?_ | refine AWP.exit ?_ | refine AWP.scope ?_ | refine AWP.label ?_)
        refine ⟨(_, cset c 0 (p.a + zag (vtake (b.drop u)).1), u + (vtake (b.drop u)).2.1), ?_, ?_, ⟨rfl, rfl, rfl, rfl, congrArg (fun x => some (AV.int .i64 x)) eu, congrArg (fun x => some (AV.int .i64 x)) ei, trivial⟩, ?_, Heap.le_refl _⟩
        · simp
        · have := cInv_step hp (by omega) h2 (by show (ctake1 p.a (b.drop u)).2.2 = 0; rw [e3])
          simp only [cn, e3] at this
          exact ⟨by simp, this, by ((try dsimp only); omega)⟩
        · rw [es]; rfl
  · repeat (first
    | refine AOps.op rfl rfl ?_ | refine AOps.load rfl rfl rfl rfl rfl ?_ | refine AOps.nil ?_ | refine AWP.seq ?_ | refine AWP.region ?_ | refine AWP.block ?_ | refine AWP.skip ?_ | refine AWP.exit ?_ | refine AWP.scope ?_ | refine AWP.label ?_)
    refine AWP.cond rfl (fun h => ?_) (fun h => by simp at h)
    repeat (first
    | refine AOps.op rfl rfl ?_ | refine AOps.load rfl rfl rfl rfl rfl ?_ | refine AOps.nil ?_ | refine AWP.seq ?_ | refine AWP.region ?_ | refine AWP.block ?_ | refine AWP.skip ?_ | refine AWP.exit ?_ | refine AWP.scope ?_ | refine AWP.label ?_)
    refine AOps.step rfl rfl (cutFrom u rfl rfl h3 ?_)
    refine AOps.call rfl rfl rfl ((R1Take_spec (b.drop u) .no H (by rw [List.length_drop]; omega)).mono ?_)
    rintro _ H ⟨rfl, rfl⟩
    repeat (first
    | refine AOps.op rfl rfl ?_ | refine AOps.load rfl rfl rfl rfl rfl ?_ | refine AOps.nil ?_ | refine AWP.seq ?_ | refine AWP.region ?_ | refine AWP.block ?_ | refine AWP.skip ?_ | refine AWP.exit ?_ | refine AWP.scope ?_ | refine AWP.label ?_)
    refine AWP.cond rfl (fun h => ?_) (fun h => ?_)
    · have he : (vtake (b.drop u)).2.2 ≠ 0 := by simp at h; omega
      repeat (first
    | refine AOps.op rfl rfl ?_ | refine AOps.load rfl rfl rfl rfl rfl ?_ | refine AOps.nil ?_ | refine AWP.seq ?_ | refine AWP.region ?_ | refine AWP.block ?_ | refine AWP.skip ?_ | refine AWP.exit ?_ | refine AWP.scope ?_ | refine AWP.label ?_)
      refine AOps.storeL rfl rfl rfl rfl ?_
      repeat (first
    | refine AOps.op rfl rfl ?_ | refine AOps.load rfl rfl rfl rfl rfl ?_ | refine AOps.nil ?_ | refine AWP.seq ?_ | refine AWP.region ?_ | refine AWP.block ?_ | refine AWP.skip ?_ | refine AWP.exit ?_ | refine AWP.scope ?_ | refine AWP.label ?_)
      refine AWP.ret ?_
      refine ⟨_, _, rfl, rfl, Heap.le_refl _, ?_, rfl⟩
      have e3 : ctake1 p.b (b.drop u) = (0, 0, (vtake (b.drop u)).2.2) := by simp only [ctake1]; rw [if_pos he]
      rw [cInv_err hp (by omega) h2 (by show (ctake1 p.b (b.drop u)).2.2 ≠ 0; rw [e3]; exact he)]
      show _ = AV.tuple [ck Clk.zero, .int .i64 ((0 : Nat) : Int), .int .i64 ((ctake1 p.b (b.drop u)).2.2 : Nat)]
      rw [e3]; rfl
    · have he : (vtake (b.drop u)).2.2 = 0 := by simp at h; omega
      have en : IntKind.i64.wrap (0 - p.b) = -p.b := by rw [wrap_i64' (by omega) (by omega)]; omega
      have et : IntKind.i64.wrap (4611686018427387903 - p.b) = 4611686018427387903 - p.b := wrap_i64' (by omega) (by omega)
      repeat (first
    | refine AOps.op rfl rfl ?_ | refine AOps.load rfl rfl rfl rfl rfl ?_ | refine AOps.nil ?_ | refine AWP.seq ?_ | refine AWP.region ?_ | refine AWP.block ?_ | refine AWP.skip ?_ | refine AWP.exit ?_ | refine AWP.scope ?_ | refine AWP.label ?_)
      refine AOps.call rfl rfl rfl ((R1Zag_spec _ (vtake_le (b.drop u)).2.2.1 H).mono ?_)
      rintro _ H ⟨rfl, rfl⟩
      repeat (first
    | refine AOps.op rfl rfl ?_ | refine AOps.load rfl rfl rfl rfl rfl ?_ | refine AOps.nil ?_ | refine AWP.seq ?_ | refine AWP.region ?_ | refine AWP.block ?_ | refine AWP.skip ?_ | refine AWP.exit ?_ | refine AWP.scope ?_ | refine AWP.label ?_)
      refine AOps.or (j := 6) (y := decide (zag (vtake (b.drop u)).1 > IntKind.i64.wrap (4611686018427387903 - p.b))) [_, _, _, _, _, _] rfl rfl rfl rfl rfl rfl rfl (fun hb => ?_) ?_
      · repeat (first | refine AOps.unguard rfl rfl (by assumption) ?_ | refine AOps.op rfl rfl ?_ | refine AOps.load rfl rfl rfl rfl rfl ?_)
        exact AOps.nil (GuardEnd.of 6 rfl rfl rfl rfl rfl)
      repeat (first
    | refine AOps.op rfl rfl ?_ | refine AOps.load rfl rfl rfl rfl rfl ?_ | refine AOps.nil ?_ | refine AWP.seq ?_ | refine AWP.region ?_ | refine AWP.block ?_ | refine AWP.skip ?_ | refine AWP.exit ?_ | refine AWP.scope ?_ | refine AWP.label ?_)
      refine AWP.cond rfl (fun h => ?_) (fun h => ?_)
      · have hg : zag (vtake (b.drop u)).1 < -p.b ∨ zag (vtake (b.drop u)).1 > top - p.b := by
          simp only [en, et] at h; simp at h; unfold top; omega
        repeat (first
    | refine AOps.op rfl rfl ?_ | refine AOps.load rfl rfl rfl rfl rfl ?_ | refine AOps.nil ?_ | refine AWP.seq ?_ | refine AWP.region ?_ | refine AWP.block ?_ | refine AWP.skip ?_ | refine AWP.exit ?_ | refine AWP.scope ?_ | refine AWP.label ?_)
        refine AOps.storeL rfl rfl rfl rfl ?_
        repeat (first
    | refine AOps.op rfl rfl ?_ | refine AOps.load rfl rfl rfl rfl rfl ?_ | refine AOps.nil ?_ | refine AWP.seq ?_ | refine AWP.region ?_ | refine AWP.block ?_ | refine AWP.skip ?_ | refine AWP.exit ?_ | refine AWP.scope ?_ | refine AWP.label ?_)
        refine AWP.ret ?_
        refine ⟨_, _, rfl, rfl, Heap.le_refl _, ?_, rfl⟩
        have e3 : ctake1 p.b (b.drop u) = (0, 0, 3) := by simp only [ctake1]; rw [if_neg (by simp [he]), if_pos hg]
        rw [cInv_err hp (by omega) h2 (by show (ctake1 p.b (b.drop u)).2.2 ≠ 0; rw [e3]; decide)]
        show _ = AV.tuple [ck Clk.zero, .int .i64 ((0 : Nat) : Int), .int .i64 ((ctake1 p.b (b.drop u)).2.2 : Nat)]
        rw [e3]; rfl
      · have hg : ¬ (zag (vtake (b.drop u)).1 < -p.b ∨ zag (vtake (b.drop u)).1 > top - p.b) := by
          simp only [en, et] at h; simp at h; unfold top; omega
        have e3 : ctake1 p.b (b.drop u) = (p.b + zag (vtake (b.drop u)).1, (vtake (b.drop u)).2.1, 0) := by simp only [ctake1]; rw [if_neg (by simp [he]), if_neg hg]
        have es : IntKind.i64.wrap (p.b + zag (vtake (b.drop u)).1) = p.b + zag (vtake (b.drop u)).1 := by unfold top at hg; exact wrap_i64' (by omega) (by omega)
        repeat (first
    | refine AOps.op rfl rfl ?_ | refine AOps.load rfl rfl rfl rfl rfl ?_ | refine AOps.nil ?_ | refine AWP.seq ?_ | refine AWP.region ?_ | refine AWP.block ?_ | refine AWP.skip ?_ | refine AWP.exit ?_ | refine AWP.scope ?_ | refine AWP.label ?_)
        refine AOps.storeL rfl rfl rfl rfl ?_
        repeat (first
    | refine AOps.op rfl rfl ?_ | refine AOps.load rfl rfl rfl rfl rfl ?_ | refine AOps.nil ?_ | refine AWP.seq ?_ | refine AWP.region ?_ | refine AWP.block ?_ | refine AWP.skip ?_ | refine AWP.exit ?_ | refine AWP.scope ?_ | refine AWP.label ?_)
        refine ⟨(_, cset c 1 (p.b + zag (vtake (b.drop u)).1), u + (vtake (b.drop u)).2.1), ?_, ?_, ⟨rfl, rfl, rfl, rfl, congrArg (fun x => some (AV.int .i64 x)) eu, congrArg (fun x => some (AV.int .i64 x)) ei, trivial⟩, ?_, Heap.le_refl _⟩
        · simp
        · have := cInv_step hp (by omega) h2 (by show (ctake1 p.b (b.drop u)).2.2 = 0; rw [e3])
          simp only [cn, e3] at this
          exact ⟨by simp, this, by ((try dsimp only); omega)⟩
        · rw [es]; rfl
  · repeat (first
    | refine AOps.op rfl rfl ?_ | refine AOps.load rfl rfl rfl rfl rfl ?_ | refine AOps.nil ?_ | refine AWP.seq ?_ | refine AWP.region ?_ | refine AWP.block ?_ | refine AWP.skip ?_ | refine AWP.exit ?_ | refine AWP.scope ?_ | refine AWP.label ?_)
    refine AWP.cond rfl (fun h => ?_) (fun h => by simp at h)
    repeat (first
    | refine AOps.op rfl rfl ?_ | refine AOps.load rfl rfl rfl rfl rfl ?_ | refine AOps.nil ?_ | refine AWP.seq ?_ | refine AWP.region ?_ | refine AWP.block ?_ | refine AWP.skip ?_ | refine AWP.exit ?_ | refine AWP.scope ?_ | refine AWP.label ?_)
    refine AOps.step rfl rfl (cutFrom u rfl rfl h3 ?_)
    refine AOps.call rfl rfl rfl ((R1Take_spec (b.drop u) .no H (by rw [List.length_drop]; omega)).mono ?_)
    rintro _ H ⟨rfl, rfl⟩
    repeat (first
    | refine AOps.op rfl rfl ?_ | refine AOps.load rfl rfl rfl rfl rfl ?_ | refine AOps.nil ?_ | refine AWP.seq ?_ | refine AWP.region ?_ | refine AWP.block ?_ | refine AWP.skip ?_ | refine AWP.exit ?_ | refine AWP.scope ?_ | refine AWP.label ?_)
    refine AWP.cond rfl (fun h => ?_) (fun h => ?_)
    · have he : (vtake (b.drop u)).2.2 ≠ 0 := by simp at h; omega
      repeat (first
    | refine AOps.op rfl rfl ?_ | refine AOps.load rfl rfl rfl rfl rfl ?_ | refine AOps.nil ?_ | refine AWP.seq ?_ | refine AWP.region ?_ | refine AWP.block ?_ | refine AWP.skip ?_ | refine AWP.exit ?_ | refine AWP.scope ?_ | refine AWP.label ?_)
      refine AOps.storeL rfl rfl rfl rfl ?_
      repeat (first
    | refine AOps.op rfl rfl ?_ | refine AOps.load rfl rfl rfl rfl rfl ?_ | refine AOps.nil ?_ | refine AWP.seq ?_ | refine AWP.region ?_ | refine AWP.block ?_ | refine AWP.skip ?_ | refine AWP.exit ?_ | refine AWP.scope ?_ | refine AWP.label ?_)
      refine AWP.ret ?_
      refine ⟨_, _, rfl, rfl, Heap.le_refl _, ?_, rfl⟩
      have e3 : ctake1 p.c (b.drop u) = (0, 0, (vtake (b.drop u)).2.2) := by simp only [ctake1]; rw [if_pos he]
      rw [cInv_err hp (by omega) h2 (by show (ctake1 p.c (b.drop u)).2.2 ≠ 0; rw [e3]; exact he)]
      show _ = AV.tuple [ck Clk.zero, .int .i64 ((0 : Nat) : Int), .int .i64 ((ctake1 p.c (b.drop u)).2.2 : Nat)]
      rw [e3]; rfl
    · have he : (vtake (b.drop u)).2.2 = 0 := by simp at h; omega
      have en : IntKind.i64.wrap (0 - p.c) = -p.c := by rw [wrap_i64' (by omega) (by omega)]; omega
      have et : IntKind.i64.wrap (4611686018427387903 - p.c) = 4611686018427387903 - p.c := wrap_i64' (by omega) (by omega)
      repeat (first
    | refine AOps.op rfl rfl ?_ | refine AOps.load rfl rfl rfl rfl rfl ?_ | refine AOps.nil ?_ | refine AWP.seq ?_ | refine AWP.region ?_ | refine AWP.block ?_ | refine AWP.skip ?_ | refine AWP.exit ?_ | refine AWP.scope ?_ | refine AWP.label ?_)
      refine AOps.call rfl rfl rfl ((R1Zag_spec _ (vtake_le (b.drop u)).2.2.1 H).mono ?_)
      rintro _ H ⟨rfl, rfl⟩
      repeat (first
    | refine AOps.op rfl rfl ?_ | refine AOps.load rfl rfl rfl rfl rfl ?_ | refine AOps.nil ?_ | refine AWP.seq ?_ | refine AWP.region ?_ | refine AWP.block ?_ | refine AWP.skip ?_ | refine AWP.exit ?_ | refine AWP.scope ?_ | refine AWP.label ?_)
      refine AOps.or (j := 6) (y := decide (zag (vtake (b.drop u)).1 > IntKind.i64.wrap (4611686018427387903 - p.c))) [_, _, _, _, _, _] rfl rfl rfl rfl rfl rfl rfl (fun hb => ?_) ?_
      · repeat (first | refine AOps.unguard rfl rfl (by assumption) ?_ | refine AOps.op rfl rfl ?_ | refine AOps.load rfl rfl rfl rfl rfl ?_)
        exact AOps.nil (GuardEnd.of 6 rfl rfl rfl rfl rfl)
      repeat (first
    | refine AOps.op rfl rfl ?_ | refine AOps.load rfl rfl rfl rfl rfl ?_ | refine AOps.nil ?_ | refine AWP.seq ?_ | refine AWP.region ?_ | refine AWP.block ?_ | refine AWP.skip ?_ | refine AWP.exit ?_ | refine AWP.scope ?_ | refine AWP.label ?_)
      refine AWP.cond rfl (fun h => ?_) (fun h => ?_)
      · have hg : zag (vtake (b.drop u)).1 < -p.c ∨ zag (vtake (b.drop u)).1 > top - p.c := by
          simp only [en, et] at h; simp at h; unfold top; omega
        repeat (first
    | refine AOps.op rfl rfl ?_ | refine AOps.load rfl rfl rfl rfl rfl ?_ | refine AOps.nil ?_ | refine AWP.seq ?_ | refine AWP.region ?_ | refine AWP.block ?_ | refine AWP.skip ?_ | refine AWP.exit ?_ | refine AWP.scope ?_ | refine AWP.label ?_)
        refine AOps.storeL rfl rfl rfl rfl ?_
        repeat (first
    | refine AOps.op rfl rfl ?_ | refine AOps.load rfl rfl rfl rfl rfl ?_ | refine AOps.nil ?_ | refine AWP.seq ?_ | refine AWP.region ?_ | refine AWP.block ?_ | refine AWP.skip ?_ | refine AWP.exit ?_ | refine AWP.scope ?_ | refine AWP.label ?_)
        refine AWP.ret ?_
        refine ⟨_, _, rfl, rfl, Heap.le_refl _, ?_, rfl⟩
        have e3 : ctake1 p.c (b.drop u) = (0, 0, 3) := by simp only [ctake1]; rw [if_neg (by simp [he]), if_pos hg]
        rw [cInv_err hp (by omega) h2 (by show (ctake1 p.c (b.drop u)).2.2 ≠ 0; rw [e3]; decide)]
        show _ = AV.tuple [ck Clk.zero, .int .i64 ((0 : Nat) : Int), .int .i64 ((ctake1 p.c (b.drop u)).2.2 : Nat)]
        rw [e3]; rfl
      · have hg : ¬ (zag (vtake (b.drop u)).1 < -p.c ∨ zag (vtake (b.drop u)).1 > top - p.c) := by
          simp only [en, et] at h; simp at h; unfold top; omega
        have e3 : ctake1 p.c (b.drop u) = (p.c + zag (vtake (b.drop u)).1, (vtake (b.drop u)).2.1, 0) := by simp only [ctake1]; rw [if_neg (by simp [he]), if_neg hg]
        have es : IntKind.i64.wrap (p.c + zag (vtake (b.drop u)).1) = p.c + zag (vtake (b.drop u)).1 := by unfold top at hg; exact wrap_i64' (by omega) (by omega)
        repeat (first
    | refine AOps.op rfl rfl ?_ | refine AOps.load rfl rfl rfl rfl rfl ?_ | refine AOps.nil ?_ | refine AWP.seq ?_ | refine AWP.region ?_ | refine AWP.block ?_ | refine AWP.skip ?_ | refine AWP.exit ?_ | refine AWP.scope ?_ | refine AWP.label ?_)
        refine AOps.storeL rfl rfl rfl rfl ?_
        repeat (first
    | refine AOps.op rfl rfl ?_ | refine AOps.load rfl rfl rfl rfl rfl ?_ | refine AOps.nil ?_ | refine AWP.seq ?_ | refine AWP.region ?_ | refine AWP.block ?_ | refine AWP.skip ?_ | refine AWP.exit ?_ | refine AWP.scope ?_ | refine AWP.label ?_)
        refine ⟨(_, cset c 2 (p.c + zag (vtake (b.drop u)).1), u + (vtake (b.drop u)).2.1), ?_, ?_, ⟨rfl, rfl, rfl, rfl, congrArg (fun x => some (AV.int .i64 x)) eu, congrArg (fun x => some (AV.int .i64 x)) ei, trivial⟩, ?_, Heap.le_refl _⟩
        · simp
        · have := cInv_step hp (by omega) h2 (by show (ctake1 p.c (b.drop u)).2.2 = 0; rw [e3])
          simp only [cn, e3] at this
          exact ⟨by simp, this, by ((try dsimp only); omega)⟩
        · rw [es]; rfl
  · repeat (first
    | refine AOps.op rfl rfl ?_ | refine AOps.load rfl rfl rfl rfl rfl ?_ | refine AOps.nil ?_ | refine AWP.seq ?_ | refine AWP.region ?_ | refine AWP.block ?_ | refine AWP.skip ?_ | refine AWP.exit ?_ | refine AWP.scope ?_ | refine AWP.label ?_)
    refine AWP.cond rfl (fun h => by simp at h) (fun h => ?_)
    repeat (first
    | refine AOps.op rfl rfl ?_ | refine AOps.load rfl rfl rfl rfl rfl ?_ | refine AOps.nil ?_ | refine AWP.seq ?_ | refine AWP.region ?_ | refine AWP.block ?_ | refine AWP.skip ?_ | refine AWP.exit ?_ | refine AWP.scope ?_ | refine AWP.label ?_)
    refine AOps.storeL rfl rfl rfl rfl ?_
    repeat (first
    | refine AOps.op rfl rfl ?_ | refine AOps.load rfl rfl rfl rfl rfl ?_ | refine AOps.nil ?_ | refine AWP.seq ?_ | refine AWP.region ?_ | refine AWP.block ?_ | refine AWP.skip ?_ | refine AWP.exit ?_ | refine AWP.scope ?_ | refine AWP.label ?_)
    refine AWP.ret ?_
    refine ⟨_, _, rfl, rfl, Heap.le_refl _, ?_, rfl⟩
    have : ctake p b = (c, u, 0) := h2
    rw [this]; rfl
end Go.Proofs.Ytlbnhokhhangdaa

/- The document's dictionaries in memory: lists that are written; a key's place. -/
namespace Go.Proofs.Ytlbnhokhhangdaa
open Go Go.Am Go.Pk Go.Lib
set_option linter.unusedVariables false
set_option maxRecDepth 10000
attribute [local irreducible] AOps AWP DRun ACalls

/-- A list in memory that may be written. -/
def XS {α : Type} (f : α → AV) (H : Heap) (l : List α) (v : AV) : Prop := (l = [] ∧ v = .sl [] .full) ∨ ∃ g, v = .msl g l.length 1 ∧ H g = some (.box (l.map f))

abbrev iv (n : Nat) : AV := .int .i64 (n : Int)
abbrev WS := XS iv

theorem KS_iff {H ks v} : KS H ks v ↔ XS AV.str H ks v := Iff.rfl

section
variable {α : Type} {f : α → AV}
theorem XS.mono {H H' : Heap} {l : List α} {v : AV} (h : XS f H l v) (hl : H.le H') : XS f H' l v := by
  rcases h with h | ⟨g, h1, h2⟩
  · exact .inl h
  · exact .inr ⟨g, h1, hl _ _ h2⟩

theorem XS.free {H : Heap} {l : List α} {v : AV} (h : XS f H l v) : v.free = true ∧ v.known = true ∧ v.one = true := by
  rcases h with ⟨-, rfl⟩ | ⟨g, rfl, -⟩ <;> exact ⟨rfl, rfl, rfl⟩

theorem XS.len {H : Heap} {l : List α} {v : AV} (h : XS f H l v) {T e : Nat} {i : TI} (hi : Q.ty T = some i) (hk : i.kind = .sl e) : alen Q (evo [(0, v)]) [.tmp 0] [T] = some (.int .i64 l.length) := by
  have hv : evo [(0, v)] (.tmp 0) = some v := rfl
  rcases h with ⟨rfl, rfl⟩ | ⟨g, rfl, -⟩
  · simp only [alen, hi, hv, hk]; rfl
  · simp only [alen, hi, hv, hk]

/-- Where a list lies that is not empty. -/
theorem XS.at {H : Heap} {l : List α} {v : AV} (h : XS f H l v) (hl : l ≠ []) : ∃ g, v = .msl g l.length 1 ∧ H g = some (.box (l.map f)) := by
  rcases h with ⟨rfl, -⟩ | h
  · exact absurd rfl hl
  · exact h

theorem flat_one (hf : ∀ a, (f a).cells = [f a]) (l : List α) : (l.map f).flatMap AV.cells = l.map f := by
  induction l with
  | nil => rfl
  | cons a s ih => simp only [List.map_cons, List.flatMap_cons, hf, ih]; rfl

theorem els_one (hf : ∀ a, (f a).cells = [f a]) (h1 : ∀ a, (f a).one = true) (l : List α) : Els 1 (l.map f) := Els.map (f := f) (fun a => ⟨by rw [hf]; rfl, by rw [hf]; simp [AV.ones, h1]⟩) l

theorem XS.src {H : Heap} {loc : Go.Am.Loc} {l : List α} {v : AV} (h : XS f H l v) (hf : ∀ a, (f a).cells = [f a]) (h1 : ∀ a, (f a).one = true) : SrcOk Q loc H v (l.map f) 1 := by
  rcases h with ⟨rfl, rfl⟩ | ⟨g, rfl, hg⟩
  · exact SrcOk.of rfl (els_one hf h1 _)
  · exact SrcOk.msl hg (by simp) (by rw [flat_one hf, List.take_of_length_le (by simp)]) (els_one hf h1 _) (by simp)

variable {σ : Go.Am.Frame} {loc : Go.Am.Loc} {H : Heap} {ty : TypeId} {pos : String} {after : Array Edge} {g : Option (Nat × Bool)} {dst : Option Tmp} {R : AV → Go.Am.Loc → Heap → Prop} {s x : Operand} {T E u : TypeId} {ti ei ui : TI}

/-- A copy of a list: 'append([]T{}, l...)'. -/
theorem xClone {l : List α} {v : AV} (h : XS f H l v) (hf : ∀ a, (f a).cells = [f a]) (h1 : ∀ a, (f a).one = true) (hl : l.length ≤ 2 ^ 20) (hs : evo σ s = some (.sl [] .full)) (hx : evo σ x = some v)
    (ht : Q.ty T = some ti) (hk : ti.kind = .sl E) (he : Q.ty E = some ei) (hu : Q.ty u = some ui) (huk : isSrc ui.kind = true) (hzs : Nat.beq ei.zero.length ei.size = true) (hsz : ei.size = 1) (hby : ei.bytes ≤ 100)
    (hq : ∀ v' H', XS f H' l v' → H.le H' → (∀ b, v' = .msl b l.length 1 → H b = none) → R v' loc H') :
    OpT Q.prog ⟨dst, .call { callee := .builtin .append, args := #[s, x], argTypes := #[T, u] }, ty, pos, after, g⟩ (ev σ) loc H R := by
  refine OpT.appendM (sv := .sl [] .full) (old := []) (new := l.map f) (H0 := H) hs hx ht hk he hu huk hzs (.inl ⟨rfl, rfl, rfl⟩) (Els.nil _) (by rw [hsz]; exact els_one hf h1 l) (by rw [hsz]; exact h.src hf h1) ?_ ?_ ?_ ?_
  · simp [maxLen]; omega
  · simp only [List.length_nil, Nat.zero_add, List.length_map]
    have : l.length * ei.bytes ≤ 2 ^ 20 * 100 := Nat.mul_le_mul hl hby
    omega
  · intro e _
    have e : l = [] := by simpa using e
    subst e
    exact hq _ _ (.inl ⟨rfl, rfl⟩) (Heap.le_refl _) (fun b hb => by cases hb)
  · intro b hb
    rw [List.nil_append, flat_one hf, hsz, List.length_nil, Nat.zero_add, List.length_map]
    exact hq _ _ (.inr ⟨b, rfl, Heap.set_same _ _ _⟩) (Heap.le_set hb) (fun b' e => by cases e; exact hb)

/-- One more behind a list of one's own. -/
theorem xPush {l : List α} {v : AV} {a : α} {H0 : Heap} (h : XS f H l v) (hf : ∀ a, (f a).cells = [f a]) (h1 : ∀ a, (f a).one = true) (hl : l.length ≤ 2 ^ 20) (hs : evo σ s = some v) (hx : evo σ x = some (.sl [f a] .full))
    (ht : Q.ty T = some ti) (hk : ti.kind = .sl E) (he : Q.ty E = some ei) (hu : Q.ty u = some ui) (huk : isSrc ui.kind = true) (hzs : Nat.beq ei.zero.length ei.size = true) (hsz : ei.size = 1) (hby : ei.bytes ≤ 100)
    (h0 : H0.le H) (hfr : ∀ b, v = .msl b l.length 1 → H0 b = none)
    (hq : ∀ v' H', XS f H' (l ++ [a]) v' → H0.le H' → (∀ b, v' = .msl b (l ++ [a]).length 1 → H0 b = none) → R v' loc H') :
    OpT Q.prog ⟨dst, .call { callee := .builtin .append, args := #[s, x], argTypes := #[T, u] }, ty, pos, after, g⟩ (ev σ) loc H R := by
  have hcase : ∃ H1 : Heap, ((v = .sl [] .full ∧ l.map f = [] ∧ H1 = H) ∨ ∃ b, v = .msl b (l.map f).length ei.size ∧ H b = some (.box ((l.map f).flatMap AV.cells)) ∧ H1 = H.del b) ∧ H0.le H1 := by
    rcases h with ⟨q1, q2⟩ | ⟨g, q1, q2⟩
    · exact ⟨H, .inl ⟨q2, by rw [q1]; rfl, rfl⟩, h0⟩
    · exact ⟨H.del g, .inr ⟨g, by rw [hsz, List.length_map]; exact q1, by rw [flat_one hf]; exact q2, rfl⟩, Heap.le_del h0 (hfr g q1)⟩
  obtain ⟨H1, hold, hle⟩ := hcase
  refine OpT.appendM (old := l.map f) (new := [f a]) (H0 := H1) hs hx ht hk he hu huk hzs hold (by rw [hsz]; exact els_one hf h1 l) (by rw [hsz]; exact els_one hf h1 [a]) (by rw [hsz]; exact SrcOk.of rfl (els_one hf h1 [a])) ?_ ?_ ?_ ?_
  · simp [maxLen]; omega
  · simp only [List.length_map, List.length_cons, List.length_nil]
    have : (l.length + (0 + 1)) * ei.bytes ≤ (2 ^ 20 + 1) * 100 := Nat.mul_le_mul (by omega) hby
    omega
  · intro e; cases e
  · intro b hb
    have e : l.map f ++ [f a] = (l ++ [a]).map f := by simp
    rw [e, flat_one hf, hsz]
    have e2 : (l.map f).length + [f a].length = (l ++ [a]).length := by simp
    rw [e2]
    refine hq _ _ (.inr ⟨b, rfl, Heap.set_same _ _ _⟩) (hle.trans (Heap.le_set hb)) (fun b' e => ?_)
    cases e
    cases c : H0 b with
    | none => rfl
    | some y => rw [hle _ _ c] at hb; cases hb
end

theorem str_cells (a : Str) : (AV.str a).cells = [AV.str a] := rfl
theorem str_one (a : Str) : (AV.str a).one = true := rfl
theorem iv_cells (a : Nat) : (iv a).cells = [iv a] := rfl
theorem iv_one (a : Nat) : (iv a).one = true := rfl

def rcbox (c : Clk) (ks ws : AV) (n : Nat) : AObj := .box [.int .i64 c.a, .int .i64 c.b, .int .i64 c.c, ks, ws, .int .i64 n]

/-- The document's coder. -/
def RCodAt (H : Heap) (r : Nat) (S : Cod) : Prop := S.d.ok ∧ S.c.ok = true ∧ ∃ ks ws, H r = some (rcbox S.c ks ws S.d.now) ∧ XS AV.str H S.d.keys ks ∧ XS iv H S.d.when ws

theorem RCodAt.mono {H H' : Heap} {r : Nat} {S : Cod} (h : RCodAt H r S) (hl : H.le H') : RCodAt H' r S := by
  obtain ⟨h1, h2, ks, ws, h3, h4, h5⟩ := h
  exact ⟨h1, h2, ks, ws, hl _ _ h3, h4.mono hl, h5.mono hl⟩

theorem str_cell {ks : List Str} {i : Nat} {k : Str} (h : ks[i]? = some k) : ofCells ⟨.str, 1, 16, [.str []]⟩ ((ks.map AV.str).drop i) = some (.str k) := by simp [ofCells, TK.isAgg, List.head?_drop, h]

theorem R5At_spec (r : Nat) (S : Cod) (k : Str) (H : Heap) (h : RCodAt H r S) : ACalls Q.prog 74 [.ptr r 3, .str k] H fun x H' => x = .int .i64 (atN S.d k) ∧ H' = H := by
  obtain ⟨hok, -, ks, ws, h1, h2, -⟩ := h
  have hl8 : S.d.keys.length ≤ 8 := by have := hok.1; omega
  refine ACalls.body (N := 25) Try.func74 rfl rfl rfl rfl ?_
  repeat (first
    | refine AOps.op rfl rfl ?_ | refine AOps.load rfl rfl rfl rfl rfl ?_ | refine AOps.nil ?_ | refine AWP.seq ?_ | refine AWP.region ?_ | refine AWP.skip ?_ | refine AWP.exit ?_ | refine AWP.scope ?_ | refine AWP.label ?_)
  refine AWP.block ?_
  refine AWP.loopA (α := Nat) (fun i => i ≤ S.d.keys.length ∧ ∀ j, j < i → S.d.keys[j]? ≠ some k) (fun i => S.d.keys.length - i)
    (fun i => [(0, .ptr r 3), (1, .str k), (5, .int .i64 i)]) (fun _ => []) (fun _ => H) 0 ⟨by simp, by simp⟩ ⟨rfl, rfl, rfl, trivial⟩ rfl (Heap.le_refl _) ?_
  rintro i ⟨i1, i2⟩
  repeat (first
    | refine AOps.op rfl rfl ?_ | refine AOps.load rfl rfl rfl rfl rfl ?_ | refine AOps.nil ?_ | refine AWP.seq ?_ | refine AWP.region ?_ | refine AWP.block ?_ | refine AWP.skip ?_ | refine AWP.exit ?_ | refine AWP.scope ?_ | refine AWP.label ?_)
  refine AOps.load rfl (cellsAt_ptr h1) rfl rfl rfl ?_
  refine AOps.op (r := .int .i64 S.d.keys.length) (h2.len (T := 46) rfl rfl) rfl ?_
  repeat (first
    | refine AOps.op rfl rfl ?_ | refine AOps.load rfl rfl rfl rfl rfl ?_ | refine AOps.nil ?_ | refine AWP.seq ?_ | refine AWP.region ?_ | refine AWP.block ?_ | refine AWP.skip ?_ | refine AWP.exit ?_ | refine AWP.scope ?_ | refine AWP.label ?_)
  refine AWP.cond rfl (fun h => ?_) (fun h => ?_)
  · have h : i < S.d.keys.length := by simp at h; omega
    have ei : IntKind.i64.wrap ((i : Int) + 1) = ((i + 1 : Nat) : Int) := wrap_i64 (n := i + 1) (by omega)
    obtain ⟨ke, hke⟩ : ∃ ke, S.d.keys[i]? = some ke := ⟨S.d.keys[i], List.getElem?_eq_getElem h⟩
    obtain ⟨g, rfl, hg⟩ := h2.at (by rintro e; rw [e] at h; simp at h)
    repeat (first
    | refine AOps.op rfl rfl ?_ | refine AOps.load rfl rfl rfl rfl rfl ?_ | refine AOps.nil ?_ | refine AWP.seq ?_ | refine AWP.region ?_ | refine AWP.block ?_ | refine AWP.skip ?_ | refine AWP.exit ?_ | refine AWP.scope ?_ | refine AWP.label ?_)
    refine AOps.load rfl (cellsAt_ptr h1) rfl rfl rfl ?_
    repeat (first
    | refine AOps.op rfl rfl ?_ | refine AOps.load rfl rfl rfl rfl rfl ?_ | refine AOps.nil ?_ | refine AWP.seq ?_ | refine AWP.region ?_ | refine AWP.block ?_ | refine AWP.skip ?_ | refine AWP.exit ?_ | refine AWP.scope ?_ | refine AWP.label ?_)
    refine AOps.step rfl rfl (OpT.indexM (i := (i : Int)) rfl rfl rfl rfl rfl (by omega) (by omega) (o := i) (by simp) ?_)
    refine AOps.load rfl (cellsAt_ptr hg) rfl (str_cell hke) rfl ?_
    repeat (first
    | refine AOps.op rfl rfl ?_ | refine AOps.load rfl rfl rfl rfl rfl ?_ | refine AOps.nil ?_ | refine AWP.seq ?_ | refine AWP.region ?_ | refine AWP.block ?_ | refine AWP.skip ?_ | refine AWP.exit ?_ | refine AWP.scope ?_ | refine AWP.label ?_)
    refine AWP.cond rfl (fun h => ?_) (fun h => ?_)
    · have h : ke = k := by simpa using h
      subst h
      repeat (first
    | refine AOps.op rfl rfl ?_ | refine AOps.load rfl rfl rfl rfl rfl ?_ | refine AOps.nil ?_ | refine AWP.seq ?_ | refine AWP.region ?_ | refine AWP.block ?_ | refine AWP.skip ?_ | refine AWP.exit ?_ | refine AWP.scope ?_ | refine AWP.label ?_)
      refine AWP.ret ?_
      refine ⟨_, _, rfl, rfl, Heap.le_refl _, ?_, rfl⟩
      have : S.d.at ke = some i := Dic.at_of hok hke
      simp only [atN, this]
    · have hne : ke ≠ k := by simpa using h
      repeat (first
    | refine AOps.op rfl rfl ?_ | refine AOps.load rfl rfl rfl rfl rfl ?_ | refine AOps.nil ?_ | refine AWP.seq ?_ | refine AWP.region ?_ | refine AWP.block ?_ | refine AWP.skip ?_ | refine AWP.exit ?_ | refine AWP.scope ?_ | refine AWP.label ?_)
      refine ⟨i + 1, by omega, ⟨by omega, fun j hj => ?_⟩, ⟨rfl, rfl, congrArg (fun x => some (AV.int .i64 x)) ei, trivial⟩, rfl, Heap.le_refl _⟩
      by_cases c : j = i
      · rw [c, hke]; simpa using hne
      · exact i2 j (by omega)
  · have h : S.d.keys.length ≤ i := by simp at h; omega
    repeat (first
    | refine AOps.op rfl rfl ?_ | refine AOps.load rfl rfl rfl rfl rfl ?_ | refine AOps.nil ?_ | refine AWP.seq ?_ | refine AWP.region ?_ | refine AWP.block ?_ | refine AWP.skip ?_ | refine AWP.exit ?_ | refine AWP.scope ?_ | refine AWP.label ?_)
    refine AWP.ret ?_
    refine ⟨_, _, rfl, rfl, Heap.le_refl _, ?_, rfl⟩
    have : S.d.at k = none := by
      cases e : S.d.at k with
      | none => rfl
      | some j =>
        have := Dic.at_some e
        exact absurd this (i2 j (by have := (List.getElem?_eq_some_iff.1 this).1; omega))
    simp only [atN, this]; rfl
end Go.Proofs.Ytlbnhokhhangdaa

/- The document's dictionaries: a key comes. -/
namespace Go.Proofs.Ytlbnhokhhangdaa
open Go Go.Am Go.Pk Go.Lib
set_option linter.unusedVariables false
set_option maxRecDepth 10000
attribute [local irreducible] AOps AWP DRun ACalls

theorem XS.off {α : Type} {f : α → AV} {H : Heap} {l : List α} {v : AV} (h : XS f H l v) {r : Nat} {x : AObj} (hr : H r = some x) (hne : x ≠ .box (l.map f)) (y : AObj) : XS f (H.set r y) l v := by
  rcases h with h | ⟨g, h1, h2⟩
  · exact .inl h
  · refine .inr ⟨g, h1, ?_⟩
    rw [Heap.set_ne]
    · exact h2
    · rintro rfl; rw [hr] at h2; exact hne (Option.some.inj h2)

theorem XS.new {α : Type} {f : α → AV} {H H0 : Heap} {l : List α} {v : AV} (h : XS f H l v) {r : Nat} {x : AObj} (hr : H0 r = some x) (hf : ∀ b, v = .msl b l.length 1 → H0 b = none) (y : AObj) : XS f (H.set r y) l v := by
  rcases h with h | ⟨g, h1, h2⟩
  · exact .inl h
  · refine .inr ⟨g, h1, ?_⟩
    rw [Heap.set_ne]
    · exact h2
    · rintro rfl; rw [hf _ h1] at hr; cases hr

theorem rcbox_str (c : Clk) (ks ws : AV) (n : Nat) (l : List Str) : rcbox c ks ws n ≠ .box (l.map AV.str) := by
  intro e
  unfold rcbox at e
  injection e with e
  cases l with
  | nil => simp at e
  | cons a r => simp at e

theorem rcbox_iv {α : Type} {f : α → AV} {H : Heap} {ks : List α} {kv : AV} (h : XS f H ks kv) (c : Clk) (ws : AV) (n : Nat) (l : List Nat) : rcbox c kv ws n ≠ .box (l.map iv) := by
  intro e
  unfold rcbox at e
  injection e with e
  match l, e with
  | [], e => simp at e
  | [_], e => simp at e
  | [_, _], e => simp at e
  | [_, _, _], e => simp at e
  | _ :: _ :: _ :: d :: _, e =>
    simp at e
    rcases h with ⟨-, rfl⟩ | ⟨g, rfl, -⟩
    · exact absurd e.2.2.2.1 (by simp)
    · exact absurd e.2.2.2.1 (by simp)

theorem iv_cell {ws : List Nat} {i n : Nat} (h : ws[i]? = some n) : ofCells ⟨.int .i64, 1, 8, [.int .i64 0]⟩ ((ws.map iv).drop i) = some (iv n) := by simp [ofCells, TK.isAgg, List.head?_drop, h]

theorem splice_iv (ks : List Nat) (e : Nat) (k : Nat) (h : e < ks.length) : splice (ks.map iv) e [iv k] = (ks.set e k).map iv := by
  simp only [splice, List.length_cons, List.length_nil]
  rw [List.set_eq_take_append_cons_drop, if_pos h]
  simp

theorem store_iv (ks : List Nat) (e : Nat) (k : Nat) (h : e < ks.length) : Am.stored ⟨.int .i64, 1, 8, [.int .i64 0]⟩ e (iv k) (ks.map iv) = some ((ks.set e k).map iv) := by
  have : Nat.ble (e + 1) (ks.map iv).length = true := by rw [List.length_map]; exact Nat.ble_eq_true_of_le h
  simp only [Am.stored, AV.known, AV.cells, AV.ones, AV.one, List.length_cons, List.length_nil, this, forceL_eq, splice_iv ks e k h]
  rfl

set_option maxHeartbeats 1000000 in
theorem R5comes_spec (r : Nat) (S : Cod) (k : Str) (H : Heap) (h : RCodAt H r S) (hk : S.d.at k = none) (hnow : S.d.now < 2 ^ 60) :
    ACalls Q.prog 75 [.ptr r 3, .str k] H fun x H' => RCodAt H' r ⟨S.d.comes k, S.c⟩ ∧ (H.del r).le H' := by
  obtain ⟨hok, hc, ks, ws, h1, h2, h3⟩ := h
  have hl8 : S.d.keys.length ≤ 8 := by have := hok.1; omega
  have hw8 := S.d.when_length
  have en : IntKind.i64.wrap ((S.d.now : Int) + 1) = ((S.d.now + 1 : Nat) : Int) := wrap_i64 (n := S.d.now + 1) (by omega)
  have hok' := Dic.comes_ok hok hk
  have hn' := Dic.comes_now S.d k
  refine ACalls.body (N := 101) Try.func75 rfl rfl rfl rfl ?_
  repeat (first
    | refine AOps.op rfl rfl ?_ | refine AOps.load rfl rfl rfl rfl rfl ?_ | refine AOps.nil ?_ | refine AWP.seq ?_ | refine AWP.region ?_ | refine AWP.block ?_ | refine AWP.skip ?_ | refine AWP.exit ?_ | refine AWP.scope ?_ | refine AWP.label ?_)
  refine AOps.load rfl (cellsAt_ptr h1) rfl rfl rfl ?_
  repeat (first
    | refine AOps.op rfl rfl ?_ | refine AOps.load rfl rfl rfl rfl rfl ?_ | refine AOps.nil ?_ | refine AWP.seq ?_ | refine AWP.region ?_ | refine AWP.block ?_ | refine AWP.skip ?_ | refine AWP.exit ?_ | refine AWP.scope ?_ | refine AWP.label ?_)
  refine AOps.storeH rfl rfl rfl h1 rfl rfl ?_
  rw [en]
  have r1 : (H.set r (rcbox S.c ks ws (S.d.now + 1))) r = some (rcbox S.c ks ws (S.d.now + 1)) := Heap.set_same _ _ _
  have k1 := XS.off h2 h1 (rcbox_str _ _ _ _ _) (rcbox S.c ks ws (S.d.now + 1))
  have w1 := XS.off h3 h1 (rcbox_iv h2 _ _ _ _) (rcbox S.c ks ws (S.d.now + 1))
  have o1 : (H.del r).le ((H.set r (rcbox S.c ks ws (S.d.now + 1))).del r) := by rw [Heap.del_set]; exact Heap.le_refl _
  obtain ⟨H1, hH1⟩ : ∃ H1, H.set r (.box [.int .i64 S.c.a, .int .i64 S.c.b, .int .i64 S.c.c, ks, ws, .int .i64 (S.d.now + 1 : Nat)]) = H1 := ⟨_, rfl⟩
  rw [show H.set r (rcbox S.c ks ws (S.d.now + 1)) = H1 from hH1] at r1 k1 w1 o1
  rw [hH1]
  clear hH1
  repeat (first
    | refine AOps.op rfl rfl ?_ | refine AOps.load rfl rfl rfl rfl rfl ?_ | refine AOps.nil ?_ | refine AWP.seq ?_ | refine AWP.region ?_ | refine AWP.block ?_ | refine AWP.skip ?_ | refine AWP.exit ?_ | refine AWP.scope ?_ | refine AWP.label ?_)
  refine AOps.load rfl (cellsAt_ptr r1) rfl rfl rfl ?_
  refine AOps.op (r := .int .i64 S.d.keys.length) (k1.len (T := 46) rfl rfl) rfl ?_
  repeat (first
    | refine AOps.op rfl rfl ?_ | refine AOps.load rfl rfl rfl rfl rfl ?_ | refine AOps.nil ?_ | refine AWP.seq ?_ | refine AWP.region ?_ | refine AWP.block ?_ | refine AWP.skip ?_ | refine AWP.exit ?_ | refine AWP.scope ?_ | refine AWP.label ?_)
  refine AWP.cond rfl (fun h => ?_) (fun h => ?_)
  · have h : S.d.keys.length < 8 := by simp at h; omega
    repeat (first
    | refine AOps.op rfl rfl ?_ | refine AOps.load rfl rfl rfl rfl rfl ?_ | refine AOps.nil ?_ | refine AWP.seq ?_ | refine AWP.region ?_ | refine AWP.block ?_ | refine AWP.skip ?_ | refine AWP.exit ?_ | refine AWP.scope ?_ | refine AWP.label ?_)
    refine AOps.buildSlice (els := []) rfl rfl rfl ?_
    repeat (first
    | refine AOps.op rfl rfl ?_ | refine AOps.load rfl rfl rfl rfl rfl ?_ | refine AOps.nil ?_ | refine AWP.seq ?_ | refine AWP.region ?_ | refine AWP.block ?_ | refine AWP.skip ?_ | refine AWP.exit ?_ | refine AWP.scope ?_ | refine AWP.label ?_)
    refine AOps.load rfl (cellsAt_ptr r1) rfl rfl rfl ?_
    refine AOps.step rfl rfl (xClone k1 str_cells str_one (by omega) rfl rfl rfl rfl rfl rfl rfl rfl rfl (by decide) fun v2 H2 a2 b2 c2 => ?_)
    repeat (first
    | refine AOps.op rfl rfl ?_ | refine AOps.load rfl rfl rfl rfl rfl ?_ | refine AOps.nil ?_ | refine AWP.seq ?_ | refine AWP.region ?_ | refine AWP.block ?_ | refine AWP.skip ?_ | refine AWP.exit ?_ | refine AWP.scope ?_ | refine AWP.label ?_)
    refine AOps.buildSlice (els := [.str k]) rfl rfl rfl ?_
    refine AOps.step rfl rfl (xPush (a := k) a2 str_cells str_one (by omega) rfl rfl rfl rfl rfl rfl rfl rfl rfl (by decide) b2 c2 fun v3 H3 a3 b3 c3 => ?_)
    obtain ⟨g3, rfl, hg3⟩ := a3.at (by simp)
    have r3 := b3 _ _ r1
    have hg3r : g3 ≠ r := by rintro rfl; rw [c3 _ rfl] at r1; cases r1
    repeat (first
    | refine AOps.op rfl rfl ?_ | refine AOps.load rfl rfl rfl rfl rfl ?_ | refine AOps.nil ?_ | refine AWP.seq ?_ | refine AWP.region ?_ | refine AWP.block ?_ | refine AWP.skip ?_ | refine AWP.exit ?_ | refine AWP.scope ?_ | refine AWP.label ?_)
    refine AOps.storeH rfl rfl rfl r3 rfl rfl ?_
    have r4 : (H3.set r (rcbox S.c (.msl g3 (S.d.keys ++ [k]).length 1) ws (S.d.now + 1))) r = some (rcbox S.c (.msl g3 (S.d.keys ++ [k]).length 1) ws (S.d.now + 1)) := Heap.set_same _ _ _
    have k4 := XS.off a3 r3 (rcbox_str _ _ _ _ _) (rcbox S.c (.msl g3 (S.d.keys ++ [k]).length 1) ws (S.d.now + 1))
    have w4 := XS.off (w1.mono b3) r3 (rcbox_iv k1 _ _ _ _) (rcbox S.c (.msl g3 (S.d.keys ++ [k]).length 1) ws (S.d.now + 1))
    have o4 : (H.del r).le ((H3.set r (rcbox S.c (.msl g3 (S.d.keys ++ [k]).length 1) ws (S.d.now + 1))).del r) := by rw [Heap.del_set]; exact o1.trans (Heap.del_mono b3 r)
    obtain ⟨H4, hH4⟩ : ∃ H4, H3.set r (.box [.int .i64 S.c.a, .int .i64 S.c.b, .int .i64 S.c.c, .msl g3 (S.d.keys ++ [k]).length 1, ws, .int .i64 (S.d.now + 1 : Nat)]) = H4 := ⟨_, rfl⟩
    rw [show H3.set r (rcbox S.c (.msl g3 (S.d.keys ++ [k]).length 1) ws (S.d.now + 1)) = H4 from hH4] at r4 k4 w4 o4
    rw [hH4]
    clear hH4
    repeat (first
    | refine AOps.op rfl rfl ?_ | refine AOps.load rfl rfl rfl rfl rfl ?_ | refine AOps.nil ?_ | refine AWP.seq ?_ | refine AWP.region ?_ | refine AWP.block ?_ | refine AWP.skip ?_ | refine AWP.exit ?_ | refine AWP.scope ?_ | refine AWP.label ?_)
    refine AWP.draw [[], [], [], [2], [2, 3], [2, 3, 4], [1, 2, 3, 4, 5], [], [7], [7, 8], [7, 8, 9], [7, 8, 9, 10], [1, 2, 3, 4, 5, 6, 7, 8, 9, 10, 11], [0, 1, 2, 3, 4, 5, 6, 7, 8, 9, 10, 11, 12], [0, 1, 2, 3, 4, 5, 6, 7, 8, 9, 10, 11, 12, 13], [0, 1, 2, 3, 4, 5, 6, 7, 8, 9, 10, 11, 12, 13, 14]] [(0, .pure), (1, .pure), (2, .pure), (3, .pure), (4, .pure), (5, .read), (7, .pure), (8, .pure), (9, .pure), (10, .read), (11, .pure), (6, .eff), (12, .eff), (13, .pure), (14, .pure), (15, .eff)] rfl ?_
    repeat (first | refine DRun.op rfl rfl rfl ?_ | refine DRun.loadI rfl rfl rfl rfl rfl ?_ | refine DRun.load rfl rfl rfl rfl rfl rfl ?_ | refine DRun.nil ?_)
    refine DRun.buildSlice (els := []) rfl rfl rfl rfl ?_
    repeat (first | refine DRun.op rfl rfl rfl ?_ | refine DRun.loadI rfl rfl rfl rfl rfl ?_ | refine DRun.load rfl rfl rfl rfl rfl rfl ?_ | refine DRun.nil ?_)
    refine DRun.load rfl rfl rfl (cellsAt_ptr r4) rfl rfl ?_
    repeat (first | refine DRun.op rfl rfl rfl ?_ | refine DRun.loadI rfl rfl rfl rfl rfl ?_ | refine DRun.load rfl rfl rfl rfl rfl rfl ?_ | refine DRun.nil ?_)
    refine DRun.load rfl rfl rfl (cellsAt_ptr r4) rfl rfl ?_
    refine DRun.buildSlice (els := [iv (S.d.now + 1)]) rfl rfl rfl rfl ?_
    repeat (first | refine DRun.op rfl rfl rfl ?_ | refine DRun.loadI rfl rfl rfl rfl rfl ?_ | refine DRun.load rfl rfl rfl rfl rfl rfl ?_ | refine DRun.nil ?_)
    refine DRun.eff rfl rfl rfl (xClone w4 iv_cells iv_one (by omega) rfl rfl rfl rfl rfl rfl rfl rfl rfl (by decide) fun v5 H5 a5 b5 c5 => ⟨?_, ?_⟩)
    · repeat (first | exact Chk.nil | refine Chk.pre rfl ?_ | refine Chk.load rfl (cellsAt_ptr (b5 _ _ r4)) rfl rfl ?_)
    refine DRun.eff rfl rfl rfl (xPush (a := S.d.now + 1) a5 iv_cells iv_one (by omega) rfl rfl rfl rfl rfl rfl rfl rfl rfl (by decide) b5 c5 fun v6 H6 a6 b6 c6 => ⟨?_, ?_⟩)
    · repeat (first | exact Chk.nil | refine Chk.pre rfl ?_ | refine Chk.load rfl (cellsAt_ptr (b6 _ _ r4)) rfl rfl ?_)
    obtain ⟨g6, rfl, hg6⟩ := a6.at (by simp)
    have r6 := b6 _ _ r4
    repeat (first | refine DRun.op rfl rfl rfl ?_ | refine DRun.loadI rfl rfl rfl rfl rfl ?_ | refine DRun.load rfl rfl rfl rfl rfl rfl ?_ | refine DRun.nil ?_)
    refine DRun.eff rfl rfl rfl (OpT.storeH rfl rfl rfl r6 rfl rfl ⟨?_, ?_⟩)
    · repeat (first | exact Chk.nil | refine Chk.pre rfl ?_)
    repeat (first | refine DRun.op rfl rfl rfl ?_ | refine DRun.loadI rfl rfl rfl rfl rfl ?_ | refine DRun.load rfl rfl rfl rfl rfl rfl ?_ | refine DRun.nil ?_)
    repeat (first
    | refine AOps.op rfl rfl ?_ | refine AOps.load rfl rfl rfl rfl rfl ?_ | refine AOps.nil ?_ | refine AWP.seq ?_ | refine AWP.region ?_ | refine AWP.block ?_ | refine AWP.skip ?_ | refine AWP.exit ?_ | refine AWP.scope ?_ | refine AWP.label ?_)
    refine AWP.ret ?_
    have hcomes : S.d.comes k = ⟨S.d.keys ++ [k], S.d.now + 1⟩ := by unfold Dic.comes; rw [if_pos h]
    refine ⟨_, _, rfl, rfl, Heap.le_refl _, ⟨hok', hc, .msl g3 (S.d.keys ++ [k]).length 1, .msl g6 (S.d.when ++ [S.d.now + 1]).length 1, ?_, ?_, ?_⟩, ?_⟩
    · rw [hn']; exact Heap.set_same _ _ _
    · rw [hcomes]; exact XS.off (k4.mono b6) r6 (rcbox_str _ _ _ _ _) _
    · rw [Dic.when_push hok h]; exact XS.new a6 r4 c6 _
    · refine (o4.trans (Heap.del_mono b6 r)).trans ?_
      intro q x e
      have hq : q ≠ r := by rintro rfl; rw [Heap.del_same] at e; cases e
      rw [Heap.set_ne _ _ hq]; rw [Heap.del_ne _ hq] at e; exact e
  · have h : ¬ S.d.keys.length < 8 := by simp at h; omega
    have hlen : S.d.keys.length = 8 ∧ 8 ≤ S.d.now := by have := hok.1; omega
    obtain ⟨gw, rfl, hgw⟩ := w1.at (by intro e; rw [e] at hw8; simp at hw8; omega)
    have hcw : ∀ i, i < 8 → S.d.when[i]? = some (S.d.came i) := fun i hi => Dic.when_get _ (by omega)
    rw [hw8, hlen.1] at r1 w1
    have hcame : ∀ i, i < 8 → S.d.came i < 2 ^ 62 := fun i _ => by simp only [Dic.came]; omega
    repeat (first
    | refine AOps.op rfl rfl ?_ | refine AOps.load rfl rfl rfl rfl rfl ?_ | refine AOps.nil ?_ | refine AWP.seq ?_ | refine AWP.region ?_ | refine AWP.skip ?_ | refine AWP.exit ?_ | refine AWP.scope ?_ | refine AWP.label ?_)
    refine AWP.thnA (α := Unit) (fun _ => True) (fun _ => [(0, .ptr r 3), (1, .str k), (4, .int .i64 (S.d.now % 8 : Nat))]) (fun _ => []) (fun _ => H1) ?_ ?_
    · refine AWP.block ?_
      refine AWP.loopA (α := Nat × Nat) (fun a => 1 ≤ a.1 ∧ a.1 ≤ 8 ∧ a.2 < a.1 ∧ ∀ j, j < a.1 → j ≠ a.2 → S.d.came a.2 < S.d.came j) (fun a => 8 - a.1)
        (fun a => [(0, .ptr r 3), (1, .str k), (4, .int .i64 a.2), (5, .int .i64 a.1)]) (fun _ => []) (fun _ => H1) (1, 0) ⟨by simp, by simp, by simp, fun j h1 h2 => by simp only at h1 h2; omega⟩ ⟨rfl, rfl, rfl, rfl, trivial⟩ rfl (Heap.le_refl _) ?_
      rintro ⟨i, m⟩ ⟨i1, i2, i3, i4⟩
      simp only at i1 i2 i3 i4
      dsimp only
      repeat (first
    | refine AOps.op rfl rfl ?_ | refine AOps.load rfl rfl rfl rfl rfl ?_ | refine AOps.nil ?_ | refine AWP.seq ?_ | refine AWP.region ?_ | refine AWP.block ?_ | refine AWP.skip ?_ | refine AWP.exit ?_ | refine AWP.scope ?_ | refine AWP.label ?_)
      refine AWP.cond rfl (fun h => ?_) (fun h => ?_)
      · have h : i < 8 := by simp at h; omega
        have ei : IntKind.i64.wrap ((i : Int) + 1) = ((i + 1 : Nat) : Int) := wrap_i64 (n := i + 1) (by omega)
        repeat (first
    | refine AOps.op rfl rfl ?_ | refine AOps.load rfl rfl rfl rfl rfl ?_ | refine AOps.nil ?_ | refine AWP.seq ?_ | refine AWP.region ?_ | refine AWP.block ?_ | refine AWP.skip ?_ | refine AWP.exit ?_ | refine AWP.scope ?_ | refine AWP.label ?_)
        refine AWP.draw [[], [0], [0, 1], [0, 1, 2], [], [0, 1, 2, 3, 4], [0, 1, 2, 3, 4, 5], [], [7], [7, 8], [7, 8, 9], [], [7, 8, 9, 10, 11], [7, 8, 9, 10, 11, 12], [0, 1, 2, 3, 4, 5, 6, 7, 8, 9, 10, 11, 12, 13]] [(0, .pure), (1, .pure), (2, .pure), (3, .read), (4, .pure), (5, .pure), (6, .read), (7, .pure), (8, .pure), (9, .pure), (10, .read), (11, .pure), (12, .pure), (13, .read), (14, .pure)] rfl ?_
        repeat (first | refine DRun.op rfl rfl rfl ?_ | refine DRun.loadI rfl rfl rfl rfl rfl ?_ | refine DRun.load rfl rfl rfl rfl rfl rfl ?_ | refine DRun.nil ?_)
        refine DRun.load rfl rfl rfl (cellsAt_ptr r1) rfl rfl ?_
        repeat (first | refine DRun.op rfl rfl rfl ?_ | refine DRun.loadI rfl rfl rfl rfl rfl ?_ | refine DRun.load rfl rfl rfl rfl rfl rfl ?_ | refine DRun.nil ?_)
        refine DRun.pureT rfl rfl rfl (fun loc H => OpT.indexM rfl rfl rfl rfl rfl (by omega) (by omega) (o := i) (by simp) ⟨rfl, rfl, rfl⟩) ?_
        refine DRun.load rfl rfl rfl (cellsAt_ptr hgw) rfl (iv_cell (hcw i h)) ?_
        repeat (first | refine DRun.op rfl rfl rfl ?_ | refine DRun.loadI rfl rfl rfl rfl rfl ?_ | refine DRun.load rfl rfl rfl rfl rfl rfl ?_ | refine DRun.nil ?_)
        refine DRun.load rfl rfl rfl (cellsAt_ptr r1) rfl rfl ?_
        repeat (first | refine DRun.op rfl rfl rfl ?_ | refine DRun.loadI rfl rfl rfl rfl rfl ?_ | refine DRun.load rfl rfl rfl rfl rfl rfl ?_ | refine DRun.nil ?_)
        refine DRun.pureT rfl rfl rfl (fun loc H => OpT.indexM rfl rfl rfl rfl rfl (by omega) (by omega) (o := m) (by simp) ⟨rfl, rfl, rfl⟩) ?_
        refine DRun.load rfl rfl rfl (cellsAt_ptr hgw) rfl (iv_cell (hcw m (by omega))) ?_
        repeat (first | refine DRun.op rfl rfl rfl ?_ | refine DRun.loadI rfl rfl rfl rfl rfl ?_ | refine DRun.load rfl rfl rfl rfl rfl rfl ?_ | refine DRun.nil ?_)
        have ne : S.d.came i ≠ S.d.came m := by
          have := i4; simp only [Dic.came]; omega
        refine AWP.cond rfl (fun h => ?_) (fun h => ?_)
        · have h : S.d.came i < S.d.came m := by simp at h; omega
          repeat (first
    | refine AOps.op rfl rfl ?_ | refine AOps.load rfl rfl rfl rfl rfl ?_ | refine AOps.nil ?_ | refine AWP.seq ?_ | refine AWP.region ?_ | refine AWP.block ?_ | refine AWP.skip ?_ | refine AWP.exit ?_ | refine AWP.scope ?_ | refine AWP.label ?_)
          refine ⟨(i + 1, i), by ((try dsimp only); omega), ⟨by ((try dsimp only); omega), by ((try dsimp only); omega), by ((try dsimp only); omega), fun j hj hne => ?_⟩, ⟨rfl, rfl, rfl, congrArg (fun x => some (AV.int .i64 x)) ei, trivial⟩, rfl, Heap.le_refl _⟩
          simp only at hj hne
          by_cases c : j = m
          · subst c; exact h
          · have := i4 j (by omega) c; simp only; omega
        · have h : S.d.came m < S.d.came i := by simp at h; omega
          repeat (first
    | refine AOps.op rfl rfl ?_ | refine AOps.load rfl rfl rfl rfl rfl ?_ | refine AOps.nil ?_ | refine AWP.seq ?_ | refine AWP.region ?_ | refine AWP.block ?_ | refine AWP.skip ?_ | refine AWP.exit ?_ | refine AWP.scope ?_ | refine AWP.label ?_)
          refine ⟨(i + 1, m), by ((try dsimp only); omega), ⟨by ((try dsimp only); omega), by ((try dsimp only); omega), by ((try dsimp only); omega), fun j hj hne => ?_⟩, ⟨rfl, rfl, rfl, congrArg (fun x => some (AV.int .i64 x)) ei, trivial⟩, rfl, Heap.le_refl _⟩
          simp only at hj hne
          by_cases c : j = i
          · subst c; exact h
          · exact i4 j (by omega) hne
      · have h : i = 8 := by simp at h; omega
        subst h
        have hm : m = S.d.now % 8 := by
          by_cases c : m = S.d.now % 8
          · exact c
          · have h1 := i4 (S.d.now % 8) (by omega) (Ne.symm c)
            have h2 := Dic.came_first hlen.2 i3 c
            omega
        subst hm
        repeat (first
    | refine AOps.op rfl rfl ?_ | refine AOps.load rfl rfl rfl rfl rfl ?_ | refine AOps.nil ?_ | refine AWP.seq ?_ | refine AWP.region ?_ | refine AWP.block ?_ | refine AWP.skip ?_ | refine AWP.exit ?_ | refine AWP.scope ?_ | refine AWP.label ?_)
        exact ⟨(), trivial, ⟨rfl, rfl, rfl, trivial⟩, rfl, Heap.le_refl _⟩
    intro _ _
    have hfirst : S.d.now % 8 < 8 := by omega
    generalize hf0 : S.d.now % 8 = f0 at *
    repeat (first
    | refine AOps.op rfl rfl ?_ | refine AOps.load rfl rfl rfl rfl rfl ?_ | refine AOps.nil ?_ | refine AWP.seq ?_ | refine AWP.region ?_ | refine AWP.block ?_ | refine AWP.skip ?_ | refine AWP.exit ?_ | refine AWP.scope ?_ | refine AWP.label ?_)
    refine AOps.buildSlice (els := []) rfl rfl rfl ?_
    repeat (first
    | refine AOps.op rfl rfl ?_ | refine AOps.load rfl rfl rfl rfl rfl ?_ | refine AOps.nil ?_ | refine AWP.seq ?_ | refine AWP.region ?_ | refine AWP.block ?_ | refine AWP.skip ?_ | refine AWP.exit ?_ | refine AWP.scope ?_ | refine AWP.label ?_)
    refine AOps.load rfl (cellsAt_ptr r1) rfl rfl rfl ?_
    refine AOps.step rfl rfl (xClone k1 str_cells str_one (by omega) rfl rfl rfl rfl rfl rfl rfl rfl rfl (by decide) fun v2 H2 a2 b2 c2 => ?_)
    obtain ⟨g2, rfl, hg2⟩ := a2.at (by intro e; rw [e] at hlen; simp at hlen)
    have r2 := b2 _ _ r1
    have hg2r : g2 ≠ r := by rintro rfl; rw [c2 _ rfl] at r1; cases r1
    repeat (first
    | refine AOps.op rfl rfl ?_ | refine AOps.load rfl rfl rfl rfl rfl ?_ | refine AOps.nil ?_ | refine AWP.seq ?_ | refine AWP.region ?_ | refine AWP.block ?_ | refine AWP.skip ?_ | refine AWP.exit ?_ | refine AWP.scope ?_ | refine AWP.label ?_)
    refine AOps.storeH rfl rfl rfl r2 rfl rfl ?_
    rw [hlen.1] at c2 ⊢
    have r3 : (H2.set r (rcbox S.c (.msl g2 8 1) (.msl gw 8 1) (S.d.now + 1))) r = some (rcbox S.c (.msl g2 8 1) (.msl gw 8 1) (S.d.now + 1)) := Heap.set_same _ _ _
    have k3 : (H2.set r (rcbox S.c (.msl g2 8 1) (.msl gw 8 1) (S.d.now + 1))) g2 = some (.box (S.d.keys.map .str)) := by rw [Heap.set_ne _ _ hg2r]; exact hg2
    have w3 := XS.off (w1.mono b2) r2 (rcbox_iv k1 _ _ _ _) (rcbox S.c (.msl g2 8 1) (.msl gw 8 1) (S.d.now + 1))
    have o3 : (H.del r).le ((H2.set r (rcbox S.c (.msl g2 8 1) (.msl gw 8 1) (S.d.now + 1))).del r) := by rw [Heap.del_set]; exact o1.trans (Heap.del_mono b2 r)
    have n3 : (H.del r) g2 = none := by
      cases e : (H.del r) g2 with
      | none => rfl
      | some x => have := Heap.del_le _ _ _ _ (o1 _ _ e); rw [c2 _ rfl] at this; cases this
    obtain ⟨H3, hH3⟩ : ∃ H3, H2.set r (.box [.int .i64 S.c.a, .int .i64 S.c.b, .int .i64 S.c.c, .msl g2 8 1, .msl gw 8 1, .int .i64 (S.d.now + 1 : Nat)]) = H3 := ⟨_, rfl⟩
    rw [show H2.set r (rcbox S.c (.msl g2 8 1) (.msl gw 8 1) (S.d.now + 1)) = H3 from hH3] at r3 k3 w3 o3
    rw [hH3]
    clear hH3
    repeat (first
    | refine AOps.op rfl rfl ?_ | refine AOps.load rfl rfl rfl rfl rfl ?_ | refine AOps.nil ?_ | refine AWP.seq ?_ | refine AWP.region ?_ | refine AWP.block ?_ | refine AWP.skip ?_ | refine AWP.exit ?_ | refine AWP.scope ?_ | refine AWP.label ?_)
    refine AOps.buildSlice (els := []) rfl rfl rfl ?_
    repeat (first
    | refine AOps.op rfl rfl ?_ | refine AOps.load rfl rfl rfl rfl rfl ?_ | refine AOps.nil ?_ | refine AWP.seq ?_ | refine AWP.region ?_ | refine AWP.block ?_ | refine AWP.skip ?_ | refine AWP.exit ?_ | refine AWP.scope ?_ | refine AWP.label ?_)
    refine AOps.load rfl (cellsAt_ptr r3) rfl rfl rfl ?_
    refine AOps.step rfl rfl (xClone w3 iv_cells iv_one (by omega) rfl rfl rfl rfl rfl rfl rfl rfl rfl (by decide) fun v4 H4 a4 b4 c4 => ?_)
    obtain ⟨g4, rfl, hg4⟩ := a4.at (by intro e; rw [e] at hw8; simp at hw8; omega)
    have r4 := b4 _ _ r3
    have k4 := b4 _ _ k3
    have hg4r : g4 ≠ r := by rintro rfl; rw [c4 _ rfl] at r3; cases r3
    have hg42 : g2 ≠ g4 := by rintro rfl; rw [c4 _ rfl] at k3; cases k3
    have n4 : (H.del r) g4 = none := by
      cases e : (H.del r) g4 with
      | none => rfl
      | some x => have := Heap.del_le _ _ _ _ (o3 _ _ e); rw [c4 _ rfl] at this; cases this
    repeat (first
    | refine AOps.op rfl rfl ?_ | refine AOps.load rfl rfl rfl rfl rfl ?_ | refine AOps.nil ?_ | refine AWP.seq ?_ | refine AWP.region ?_ | refine AWP.block ?_ | refine AWP.skip ?_ | refine AWP.exit ?_ | refine AWP.scope ?_ | refine AWP.label ?_)
    refine AOps.storeH rfl rfl rfl r4 rfl rfl ?_
    rw [hw8, hlen.1]
    rw [hw8, hlen.1] at c4
    have o4 := o3.trans (Heap.del_mono b4 r)
    repeat (first
    | refine AOps.op rfl rfl ?_ | refine AOps.load rfl rfl rfl rfl rfl ?_ | refine AOps.nil ?_ | refine AWP.seq ?_ | refine AWP.region ?_ | refine AWP.block ?_ | refine AWP.skip ?_ | refine AWP.exit ?_ | refine AWP.scope ?_ | refine AWP.label ?_)
    refine AOps.load rfl (cellsAt_ptr (Heap.set_same _ _ _)) rfl rfl rfl ?_
    repeat (first
    | refine AOps.op rfl rfl ?_ | refine AOps.load rfl rfl rfl rfl rfl ?_ | refine AOps.nil ?_ | refine AWP.seq ?_ | refine AWP.region ?_ | refine AWP.block ?_ | refine AWP.skip ?_ | refine AWP.exit ?_ | refine AWP.scope ?_ | refine AWP.label ?_)
    refine AOps.step rfl rfl (OpT.indexM (i := (f0 : Int)) rfl rfl rfl rfl rfl (by omega) (by omega) (o := f0) (by simp) ?_)
    have k5 : (H4.set r (.box [.int .i64 S.c.a, .int .i64 S.c.b, .int .i64 S.c.c, .msl g2 8 1, .msl g4 8 1, .int .i64 (S.d.now + 1 : Nat)])) g2 = some (.box (S.d.keys.map .str)) := by rw [Heap.set_ne _ _ hg2r]; exact k4
    refine AOps.storeH rfl rfl rfl k5 rfl (store_str S.d.keys f0 k (by omega)) ?_
    have r6 : ((H4.set r (.box [.int .i64 S.c.a, .int .i64 S.c.b, .int .i64 S.c.c, .msl g2 8 1, .msl g4 8 1, .int .i64 (S.d.now + 1 : Nat)])).set g2 (.box ((S.d.keys.set f0 k).map .str))) r = some (rcbox S.c (.msl g2 8 1) (.msl g4 8 1) (S.d.now + 1)) := by
      rw [Heap.set_ne _ _ (Ne.symm hg2r)]; exact Heap.set_same _ _ _
    have w6 : ((H4.set r (.box [.int .i64 S.c.a, .int .i64 S.c.b, .int .i64 S.c.c, .msl g2 8 1, .msl g4 8 1, .int .i64 (S.d.now + 1 : Nat)])).set g2 (.box ((S.d.keys.set f0 k).map .str))) g4 = some (.box (S.d.when.map iv)) := by
      rw [Heap.set_ne _ _ (Ne.symm hg42), Heap.set_ne _ _ hg4r]; exact hg4
    have k6 : ((H4.set r (.box [.int .i64 S.c.a, .int .i64 S.c.b, .int .i64 S.c.c, .msl g2 8 1, .msl g4 8 1, .int .i64 (S.d.now + 1 : Nat)])).set g2 (.box ((S.d.keys.set f0 k).map .str))) g2 = some (.box ((S.d.keys.set f0 k).map .str)) := Heap.set_same _ _ _
    have o6 : (H.del r).le ((H4.set r (.box [.int .i64 S.c.a, .int .i64 S.c.b, .int .i64 S.c.c, .msl g2 8 1, .msl g4 8 1, .int .i64 (S.d.now + 1 : Nat)])).set g2 (.box ((S.d.keys.set f0 k).map .str))) := by
      intro q x e
      have hq : q ≠ r := by rintro rfl; rw [Heap.del_same] at e; cases e
      have hq2 : q ≠ g2 := by rintro rfl; rw [n3] at e; cases e
      rw [Heap.set_ne _ _ hq2, Heap.set_ne _ _ hq]
      have := o4 _ _ e
      rw [Heap.del_ne _ hq] at this; exact this
    generalize (H4.set r (.box [.int .i64 S.c.a, .int .i64 S.c.b, .int .i64 S.c.c, .msl g2 8 1, .msl g4 8 1, .int .i64 (S.d.now + 1 : Nat)])).set g2 (.box ((S.d.keys.set f0 k).map .str)) = H6 at *
    repeat (first
    | refine AOps.op rfl rfl ?_ | refine AOps.load rfl rfl rfl rfl rfl ?_ | refine AOps.nil ?_ | refine AWP.seq ?_ | refine AWP.region ?_ | refine AWP.block ?_ | refine AWP.skip ?_ | refine AWP.exit ?_ | refine AWP.scope ?_ | refine AWP.label ?_)
    refine AWP.draw [[], [0], [0, 1], [0, 1, 2], [], [], [5], [5, 6], [5, 6, 7], [0, 1, 2, 3, 4, 5, 6, 7, 8], [0, 1, 2, 3, 4, 5, 6, 7, 8, 9]] [(0, .pure), (1, .pure), (2, .pure), (3, .read), (4, .pure), (5, .pure), (6, .pure), (7, .pure), (8, .read), (9, .pure), (10, .eff)] rfl ?_
    repeat (first | refine DRun.op rfl rfl rfl ?_ | refine DRun.loadI rfl rfl rfl rfl rfl ?_ | refine DRun.load rfl rfl rfl rfl rfl rfl ?_ | refine DRun.nil ?_)
    refine DRun.load rfl rfl rfl (cellsAt_ptr r6) rfl rfl ?_
    repeat (first | refine DRun.op rfl rfl rfl ?_ | refine DRun.loadI rfl rfl rfl rfl rfl ?_ | refine DRun.load rfl rfl rfl rfl rfl rfl ?_ | refine DRun.nil ?_)
    refine DRun.load rfl rfl rfl (cellsAt_ptr r6) rfl rfl ?_
    refine DRun.pureT rfl rfl rfl (fun loc H => OpT.indexM rfl rfl rfl rfl rfl (by omega) (by omega) (o := f0) (by simp) ⟨rfl, rfl, rfl⟩) ?_
    refine DRun.eff rfl rfl rfl (OpT.storeH rfl rfl rfl w6 rfl (store_iv S.d.when f0 (S.d.now + 1) (by omega)) ⟨?_, ?_⟩)
    · repeat (first | exact Chk.nil | refine Chk.pre rfl ?_)
    repeat (first | refine DRun.op rfl rfl rfl ?_ | refine DRun.loadI rfl rfl rfl rfl rfl ?_ | refine DRun.load rfl rfl rfl rfl rfl rfl ?_ | refine DRun.nil ?_)
    have hcomes : S.d.comes k = ⟨S.d.keys.set f0 k, S.d.now + 1⟩ := by unfold Dic.comes; rw [if_neg h, hf0]
    refine ⟨_, _, rfl, rfl, Heap.le_refl _, ⟨hok', hc, .msl g2 8 1, .msl g4 8 1, ?_, ?_, ?_⟩, ?_⟩
    · rw [hn', Heap.set_ne _ _ (Ne.symm hg4r)]; exact r6
    · rw [hcomes]
      refine .inr ⟨g2, by simp [hlen.1], ?_⟩
      rw [Heap.set_ne _ _ hg42]; exact k6
    · rw [Dic.when_set hok h, hf0]
      refine .inr ⟨g4, by simp [hw8, hlen.1], Heap.set_same _ _ _⟩
    · intro q x e
      have hq : q ≠ g4 := by rintro rfl; rw [n4] at e; cases e
      rw [Heap.set_ne _ _ hq]; exact o6 _ _ e
end Go.Proofs.Ytlbnhokhhangdaa

/- The document's dictionaries: keys told and read. -/
namespace Go.Proofs.Ytlbnhokhhangdaa
open Go Go.Am Go.Pk Go.Lib
set_option linter.unusedVariables false
set_option maxRecDepth 10000
attribute [local irreducible] AOps AWP DRun ACalls

theorem R5Put_spec (r : Nat) (S : Cod) (k : Str) (H : Heap) (h : RCodAt H r S) (hk : k.length ≤ 64) (hnow : S.d.now < 2 ^ 60) :
    ACalls Q.prog 56 [.ptr r 3, .str k] H fun x H' => ∃ b tag, x = .tuple [.sl (encB b) tag, .int .i64 0] ∧ b = (dput S.d k).1 ∧ RCodAt H' r ⟨(dput S.d k).2.2, S.c⟩ ∧ (H.del r).le H' := by
  refine ACalls.body (N := 31) Try.func56 rfl rfl rfl rfl ?_
  repeat (first
    | refine AOps.op rfl rfl ?_ | refine AOps.load rfl rfl rfl rfl rfl ?_ | refine AOps.nil ?_ | refine AWP.seq ?_ | refine AWP.region ?_ | refine AWP.block ?_ | refine AWP.skip ?_ | refine AWP.exit ?_ | refine AWP.scope ?_ | refine AWP.label ?_)
  refine AWP.cond rfl (fun h => by simp at h; omega) (fun _ => ?_)
  repeat (first
    | refine AOps.op rfl rfl ?_ | refine AOps.load rfl rfl rfl rfl rfl ?_ | refine AOps.nil ?_ | refine AWP.seq ?_ | refine AWP.region ?_ | refine AWP.block ?_ | refine AWP.skip ?_ | refine AWP.exit ?_ | refine AWP.scope ?_ | refine AWP.label ?_)
  refine AOps.call rfl rfl rfl ((R5At_spec r S k H h).mono ?_)
  rintro _ H ⟨rfl, rfl⟩
  repeat (first
    | refine AOps.op rfl rfl ?_ | refine AOps.load rfl rfl rfl rfl rfl ?_ | refine AOps.nil ?_ | refine AWP.seq ?_ | refine AWP.region ?_ | refine AWP.block ?_ | refine AWP.skip ?_ | refine AWP.exit ?_ | refine AWP.scope ?_ | refine AWP.label ?_)
  have h64 : ¬ 64 < k.length := by omega
  cases e : S.d.at k with
  | some i =>
    have ei : atN S.d k = (i : Int) := by simp [atN, e]
    have hi : i < S.d.keys.length := (List.getElem?_eq_some_iff.1 (Dic.at_some e)).1
    have hl8 : S.d.keys.length ≤ 8 := by have := h.1.1; omega
    rw [ei]
    refine AWP.cond rfl (fun _ => ?_) (fun h => by simp at h)
    have e1 : IntKind.u64.wrap (IntKind.i64.wrap ((i : Int) + 1)) = ((i + 1 : Nat) : Int) := by rw [show IntKind.i64.wrap ((i : Int) + 1) = ((i + 1 : Nat) : Int) from wrap_i64 (n := i + 1) (by omega)]; exact wrap_u64 (n := i + 1) (by omega)
    repeat (first
    | refine AOps.op rfl rfl ?_ | refine AOps.load rfl rfl rfl rfl rfl ?_ | refine AOps.nil ?_ | refine AWP.seq ?_ | refine AWP.region ?_ | refine AWP.block ?_ | refine AWP.skip ?_ | refine AWP.exit ?_ | refine AWP.scope ?_ | refine AWP.label ?_)
    refine AOps.call rfl rfl rfl ((R5At_spec r S k H h).mono ?_)
    rintro _ H ⟨rfl, rfl⟩
    rw [ei]
    repeat (first
    | refine AOps.op rfl rfl ?_ | refine AOps.load rfl rfl rfl rfl rfl ?_ | refine AOps.nil ?_ | refine AWP.seq ?_ | refine AWP.region ?_ | refine AWP.block ?_ | refine AWP.skip ?_ | refine AWP.exit ?_ | refine AWP.scope ?_ | refine AWP.label ?_)
    refine AOps.call (vs := [.int .u64 (i + 1 : Nat)]) (congrArg (fun x => some [AV.int .u64 x]) e1) rfl rfl ((R1Put_spec (i + 1) (by omega) H).mono ?_)
    rintro _ H2 ⟨tag, rfl, k1, k2⟩
    repeat (first
    | refine AOps.op rfl rfl ?_ | refine AOps.load rfl rfl rfl rfl rfl ?_ | refine AOps.nil ?_ | refine AWP.seq ?_ | refine AWP.region ?_ | refine AWP.block ?_ | refine AWP.skip ?_ | refine AWP.exit ?_ | refine AWP.scope ?_ | refine AWP.label ?_)
    refine AWP.ret ?_
    refine ⟨_, H, rfl, rfl, by rw [← k2]; exact hbase_le _ _, _, tag, rfl, ?_, ?_, Heap.del_le _ _⟩
    · simp [dput, h64, e]
    · simp only [dput, h64, e, if_false]; exact h
  | none =>
    have ei : atN S.d k = -1 := by simp [atN, e]
    rw [ei]
    refine AWP.cond rfl (fun h => by simp at h) (fun _ => ?_)
    repeat (first
    | refine AOps.op rfl rfl ?_ | refine AOps.load rfl rfl rfl rfl rfl ?_ | refine AOps.nil ?_ | refine AWP.seq ?_ | refine AWP.region ?_ | refine AWP.block ?_ | refine AWP.skip ?_ | refine AWP.exit ?_ | refine AWP.scope ?_ | refine AWP.label ?_)
    refine AOps.call rfl rfl rfl ((R5comes_spec r S k H h e hnow).mono ?_)
    rintro _ H2 ⟨h2, h3⟩
    repeat (first
    | refine AOps.op rfl rfl ?_ | refine AOps.load rfl rfl rfl rfl rfl ?_ | refine AOps.nil ?_ | refine AWP.seq ?_ | refine AWP.region ?_ | refine AWP.block ?_ | refine AWP.skip ?_ | refine AWP.exit ?_ | refine AWP.scope ?_ | refine AWP.label ?_)
    have e1 : IntKind.u64.wrap ((k.length : Nat) : Int) = ((k.length : Nat) : Int) := wrap_u64 (by omega)
    refine AOps.buildSlice (els := encB [0]) rfl rfl rfl ?_
    repeat (first
    | refine AOps.op rfl rfl ?_ | refine AOps.load rfl rfl rfl rfl rfl ?_ | refine AOps.nil ?_ | refine AWP.seq ?_ | refine AWP.region ?_ | refine AWP.block ?_ | refine AWP.skip ?_ | refine AWP.exit ?_ | refine AWP.scope ?_ | refine AWP.label ?_)
    refine AOps.call (vs := [.int .u64 (k.length : Nat)]) (congrArg (fun x => some [AV.int .u64 x]) e1) rfl rfl ((R1Put_spec k.length (by omega) H2).mono ?_)
    rintro _ H3 ⟨tag, rfl, k1, k2⟩
    have l1 := uvarint_length64 (x := k.length) (by omega)
    refine appB (hbase H3 tag) (hbase_le _ _) rfl rfl rfl rfl rfl trivial (by simp; omega) fun t4 H4 a4 b4 => ?_
    rw [k2] at b4
    repeat (first
    | refine AOps.op rfl rfl ?_ | refine AOps.load rfl rfl rfl rfl rfl ?_ | refine AOps.nil ?_ | refine AWP.seq ?_ | refine AWP.region ?_ | refine AWP.block ?_ | refine AWP.skip ?_ | refine AWP.exit ?_ | refine AWP.scope ?_ | refine AWP.label ?_)
    refine AOps.toBytes rfl rfl rfl rfl rfl rfl rfl rfl ?_
    refine appB H4 (Heap.le_refl _) rfl rfl rfl rfl rfl a4 (by simp; omega) fun t5 H5 a5 b5 => ?_
    rw [b4] at b5
    repeat (first
    | refine AOps.op rfl rfl ?_ | refine AOps.load rfl rfl rfl rfl rfl ?_ | refine AOps.nil ?_ | refine AWP.seq ?_ | refine AWP.region ?_ | refine AWP.block ?_ | refine AWP.skip ?_ | refine AWP.exit ?_ | refine AWP.scope ?_ | refine AWP.label ?_)
    refine AWP.ret ?_
    refine ⟨_, H2, rfl, rfl, by rw [← show hbase H5 t5 = H2 from b5]; exact hbase_le _ _, _, t5, rfl, ?_, ?_, h3⟩
    · simp [dput, h64, e, uvarint_small]
    · simp only [dput, h64, e, if_false]; exact h2

set_option maxHeartbeats 1000000 in
theorem R5Take_spec (r : Nat) (S : Cod) (b : Str) (tag : Tag) (H : Heap) (h : RCodAt H r S) (hb : b.length < 2 ^ 40) (hnow : S.d.now < 2 ^ 60) :
    ACalls Q.prog 77 [.ptr r 3, .sl (encB b) tag] H fun x H' =>
      x = .tuple [.str (dtake S.d b).1, .int .i64 (dtake S.d b).2.1, .int .i64 (dtake S.d b).2.2.1] ∧ RCodAt H' r ⟨(dtake S.d b).2.2.2, S.c⟩ ∧ (H.del r).le H' := by
  have hl8 : S.d.keys.length ≤ 8 := by have := h.1.1; omega
  obtain ⟨v1, v2, v3, v4⟩ := vtake_le b
  refine ACalls.body (N := 86) Try.func77 rfl rfl rfl rfl ?_
  repeat (first
    | refine AOps.op rfl rfl ?_ | refine AOps.load rfl rfl rfl rfl rfl ?_ | refine AOps.nil ?_ | refine AWP.seq ?_ | refine AWP.region ?_ | refine AWP.block ?_ | refine AWP.skip ?_ | refine AWP.exit ?_ | refine AWP.scope ?_ | refine AWP.label ?_)
  refine AOps.call rfl rfl rfl ((R1Take_spec b tag H hb).mono ?_)
  rintro _ H ⟨rfl, rfl⟩
  have hh := h
  obtain ⟨hok, hc, ks, ws, h1, h2, h3⟩ := h
  repeat (first
    | refine AOps.op rfl rfl ?_ | refine AOps.load rfl rfl rfl rfl rfl ?_ | refine AOps.nil ?_ | refine AWP.seq ?_ | refine AWP.region ?_ | refine AWP.block ?_ | refine AWP.skip ?_ | refine AWP.exit ?_ | refine AWP.scope ?_ | refine AWP.label ?_)
  refine AWP.cond rfl (fun h => ?_) (fun h => ?_)
  · have he : (vtake b).2.2 ≠ 0 := by simp at h; omega
    have hD : dtake S.d b = ([], 0, (vtake b).2.2, S.d) := by simp only [dtake, if_pos he]
    rw [hD]
    repeat (first
    | refine AOps.op rfl rfl ?_ | refine AOps.load rfl rfl rfl rfl rfl ?_ | refine AOps.nil ?_ | refine AWP.seq ?_ | refine AWP.region ?_ | refine AWP.block ?_ | refine AWP.skip ?_ | refine AWP.exit ?_ | refine AWP.scope ?_ | refine AWP.label ?_)
    refine AWP.ret ?_
    exact ⟨_, _, rfl, rfl, Heap.le_refl _, rfl, hh, Heap.del_le _ _⟩
  have he : ¬ (vtake b).2.2 ≠ 0 := by simp at h; omega
  have el : IntKind.u64.wrap ((S.d.keys.length : Nat) : Int) = ((S.d.keys.length : Nat) : Int) := wrap_u64 (by omega)
  repeat (first
    | refine AOps.op rfl rfl ?_ | refine AOps.load rfl rfl rfl rfl rfl ?_ | refine AOps.nil ?_ | refine AWP.seq ?_ | refine AWP.region ?_ | refine AWP.block ?_ | refine AWP.skip ?_ | refine AWP.exit ?_ | refine AWP.scope ?_ | refine AWP.label ?_)
  refine AWP.cond rfl (fun h => ?_) (fun h => ?_)
  · have h0 : 0 < (vtake b).1 := by simp at h; omega
    repeat (first
    | refine AOps.op rfl rfl ?_ | refine AOps.load rfl rfl rfl rfl rfl ?_ | refine AOps.nil ?_ | refine AWP.seq ?_ | refine AWP.region ?_ | refine AWP.block ?_ | refine AWP.skip ?_ | refine AWP.exit ?_ | refine AWP.scope ?_ | refine AWP.label ?_)
    refine AOps.load rfl (cellsAt_ptr h1) rfl rfl rfl ?_
    refine AOps.op (r := .int .i64 S.d.keys.length) (h2.len (T := 46) rfl rfl) rfl ?_
    repeat (first
    | refine AOps.op rfl rfl ?_ | refine AOps.load rfl rfl rfl rfl rfl ?_ | refine AOps.nil ?_ | refine AWP.seq ?_ | refine AWP.region ?_ | refine AWP.block ?_ | refine AWP.skip ?_ | refine AWP.exit ?_ | refine AWP.scope ?_ | refine AWP.label ?_)
    refine AWP.cond rfl (fun h => ?_) (fun h => ?_)
    · have hp : (vtake b).1 > S.d.keys.length := by rw [el] at h; simp at h; omega
      have hD : dtake S.d b = ([], 0, 9, S.d) := by simp only [dtake, if_neg he, if_pos hp]
      rw [hD]
      repeat (first
    | refine AOps.op rfl rfl ?_ | refine AOps.load rfl rfl rfl rfl rfl ?_ | refine AOps.nil ?_ | refine AWP.seq ?_ | refine AWP.region ?_ | refine AWP.block ?_ | refine AWP.skip ?_ | refine AWP.exit ?_ | refine AWP.scope ?_ | refine AWP.label ?_)
      refine AWP.ret ?_
      exact ⟨_, _, rfl, rfl, Heap.le_refl _, rfl, hh, Heap.del_le _ _⟩
    have hp : ¬ (vtake b).1 > S.d.keys.length := by rw [el] at h; simp at h; omega
    obtain ⟨g, rfl, hg⟩ := h2.at (by intro q; rw [q] at hp; simp at hp; omega)
    have ep : IntKind.i64.wrap (IntKind.i64.wrap ((vtake b).1 : Nat) - 1 : Int) = (((vtake b).1 - 1 : Nat) : Int) := by
      rw [wrap_i64 (n := (vtake b).1) (by omega), show (((vtake b).1 : Nat) - 1 : Int) = (((vtake b).1 - 1 : Nat) : Int) by omega]; exact wrap_i64 (by omega)
    obtain ⟨ke, hke⟩ : ∃ ke, S.d.keys[(vtake b).1 - 1]? = some ke := ⟨S.d.keys[(vtake b).1 - 1]'(by omega), List.getElem?_eq_getElem _⟩
    have hD : dtake S.d b = (ke, (vtake b).2.1, 0, S.d) := by simp only [dtake, if_neg he, if_neg hp, if_pos h0, List.getD_eq_getElem?_getD, hke]; rfl
    rw [hD]
    repeat (first
    | refine AOps.op rfl rfl ?_ | refine AOps.load rfl rfl rfl rfl rfl ?_ | refine AOps.nil ?_ | refine AWP.seq ?_ | refine AWP.region ?_ | refine AWP.block ?_ | refine AWP.skip ?_ | refine AWP.exit ?_ | refine AWP.scope ?_ | refine AWP.label ?_)
    refine AOps.load rfl (cellsAt_ptr h1) rfl rfl rfl ?_
    repeat (first
    | refine AOps.op rfl rfl ?_ | refine AOps.load rfl rfl rfl rfl rfl ?_ | refine AOps.nil ?_ | refine AWP.seq ?_ | refine AWP.region ?_ | refine AWP.block ?_ | refine AWP.skip ?_ | refine AWP.exit ?_ | refine AWP.scope ?_ | refine AWP.label ?_)
    refine AOps.step rfl rfl (OpT.indexM (i := (((vtake b).1 - 1 : Nat) : Int)) rfl (congrArg (fun x => some (AV.int .i64 x)) ep) rfl rfl rfl (by omega) (by omega) (o := (vtake b).1 - 1) (by simp) ?_)
    refine AOps.load rfl (cellsAt_ptr hg) rfl (str_cell hke) rfl ?_
    repeat (first
    | refine AOps.op rfl rfl ?_ | refine AOps.load rfl rfl rfl rfl rfl ?_ | refine AOps.nil ?_ | refine AWP.seq ?_ | refine AWP.region ?_ | refine AWP.block ?_ | refine AWP.skip ?_ | refine AWP.exit ?_ | refine AWP.scope ?_ | refine AWP.label ?_)
    refine AWP.ret ?_
    exact ⟨_, _, rfl, rfl, Heap.le_refl _, rfl, hh, Heap.del_le _ _⟩
  have h0 : ¬ 0 < (vtake b).1 := by simp at h; omega
  have hp : ¬ (vtake b).1 > S.d.keys.length := by omega
  obtain ⟨y1, y2, y3, y4⟩ := vtake_le (b.drop (vtake b).2.1)
  rw [List.length_drop] at y1
  have hD : dtake S.d b = (let u := (vtake b).2.1
    let y := vtake (b.drop u)
    if y.2.2 ≠ 0 then ([], 0, y.2.2, S.d)
    else if y.1 > 64 then ([], 0, 4, S.d)
    else if b.length - (u + y.2.1) < y.1 then ([], 0, 2, S.d)
    else
      let k := (b.take (u + y.2.1 + y.1)).drop (u + y.2.1)
      if (S.d.at k).isSome then ([], 0, 3, S.d) else (k, u + y.2.1 + y.1, 0, S.d.comes k)) := by
    simp only [dtake, if_neg he, if_neg hp, if_neg h0]
  rw [hD]
  clear hD
  generalize hu : (vtake b).2.1 = u at *
  generalize hy : vtake (b.drop u) = y at *
  obtain ⟨n, s, e⟩ := y
  simp only at y1 y2 y3 y4
  dsimp only
  repeat (first
    | refine AOps.op rfl rfl ?_ | refine AOps.load rfl rfl rfl rfl rfl ?_ | refine AOps.nil ?_ | refine AWP.seq ?_ | refine AWP.region ?_ | refine AWP.block ?_ | refine AWP.skip ?_ | refine AWP.exit ?_ | refine AWP.scope ?_ | refine AWP.label ?_)
  refine AOps.step rfl rfl (cutFrom u rfl rfl v1 ?_)
  refine AOps.call rfl rfl rfl ((R1Take_spec (b.drop u) .no H (by rw [List.length_drop]; omega)).mono ?_)
  rintro _ H ⟨rfl, rfl⟩
  rw [hy]
  have es : IntKind.i64.wrap ((u : Int) + (s : Nat)) = ((u + s : Nat) : Int) := wrap_i64 (n := u + s) (by omega)
  repeat (first
    | refine AOps.op rfl rfl ?_ | refine AOps.load rfl rfl rfl rfl rfl ?_ | refine AOps.nil ?_ | refine AWP.seq ?_ | refine AWP.region ?_ | refine AWP.block ?_ | refine AWP.skip ?_ | refine AWP.exit ?_ | refine AWP.scope ?_ | refine AWP.label ?_)
  refine AWP.cond rfl (fun h => ?_) (fun h => ?_)
  · have he : e ≠ 0 := by simp at h; omega
    rw [if_pos he]
    repeat (first
    | refine AOps.op rfl rfl ?_ | refine AOps.load rfl rfl rfl rfl rfl ?_ | refine AOps.nil ?_ | refine AWP.seq ?_ | refine AWP.region ?_ | refine AWP.block ?_ | refine AWP.skip ?_ | refine AWP.exit ?_ | refine AWP.scope ?_ | refine AWP.label ?_)
    refine AWP.ret ?_
    exact ⟨_, _, rfl, rfl, Heap.le_refl _, rfl, hh, Heap.del_le _ _⟩
  have he : ¬ e ≠ 0 := by simp at h; omega
  rw [if_neg he]
  repeat (first
    | refine AOps.op rfl rfl ?_ | refine AOps.load rfl rfl rfl rfl rfl ?_ | refine AOps.nil ?_ | refine AWP.seq ?_ | refine AWP.region ?_ | refine AWP.block ?_ | refine AWP.skip ?_ | refine AWP.exit ?_ | refine AWP.scope ?_ | refine AWP.label ?_)
  refine AWP.cond rfl (fun h => ?_) (fun h => ?_)
  · have h64 : n > 64 := by simp at h; omega
    rw [if_pos h64]
    repeat (first
    | refine AOps.op rfl rfl ?_ | refine AOps.load rfl rfl rfl rfl rfl ?_ | refine AOps.nil ?_ | refine AWP.seq ?_ | refine AWP.region ?_ | refine AWP.block ?_ | refine AWP.skip ?_ | refine AWP.exit ?_ | refine AWP.scope ?_ | refine AWP.label ?_)
    refine AWP.ret ?_
    exact ⟨_, _, rfl, rfl, Heap.le_refl _, rfl, hh, Heap.del_le _ _⟩
  have h64 : ¬ n > 64 := by simp at h; omega
  rw [if_neg h64]
  have en : IntKind.i64.wrap (n : Int) = (n : Int) := wrap_i64 (by omega)
  have elen := encB_length b
  have e9 : IntKind.i64.wrap (((u + s : Nat) : Int) + (n : Nat)) = ((u + s + n : Nat) : Int) := wrap_i64 (n := u + s + n) (by omega)
  repeat (first
    | refine AOps.op rfl rfl ?_ | refine AOps.load rfl rfl rfl rfl rfl ?_ | refine AOps.nil ?_ | refine AWP.seq ?_ | refine AWP.region ?_ | refine AWP.block ?_ | refine AWP.skip ?_ | refine AWP.exit ?_ | refine AWP.scope ?_ | refine AWP.label ?_)
  rw [es, en, e9, elen]
  refine AWP.cond rfl (fun h => ?_) (fun h => ?_)
  · have hs : b.length - (u + s) < n := by simp at h; omega
    rw [if_pos hs]
    repeat (first
    | refine AOps.op rfl rfl ?_ | refine AOps.load rfl rfl rfl rfl rfl ?_ | refine AOps.nil ?_ | refine AWP.seq ?_ | refine AWP.region ?_ | refine AWP.block ?_ | refine AWP.skip ?_ | refine AWP.exit ?_ | refine AWP.scope ?_ | refine AWP.label ?_)
    refine AWP.ret ?_
    exact ⟨_, _, rfl, rfl, Heap.le_refl _, rfl, hh, Heap.del_le _ _⟩
  have hs : ¬ b.length - (u + s) < n := by simp at h; omega
  rw [if_neg hs]
  repeat (first
    | refine AOps.op rfl rfl ?_ | refine AOps.load rfl rfl rfl rfl rfl ?_ | refine AOps.nil ?_ | refine AWP.seq ?_ | refine AWP.region ?_ | refine AWP.block ?_ | refine AWP.skip ?_ | refine AWP.exit ?_ | refine AWP.scope ?_ | refine AWP.label ?_)
  refine AOps.step rfl rfl (cutB (u + s) (u + s + n) rfl rfl (congrArg (fun x => some (AV.int .i64 x)) (by rw [en]; exact e9)) (by omega) (by omega) ?_)
  refine AOps.toStr rfl rfl rfl rfl rfl rfl rfl rfl ?_
  generalize hk : (b.take (u + s + n)).drop (u + s) = k at *
  repeat (first
    | refine AOps.op rfl rfl ?_ | refine AOps.load rfl rfl rfl rfl rfl ?_ | refine AOps.nil ?_ | refine AWP.seq ?_ | refine AWP.region ?_ | refine AWP.block ?_ | refine AWP.skip ?_ | refine AWP.exit ?_ | refine AWP.scope ?_ | refine AWP.label ?_)
  refine AOps.call rfl rfl rfl ((R5At_spec r S k H hh).mono ?_)
  rintro _ H ⟨rfl, rfl⟩
  repeat (first
    | refine AOps.op rfl rfl ?_ | refine AOps.load rfl rfl rfl rfl rfl ?_ | refine AOps.nil ?_ | refine AWP.seq ?_ | refine AWP.region ?_ | refine AWP.block ?_ | refine AWP.skip ?_ | refine AWP.exit ?_ | refine AWP.scope ?_ | refine AWP.label ?_)
  cases ek : S.d.at k with
  | some i =>
    have ei : atN S.d k = (i : Int) := by simp [atN, ek]
    rw [ei]
    refine AWP.cond rfl (fun _ => ?_) (fun h => by simp at h)
    repeat (first
    | refine AOps.op rfl rfl ?_ | refine AOps.load rfl rfl rfl rfl rfl ?_ | refine AOps.nil ?_ | refine AWP.seq ?_ | refine AWP.region ?_ | refine AWP.block ?_ | refine AWP.skip ?_ | refine AWP.exit ?_ | refine AWP.scope ?_ | refine AWP.label ?_)
    refine AWP.ret ?_
    exact ⟨_, _, rfl, rfl, Heap.le_refl _, rfl, hh, Heap.del_le _ _⟩
  | none =>
    have ei : atN S.d k = -1 := by simp [atN, ek]
    rw [ei]
    refine AWP.cond rfl (fun h => by simp at h) (fun _ => ?_)
    repeat (first
    | refine AOps.op rfl rfl ?_ | refine AOps.load rfl rfl rfl rfl rfl ?_ | refine AOps.nil ?_ | refine AWP.seq ?_ | refine AWP.region ?_ | refine AWP.block ?_ | refine AWP.skip ?_ | refine AWP.exit ?_ | refine AWP.scope ?_ | refine AWP.label ?_)
    refine AOps.call rfl rfl rfl ((R5comes_spec r S k H hh ek hnow).mono ?_)
    rintro _ H2 ⟨k1, k2⟩
    repeat (first
    | refine AOps.op rfl rfl ?_ | refine AOps.load rfl rfl rfl rfl rfl ?_ | refine AOps.nil ?_ | refine AWP.seq ?_ | refine AWP.region ?_ | refine AWP.block ?_ | refine AWP.skip ?_ | refine AWP.exit ?_ | refine AWP.scope ?_ | refine AWP.label ?_)
    refine AWP.ret ?_
    refine ⟨_, _, rfl, rfl, Heap.le_refl _, ?_, k1, k2⟩
    show AV.tuple [_, .int .i64 (IntKind.i64.wrap (((u + s : Nat) : Int) + IntKind.i64.wrap (n : Nat))), _] = _
    rw [en, e9]; rfl
end Go.Proofs.Ytlbnhokhhangdaa

/- The document's transactions: may one be? Are two the same? -/
namespace Go.Proofs.Ytlbnhokhhangdaa
open Go Go.Am Go.Pk Go.Lib
set_option linter.unusedVariables false
set_option linter.unusedSimpArgs false
set_option maxRecDepth 10000
attribute [local irreducible] AOps AWP DRun ACalls

theorem any_take {α : Type} {l : List α} {p : α → Bool} {i : Nat} {x : α} (hx : l[i]? = some x) (h : (l.take i).any p = false) (hp : p x = false) : (l.take (i + 1)).any p = false := by
  rw [List.take_add_one, hx, List.any_append, h]
  simp [hp]

set_option maxHeartbeats 1000000 in
theorem R6Check_spec (t : Txn) (tag : Tag) (hl : t.writes.length < 2 ^ 40) (H : Heap) : ACalls Q.prog 18 [tx t tag] H fun r H' => r = .int .i64 (tcheck t : Nat) ∧ H' = H := by
  obtain ⟨o, s, c, ws⟩ := t
  simp only at hl
  have hwl := wr_len ws
  refine ACalls.body (N := 87) Try.func18 rfl rfl rfl rfl ?_
  repeat (first | refine AOps.op rfl rfl ?_ | refine AOps.load rfl rfl rfl rfl rfl ?_)
  refine AWP.seq (AWP.region ?_)
  refine AOps.boxL 0 rfl rfl rfl rfl rfl ?_
  repeat (first
    | refine AOps.op rfl rfl ?_ | refine AOps.load rfl rfl rfl rfl rfl ?_ | refine AOps.nil ?_ | refine AWP.seq ?_ | refine AWP.region ?_ | refine AWP.block ?_ | refine AWP.skip ?_ | refine AWP.exit ?_ | refine AWP.scope ?_ | refine AWP.label ?_)
  refine AOps.or (j := 3) (y := decide (o > 2)) [_, _, _] rfl rfl rfl rfl rfl rfl rfl (fun hb => ?_) ?_
  · repeat (first | refine AOps.unguard rfl rfl (by assumption) ?_ | refine AOps.op rfl rfl ?_ | refine AOps.load rfl rfl rfl rfl rfl ?_)
    exact AOps.nil (GuardEnd.of 3 rfl rfl rfl rfl rfl)
  repeat (first
    | refine AOps.op rfl rfl ?_ | refine AOps.load rfl rfl rfl rfl rfl ?_ | refine AOps.nil ?_ | refine AWP.seq ?_ | refine AWP.region ?_ | refine AWP.block ?_ | refine AWP.skip ?_ | refine AWP.exit ?_ | refine AWP.scope ?_ | refine AWP.label ?_)
  refine AWP.cond rfl (fun h => ?_) (fun h => ?_)
  · have h : o < 0 ∨ 2 < o := by simp at h; omega
    repeat (first
    | refine AOps.op rfl rfl ?_ | refine AOps.load rfl rfl rfl rfl rfl ?_ | refine AOps.nil ?_ | refine AWP.seq ?_ | refine AWP.region ?_ | refine AWP.block ?_ | refine AWP.skip ?_ | refine AWP.exit ?_ | refine AWP.scope ?_ | refine AWP.label ?_)
    refine AWP.ret ?_
    refine ⟨_, _, rfl, rfl, Heap.le_refl _, ?_, rfl⟩
    simp only [tcheck, if_pos h]; rfl
  have h0 : ¬ (o < 0 ∨ 2 < o) := by simp at h; omega
  repeat (first
    | refine AOps.op rfl rfl ?_ | refine AOps.load rfl rfl rfl rfl rfl ?_ | refine AOps.nil ?_ | refine AWP.seq ?_ | refine AWP.region ?_ | refine AWP.block ?_ | refine AWP.skip ?_ | refine AWP.exit ?_ | refine AWP.scope ?_ | refine AWP.label ?_)
  refine AOps.or (j := 3) (y := decide (s > 4611686018427387903)) [_, _, _] rfl rfl rfl rfl rfl rfl rfl (fun hb => ?_) ?_
  · repeat (first | refine AOps.unguard rfl rfl (by assumption) ?_ | refine AOps.op rfl rfl ?_ | refine AOps.load rfl rfl rfl rfl rfl ?_)
    exact AOps.nil (GuardEnd.of 3 rfl rfl rfl rfl rfl)
  repeat (first
    | refine AOps.op rfl rfl ?_ | refine AOps.load rfl rfl rfl rfl rfl ?_ | refine AOps.nil ?_ | refine AWP.seq ?_ | refine AWP.region ?_ | refine AWP.block ?_ | refine AWP.skip ?_ | refine AWP.exit ?_ | refine AWP.scope ?_ | refine AWP.label ?_)
  refine AOps.or (j := 8) (y := !c.ok) [_, _, _, _] rfl rfl rfl rfl rfl rfl rfl (fun hb => ?_) ?_
  · repeat (first | refine AOps.unguard rfl rfl (by assumption) ?_ | refine AOps.op rfl rfl ?_ | refine AOps.load rfl rfl rfl rfl rfl ?_)
    refine AOps.call rfl rfl rfl ((R4Right_spec c H).mono ?_)
    rintro _ H ⟨rfl, rfl⟩
    repeat (first | refine AOps.unguard rfl rfl (by assumption) ?_ | refine AOps.op rfl rfl ?_ | refine AOps.load rfl rfl rfl rfl rfl ?_)
    exact AOps.nil (GuardEnd.of 4 rfl rfl rfl rfl rfl)
  repeat (first
    | refine AOps.op rfl rfl ?_ | refine AOps.load rfl rfl rfl rfl rfl ?_ | refine AOps.nil ?_ | refine AWP.seq ?_ | refine AWP.region ?_ | refine AWP.block ?_ | refine AWP.skip ?_ | refine AWP.exit ?_ | refine AWP.scope ?_ | refine AWP.label ?_)
  refine AWP.cond rfl (fun h => ?_) (fun h => ?_)
  · have h : (s < 1 ∨ 4611686018427387903 < s) ∨ c.ok = false := by simpa using h
    repeat (first
    | refine AOps.op rfl rfl ?_ | refine AOps.load rfl rfl rfl rfl rfl ?_ | refine AOps.nil ?_ | refine AWP.seq ?_ | refine AWP.region ?_ | refine AWP.block ?_ | refine AWP.skip ?_ | refine AWP.exit ?_ | refine AWP.scope ?_ | refine AWP.label ?_)
    refine AWP.ret ?_
    refine ⟨_, _, rfl, rfl, Heap.le_refl _, ?_, rfl⟩
    simp only [tcheck, if_neg h0, if_pos h]; rfl
  have h1 : ¬ ((s < 1 ∨ 4611686018427387903 < s) ∨ c.ok = false) := by intro q; simp at h; rcases q with q | q; omega; simp [q] at h
  have hc : c.ok = true := by
    cases e : c.ok with
    | true => rfl
    | false => exact absurd (.inr e) h1
  obtain ⟨c1, c2, c3⟩ := (ok_iff c).1 hc
  rcases (by omega : o = 0 ∨ o = 1 ∨ o = 2) with rfl | rfl | rfl
  · have hg : c.get 0 = c.a := rfl
    have es : IntKind.i64.wrap (c.a + 1) = c.a + 1 := wrap_i64' (by omega) (by omega)
    repeat (first
    | refine AOps.op rfl rfl ?_ | refine AOps.load rfl rfl rfl rfl rfl ?_ | refine AOps.nil ?_ | refine AWP.seq ?_ | refine AWP.region ?_ | refine AWP.block ?_ | refine AWP.skip ?_ | refine AWP.exit ?_ | refine AWP.scope ?_ | refine AWP.label ?_)
    refine AWP.draw [[], [0], [], [0, 1, 2], [0, 1, 2, 3], [0, 1, 2, 3, 4], [], [6], [0, 1, 2, 3, 4, 5, 6, 7]] [(0, .pure), (1, .read), (2, .pure), (3, .pure), (4, .read), (5, .pure), (6, .pure), (7, .read), (8, .pure)] rfl ?_
    repeat (first | refine DRun.op rfl rfl rfl ?_ | refine DRun.loadI rfl rfl rfl rfl rfl ?_ | refine DRun.load rfl rfl rfl rfl rfl rfl ?_ | refine DRun.nil ?_)
    repeat (first
    | refine AOps.op rfl rfl ?_ | refine AOps.load rfl rfl rfl rfl rfl ?_ | refine AOps.nil ?_ | refine AWP.seq ?_ | refine AWP.region ?_ | refine AWP.block ?_ | refine AWP.skip ?_ | refine AWP.exit ?_ | refine AWP.scope ?_ | refine AWP.label ?_)
    rw [es]
    refine AWP.cond rfl (fun h => ?_) (fun h => ?_)
    · have h : c.get 0 ≠ s - 1 := by rw [hg]; simp at h; omega
      repeat (first
    | refine AOps.op rfl rfl ?_ | refine AOps.load rfl rfl rfl rfl rfl ?_ | refine AOps.nil ?_ | refine AWP.seq ?_ | refine AWP.region ?_ | refine AWP.block ?_ | refine AWP.skip ?_ | refine AWP.exit ?_ | refine AWP.scope ?_ | refine AWP.label ?_)
      refine AWP.ret ?_
      refine ⟨_, _, rfl, rfl, Heap.le_refl _, ?_, rfl⟩
      simp only [tcheck, if_neg h0, if_neg h1, if_pos h]; rfl
    have h2 : ¬ c.get 0 ≠ s - 1 := by rw [hg]; simp at h; omega
    repeat (first
    | refine AOps.op rfl rfl ?_ | refine AOps.load rfl rfl rfl rfl rfl ?_ | refine AOps.nil ?_ | refine AWP.seq ?_ | refine AWP.region ?_ | refine AWP.block ?_ | refine AWP.skip ?_ | refine AWP.exit ?_ | refine AWP.scope ?_ | refine AWP.label ?_)
    refine AWP.cond rfl (fun h => ?_) (fun h => ?_)
    · have h : 16 < ws.length ∨ ws.any Wr.long = true := by left; simp [wr_len] at h; omega
      repeat (first
    | refine AOps.op rfl rfl ?_ | refine AOps.load rfl rfl rfl rfl rfl ?_ | refine AOps.nil ?_ | refine AWP.seq ?_ | refine AWP.region ?_ | refine AWP.block ?_ | refine AWP.skip ?_ | refine AWP.exit ?_ | refine AWP.scope ?_ | refine AWP.label ?_)
      refine AWP.ret ?_
      refine ⟨_, _, rfl, rfl, Heap.le_refl _, ?_, rfl⟩
      simp only [tcheck, if_neg h0, if_neg h1, if_neg h2, if_pos h]; rfl
    have h16 : ws.length ≤ 16 := by simp [wr_len] at h; omega
    repeat (first
    | refine AOps.op rfl rfl ?_ | refine AOps.load rfl rfl rfl rfl rfl ?_ | refine AOps.nil ?_ | refine AWP.seq ?_ | refine AWP.region ?_ | refine AWP.skip ?_ | refine AWP.exit ?_ | refine AWP.scope ?_ | refine AWP.label ?_)
    refine AWP.thnA (α := Unit) (fun _ => ws.any Wr.long = false) (fun _ => [(1, .lptr 0 0)]) (fun _ => [[.int .i64 0, .int .i64 s, .int .i64 c.a, .int .i64 c.b, .int .i64 c.c, .sl (ws.map wr) tag]]) (fun _ => H) ?_ ?_
    · refine AWP.block ?_
      refine AWP.loopA (α := Nat) (fun i => i ≤ ws.length ∧ (ws.take i).any Wr.long = false) (fun i => ws.length - i)
        (fun i => [(1, .lptr 0 0), (3, .int .i64 i)]) (fun _ => [[.int .i64 0, .int .i64 s, .int .i64 c.a, .int .i64 c.b, .int .i64 c.c, .sl (ws.map wr) tag]]) (fun _ => H) 0 ⟨by simp, by simp⟩ ⟨rfl, rfl, trivial⟩ rfl (Heap.le_refl _) ?_
      rintro i ⟨i1, i2⟩
      repeat (first
    | refine AOps.op rfl rfl ?_ | refine AOps.load rfl rfl rfl rfl rfl ?_ | refine AOps.nil ?_ | refine AWP.seq ?_ | refine AWP.region ?_ | refine AWP.block ?_ | refine AWP.skip ?_ | refine AWP.exit ?_ | refine AWP.scope ?_ | refine AWP.label ?_)
      refine AWP.cond rfl (fun h => ?_) (fun h => ?_)
      · have h : i < ws.length := by simp [wr_len] at h; omega
        have ei : IntKind.i64.wrap ((i : Int) + 1) = ((i + 1 : Nat) : Int) := wrap_i64 (n := i + 1) (by omega)
        obtain ⟨w, hw⟩ : ∃ w, ws[i]? = some w := ⟨ws[i], List.getElem?_eq_getElem h⟩
        repeat (first
    | refine AOps.op rfl rfl ?_ | refine AOps.load rfl rfl rfl rfl rfl ?_ | refine AOps.nil ?_ | refine AWP.seq ?_ | refine AWP.region ?_ | refine AWP.block ?_ | refine AWP.skip ?_ | refine AWP.exit ?_ | refine AWP.scope ?_ | refine AWP.label ?_)
        refine AOps.indexSl rfl rfl rfl rfl rfl rfl (by omega) (getD_wr hw) rfl rfl ?_
        repeat (first
    | refine AOps.op rfl rfl ?_ | refine AOps.load rfl rfl rfl rfl rfl ?_ | refine AOps.nil ?_ | refine AWP.seq ?_ | refine AWP.region ?_ | refine AWP.block ?_ | refine AWP.skip ?_ | refine AWP.exit ?_ | refine AWP.scope ?_ | refine AWP.label ?_)
        refine AOps.or (j := 8) (y := decide ((w.value.length : Int) > 256)) [_, _, _, _, _, _, _, _] rfl rfl rfl rfl rfl rfl rfl (fun hb => ?_) ?_
        · repeat (first | refine AOps.unguard rfl rfl (by assumption) ?_ | refine AOps.op rfl rfl ?_ | refine AOps.load rfl rfl rfl rfl rfl ?_)
          refine AOps.indexSl rfl rfl rfl rfl rfl rfl (by omega) (getD_wr hw) rfl rfl ?_
          repeat (first | refine AOps.unguard rfl rfl (by assumption) ?_ | refine AOps.op rfl rfl ?_ | refine AOps.load rfl rfl rfl rfl rfl ?_)
          exact AOps.nil (GuardEnd.of 8 rfl rfl rfl rfl rfl)
        repeat (first
    | refine AOps.op rfl rfl ?_ | refine AOps.load rfl rfl rfl rfl rfl ?_ | refine AOps.nil ?_ | refine AWP.seq ?_ | refine AWP.region ?_ | refine AWP.block ?_ | refine AWP.skip ?_ | refine AWP.exit ?_ | refine AWP.scope ?_ | refine AWP.label ?_)
        have hlw : (decide ((w.key.length : Int) > 64) || decide ((w.value.length : Int) > 256)) = w.long := by
          rw [Bool.eq_iff_iff]; simp [Wr.long]; omega
        refine AWP.cond rfl (fun h => ?_) (fun h => ?_)
        · have h : 16 < ws.length ∨ ws.any Wr.long = true := .inr (List.any_eq_true.2 ⟨w, List.mem_of_getElem? hw, by rw [← hlw]; exact h⟩)
          repeat (first
    | refine AOps.op rfl rfl ?_ | refine AOps.load rfl rfl rfl rfl rfl ?_ | refine AOps.nil ?_ | refine AWP.seq ?_ | refine AWP.region ?_ | refine AWP.block ?_ | refine AWP.skip ?_ | refine AWP.exit ?_ | refine AWP.scope ?_ | refine AWP.label ?_)
          refine AWP.ret ?_
          refine ⟨_, _, rfl, rfl, Heap.le_refl _, ?_, rfl⟩
          simp only [tcheck, if_neg h0, if_neg h1, if_neg h2, if_pos h]; rfl
        · repeat (first
    | refine AOps.op rfl rfl ?_ | refine AOps.load rfl rfl rfl rfl rfl ?_ | refine AOps.nil ?_ | refine AWP.seq ?_ | refine AWP.region ?_ | refine AWP.block ?_ | refine AWP.skip ?_ | refine AWP.exit ?_ | refine AWP.scope ?_ | refine AWP.label ?_)
          exact ⟨i + 1, by omega, ⟨by omega, any_take hw i2 (by rw [← hlw]; exact h)⟩, ⟨rfl, congrArg (fun x => some (AV.int .i64 x)) ei, trivial⟩, rfl, Heap.le_refl _⟩
      · have h : ws.length ≤ i := by simp [wr_len] at h; omega
        rw [List.take_of_length_le h] at i2
        repeat (first
    | refine AOps.op rfl rfl ?_ | refine AOps.load rfl rfl rfl rfl rfl ?_ | refine AOps.nil ?_ | refine AWP.seq ?_ | refine AWP.region ?_ | refine AWP.block ?_ | refine AWP.skip ?_ | refine AWP.exit ?_ | refine AWP.scope ?_ | refine AWP.label ?_)
        exact ⟨(), i2, ⟨rfl, trivial⟩, rfl, Heap.le_refl _⟩
    intro _ hlong
    have h3 : ¬ (16 < ws.length ∨ ws.any Wr.long = true) := by rw [hlong]; simp; omega
    repeat (first
    | refine AOps.op rfl rfl ?_ | refine AOps.load rfl rfl rfl rfl rfl ?_ | refine AOps.nil ?_ | refine AWP.seq ?_ | refine AWP.region ?_ | refine AWP.skip ?_ | refine AWP.exit ?_ | refine AWP.scope ?_ | refine AWP.label ?_)
    refine AWP.thnA (α := Unit) (fun _ => ws.any Wr.odd = false) (fun _ => [(1, .lptr 0 0)]) (fun _ => [[.int .i64 0, .int .i64 s, .int .i64 c.a, .int .i64 c.b, .int .i64 c.c, .sl (ws.map wr) tag]]) (fun _ => H) ?_ ?_
    · refine AWP.block ?_
      refine AWP.loopA (α := Nat) (fun i => i ≤ ws.length ∧ (ws.take i).any Wr.odd = false) (fun i => ws.length - i)
        (fun i => [(1, .lptr 0 0), (4, .int .i64 i)]) (fun _ => [[.int .i64 0, .int .i64 s, .int .i64 c.a, .int .i64 c.b, .int .i64 c.c, .sl (ws.map wr) tag]]) (fun _ => H) 0 ⟨by simp, by simp⟩ ⟨rfl, rfl, trivial⟩ rfl (Heap.le_refl _) ?_
      rintro i ⟨i1, i2⟩
      repeat (first
    | refine AOps.op rfl rfl ?_ | refine AOps.load rfl rfl rfl rfl rfl ?_ | refine AOps.nil ?_ | refine AWP.seq ?_ | refine AWP.region ?_ | refine AWP.block ?_ | refine AWP.skip ?_ | refine AWP.exit ?_ | refine AWP.scope ?_ | refine AWP.label ?_)
      refine AWP.cond rfl (fun h => ?_) (fun h => ?_)
      · have h : i < ws.length := by simp [wr_len] at h; omega
        have ei : IntKind.i64.wrap ((i : Int) + 1) = ((i + 1 : Nat) : Int) := wrap_i64 (n := i + 1) (by omega)
        obtain ⟨w, hw⟩ : ∃ w, ws[i]? = some w := ⟨ws[i], List.getElem?_eq_getElem h⟩
        repeat (first
    | refine AOps.op rfl rfl ?_ | refine AOps.load rfl rfl rfl rfl rfl ?_ | refine AOps.nil ?_ | refine AWP.seq ?_ | refine AWP.region ?_ | refine AWP.block ?_ | refine AWP.skip ?_ | refine AWP.exit ?_ | refine AWP.scope ?_ | refine AWP.label ?_)
        refine AOps.indexSl rfl rfl rfl rfl rfl rfl (by omega) (getD_wr hw) rfl rfl ?_
        repeat (first
    | refine AOps.op rfl rfl ?_ | refine AOps.load rfl rfl rfl rfl rfl ?_ | refine AOps.nil ?_ | refine AWP.seq ?_ | refine AWP.region ?_ | refine AWP.block ?_ | refine AWP.skip ?_ | refine AWP.exit ?_ | refine AWP.scope ?_ | refine AWP.label ?_)
        refine AOps.and (j := 6) (y := !(w.value == [])) [_, _, _, _, _, _, _] rfl rfl rfl rfl rfl rfl rfl (fun hb => ?_) ?_
        · repeat (first | refine AOps.unguard rfl rfl (by assumption) ?_ | refine AOps.op rfl rfl ?_ | refine AOps.load rfl rfl rfl rfl rfl ?_)
          refine AOps.indexSl rfl rfl rfl rfl rfl rfl (by omega) (getD_wr hw) rfl rfl ?_
          repeat (first | refine AOps.unguard rfl rfl (by assumption) ?_ | refine AOps.op rfl rfl ?_ | refine AOps.load rfl rfl rfl rfl rfl ?_)
          exact AOps.nil (GuardEnd.of 7 rfl rfl rfl rfl rfl)
        repeat (first
    | refine AOps.op rfl rfl ?_ | refine AOps.load rfl rfl rfl rfl rfl ?_ | refine AOps.nil ?_ | refine AWP.seq ?_ | refine AWP.region ?_ | refine AWP.block ?_ | refine AWP.skip ?_ | refine AWP.exit ?_ | refine AWP.scope ?_ | refine AWP.label ?_)
        refine AWP.cond rfl (fun h => ?_) (fun h => ?_)
        · have h : ws.any Wr.odd = true := List.any_eq_true.2 ⟨w, List.mem_of_getElem? hw, h⟩
          repeat (first
    | refine AOps.op rfl rfl ?_ | refine AOps.load rfl rfl rfl rfl rfl ?_ | refine AOps.nil ?_ | refine AWP.seq ?_ | refine AWP.region ?_ | refine AWP.block ?_ | refine AWP.skip ?_ | refine AWP.exit ?_ | refine AWP.scope ?_ | refine AWP.label ?_)
          refine AWP.ret ?_
          refine ⟨_, _, rfl, rfl, Heap.le_refl _, ?_, rfl⟩
          simp only [tcheck, if_neg h0, if_neg h1, if_neg h2, if_neg h3, if_pos h]; rfl
        · repeat (first
    | refine AOps.op rfl rfl ?_ | refine AOps.load rfl rfl rfl rfl rfl ?_ | refine AOps.nil ?_ | refine AWP.seq ?_ | refine AWP.region ?_ | refine AWP.block ?_ | refine AWP.skip ?_ | refine AWP.exit ?_ | refine AWP.scope ?_ | refine AWP.label ?_)
          exact ⟨i + 1, by omega, ⟨by omega, any_take hw i2 h⟩, ⟨rfl, congrArg (fun x => some (AV.int .i64 x)) ei, trivial⟩, rfl, Heap.le_refl _⟩
      · have h : ws.length ≤ i := by simp [wr_len] at h; omega
        rw [List.take_of_length_le h] at i2
        repeat (first
    | refine AOps.op rfl rfl ?_ | refine AOps.load rfl rfl rfl rfl rfl ?_ | refine AOps.nil ?_ | refine AWP.seq ?_ | refine AWP.region ?_ | refine AWP.block ?_ | refine AWP.skip ?_ | refine AWP.exit ?_ | refine AWP.scope ?_ | refine AWP.label ?_)
        exact ⟨(), i2, ⟨rfl, trivial⟩, rfl, Heap.le_refl _⟩
    intro _ hodd
    repeat (first
    | refine AOps.op rfl rfl ?_ | refine AOps.load rfl rfl rfl rfl rfl ?_ | refine AOps.nil ?_ | refine AWP.seq ?_ | refine AWP.region ?_ | refine AWP.block ?_ | refine AWP.skip ?_ | refine AWP.exit ?_ | refine AWP.scope ?_ | refine AWP.label ?_)
    refine AWP.ret ?_
    refine ⟨_, _, rfl, rfl, Heap.le_refl _, ?_, rfl⟩
    have h : ¬ ws.any Wr.odd = true := by rw [hodd]; simp
    simp only [tcheck, if_neg h0, if_neg h1, if_neg h2, if_neg h3, if_neg h]; rfl
  · have hg : c.get 1 = c.b := rfl
    have es : IntKind.i64.wrap (c.b + 1) = c.b + 1 := wrap_i64' (by omega) (by omega)
    repeat (first
    | refine AOps.op rfl rfl ?_ | refine AOps.load rfl rfl rfl rfl rfl ?_ | refine AOps.nil ?_ | refine AWP.seq ?_ | refine AWP.region ?_ | refine AWP.block ?_ | refine AWP.skip ?_ | refine AWP.exit ?_ | refine AWP.scope ?_ | refine AWP.label ?_)
    refine AWP.draw [[], [0], [], [0, 1, 2], [0, 1, 2, 3], [0, 1, 2, 3, 4], [], [6], [0, 1, 2, 3, 4, 5, 6, 7]] [(0, .pure), (1, .read), (2, .pure), (3, .pure), (4, .read), (5, .pure), (6, .pure), (7, .read), (8, .pure)] rfl ?_
    repeat (first | refine DRun.op rfl rfl rfl ?_ | refine DRun.loadI rfl rfl rfl rfl rfl ?_ | refine DRun.load rfl rfl rfl rfl rfl rfl ?_ | refine DRun.nil ?_)
    repeat (first
    | refine AOps.op rfl rfl ?_ | refine AOps.load rfl rfl rfl rfl rfl ?_ | refine AOps.nil ?_ | refine AWP.seq ?_ | refine AWP.region ?_ | refine AWP.block ?_ | refine AWP.skip ?_ | refine AWP.exit ?_ | refine AWP.scope ?_ | refine AWP.label ?_)
    rw [es]
    refine AWP.cond rfl (fun h => ?_) (fun h => ?_)
    · have h : c.get 1 ≠ s - 1 := by rw [hg]; simp at h; omega
      repeat (first
    | refine AOps.op rfl rfl ?_ | refine AOps.load rfl rfl rfl rfl rfl ?_ | refine AOps.nil ?_ | refine AWP.seq ?_ | refine AWP.region ?_ | refine AWP.block ?_ | refine AWP.skip ?_ | refine AWP.exit ?_ | refine AWP.scope ?_ | refine AWP.label ?_)
      refine AWP.ret ?_
      refine ⟨_, _, rfl, rfl, Heap.le_refl _, ?_, rfl⟩
      simp only [tcheck, if_neg h0, if_neg h1, if_pos h]; rfl
    have h2 : ¬ c.get 1 ≠ s - 1 := by rw [hg]; simp at h; omega
    repeat (first
    | refine AOps.op rfl rfl ?_ | refine AOps.load rfl rfl rfl rfl rfl ?_ | refine AOps.nil ?_ | refine AWP.seq ?_ | refine AWP.region ?_ | refine AWP.block ?_ | refine AWP.skip ?_ | refine AWP.exit ?_ | refine AWP.scope ?_ | refine AWP.label ?_)
    refine AWP.cond rfl (fun h => ?_) (fun h => ?_)
    · have h : 16 < ws.length ∨ ws.any Wr.long = true := by left; simp [wr_len] at h; omega
      repeat (first
    | refine AOps.op rfl rfl ?_ | refine AOps.load rfl rfl rfl rfl rfl ?_ | refine AOps.nil ?_ | refine AWP.seq ?_ | refine AWP.region ?_ | refine AWP.block ?_ | refine AWP.skip ?_ | refine AWP.exit ?_ | refine AWP.scope ?_ | refine AWP.label ?_)
      refine AWP.ret ?_
      refine ⟨_, _, rfl, rfl, Heap.le_refl _, ?_, rfl⟩
      simp only [tcheck, if_neg h0, if_neg h1, if_neg h2, if_pos h]; rfl
    have h16 : ws.length ≤ 16 := by simp [wr_len] at h; omega
    repeat (first
    | refine AOps.op rfl rfl ?_ | refine AOps.load rfl rfl rfl rfl rfl ?_ | refine AOps.nil ?_ | refine AWP.seq ?_ | refine AWP.region ?_ | refine AWP.skip ?_ | refine AWP.exit ?_ | refine AWP.scope ?_ | refine AWP.label ?_)
    refine AWP.thnA (α := Unit) (fun _ => ws.any Wr.long = false) (fun _ => [(1, .lptr 0 0)]) (fun _ => [[.int .i64 1, .int .i64 s, .int .i64 c.a, .int .i64 c.b, .int .i64 c.c, .sl (ws.map wr) tag]]) (fun _ => H) ?_ ?_
    · refine AWP.block ?_
      refine AWP.loopA (α := Nat) (fun i => i ≤ ws.length ∧ (ws.take i).any Wr.long = false) (fun i => ws.length - i)
        (fun i => [(1, .lptr 0 0), (3, .int .i64 i)]) (fun _ => [[.int .i64 1, .int .i64 s, .int .i64 c.a, .int .i64 c.b, .int .i64 c.c, .sl (ws.map wr) tag]]) (fun _ => H) 0 ⟨by simp, by simp⟩ ⟨rfl, rfl, trivial⟩ rfl (Heap.le_refl _) ?_
      rintro i ⟨i1, i2⟩
      repeat (first
    | refine AOps.op rfl rfl ?_ | refine AOps.load rfl rfl rfl rfl rfl ?_ | refine AOps.nil ?_ | refine AWP.seq ?_ | refine AWP.region ?_ | refine AWP.block ?_ | refine AWP.skip ?_ | refine AWP.exit ?_ | refine AWP.scope ?_ | refine AWP.label ?_)
      refine AWP.cond rfl (fun h => ?_) (fun h => ?_)
      · have h : i < ws.length := by simp [wr_len] at h; omega
        have ei : IntKind.i64.wrap ((i : Int) + 1) = ((i + 1 : Nat) : Int) := wrap_i64 (n := i + 1) (by omega)
        obtain ⟨w, hw⟩ : ∃ w, ws[i]? = some w := ⟨ws[i], List.getElem?_eq_getElem h⟩
        repeat (first
    | refine AOps.op rfl rfl ?_ | refine AOps.load rfl rfl rfl rfl rfl ?_ | refine AOps.nil ?_ | refine AWP.seq ?_ | refine AWP.region ?_ | refine AWP.block ?_ | refine AWP.skip ?_ | refine AWP.exit ?_ | refine AWP.scope ?_ | refine AWP.label ?_)
        refine AOps.indexSl rfl rfl rfl rfl rfl rfl (by omega) (getD_wr hw) rfl rfl ?_
        repeat (first
    | refine AOps.op rfl rfl ?_ | refine AOps.load rfl rfl rfl rfl rfl ?_ | refine AOps.nil ?_ | refine AWP.seq ?_ | refine AWP.region ?_ | refine AWP.block ?_ | refine AWP.skip ?_ | refine AWP.exit ?_ | refine AWP.scope ?_ | refine AWP.label ?_)
        refine AOps.or (j := 8) (y := decide ((w.value.length : Int) > 256)) [_, _, _, _, _, _, _, _] rfl rfl rfl rfl rfl rfl rfl (fun hb => ?_) ?_
        · repeat (first | refine AOps.unguard rfl rfl (by assumption) ?_ | refine AOps.op rfl rfl ?_ | refine AOps.load rfl rfl rfl rfl rfl ?_)
          refine AOps.indexSl rfl rfl rfl rfl rfl rfl (by omega) (getD_wr hw) rfl rfl ?_
          repeat (first | refine AOps.unguard rfl rfl (by assumption) ?_ | refine AOps.op rfl rfl ?_ | refine AOps.load rfl rfl rfl rfl rfl ?_)
          exact AOps.nil (GuardEnd.of 8 rfl rfl rfl rfl rfl)
        repeat (first
    | refine AOps.op rfl rfl ?_ | refine AOps.load rfl rfl rfl rfl rfl ?_ | refine AOps.nil ?_ | refine AWP.seq ?_ | refine AWP.region ?_ | refine AWP.block ?_ | refine AWP.skip ?_ | refine AWP.exit ?_ | refine AWP.scope ?_ | refine AWP.label ?_)
        have hlw : (decide ((w.key.length : Int) > 64) || decide ((w.value.length : Int) > 256)) = w.long := by
          rw [Bool.eq_iff_iff]; simp [Wr.long]; omega
        refine AWP.cond rfl (fun h => ?_) (fun h => ?_)
        · have h : 16 < ws.length ∨ ws.any Wr.long = true := .inr (List.any_eq_true.2 ⟨w, List.mem_of_getElem? hw, by rw [← hlw]; exact h⟩)
          repeat (first
    | refine AOps.op rfl rfl ?_ | refine AOps.load rfl rfl rfl rfl rfl ?_ | refine AOps.nil ?_ | refine AWP.seq ?_ | refine AWP.region ?_ | refine AWP.block ?_ | refine AWP.skip ?_ | refine AWP.exit ?_ | refine AWP.scope ?_ | refine AWP.label ?_)
          refine AWP.ret ?_
          refine ⟨_, _, rfl, rfl, Heap.le_refl _, ?_, rfl⟩
          simp only [tcheck, if_neg h0, if_neg h1, if_neg h2, if_pos h]; rfl
        · repeat (first
    | refine AOps.op rfl rfl ?_ | refine AOps.load rfl rfl rfl rfl rfl ?_ | refine AOps.nil ?_ | refine AWP.seq ?_ | refine AWP.region ?_ | refine AWP.block ?_ | refine AWP.skip ?_ | refine AWP.exit ?_ | refine AWP.scope ?_ | refine AWP.label ?_)
          exact ⟨i + 1, by omega, ⟨by omega, any_take hw i2 (by rw [← hlw]; exact h)⟩, ⟨rfl, congrArg (fun x => some (AV.int .i64 x)) ei, trivial⟩, rfl, Heap.le_refl _⟩
      · have h : ws.length ≤ i := by simp [wr_len] at h; omega
        rw [List.take_of_length_le h] at i2
        repeat (first
    | refine AOps.op rfl rfl ?_ | refine AOps.load rfl rfl rfl rfl rfl ?_ | refine AOps.nil ?_ | refine AWP.seq ?_ | refine AWP.region ?_ | refine AWP.block ?_ | refine AWP.skip ?_ | refine AWP.exit ?_ | refine AWP.scope ?_ | refine AWP.label ?_)
        exact ⟨(), i2, ⟨rfl, trivial⟩, rfl, Heap.le_refl _⟩
    intro _ hlong
    have h3 : ¬ (16 < ws.length ∨ ws.any Wr.long = true) := by rw [hlong]; simp; omega
    repeat (first
    | refine AOps.op rfl rfl ?_ | refine AOps.load rfl rfl rfl rfl rfl ?_ | refine AOps.nil ?_ | refine AWP.seq ?_ | refine AWP.region ?_ | refine AWP.skip ?_ | refine AWP.exit ?_ | refine AWP.scope ?_ | refine AWP.label ?_)
    refine AWP.thnA (α := Unit) (fun _ => ws.any Wr.odd = false) (fun _ => [(1, .lptr 0 0)]) (fun _ => [[.int .i64 1, .int .i64 s, .int .i64 c.a, .int .i64 c.b, .int .i64 c.c, .sl (ws.map wr) tag]]) (fun _ => H) ?_ ?_
    · refine AWP.block ?_
      refine AWP.loopA (α := Nat) (fun i => i ≤ ws.length ∧ (ws.take i).any Wr.odd = false) (fun i => ws.length - i)
        (fun i => [(1, .lptr 0 0), (4, .int .i64 i)]) (fun _ => [[.int .i64 1, .int .i64 s, .int .i64 c.a, .int .i64 c.b, .int .i64 c.c, .sl (ws.map wr) tag]]) (fun _ => H) 0 ⟨by simp, by simp⟩ ⟨rfl, rfl, trivial⟩ rfl (Heap.le_refl _) ?_
      rintro i ⟨i1, i2⟩
      repeat (first
    | refine AOps.op rfl rfl ?_ | refine AOps.load rfl rfl rfl rfl rfl ?_ | refine AOps.nil ?_ | refine AWP.seq ?_ | refine AWP.region ?_ | refine AWP.block ?_ | refine AWP.skip ?_ | refine AWP.exit ?_ | refine AWP.scope ?_ | refine AWP.label ?_)
      refine AWP.cond rfl (fun h => ?_) (fun h => ?_)
      · have h : i < ws.length := by simp [wr_len] at h; omega
        have ei : IntKind.i64.wrap ((i : Int) + 1) = ((i + 1 : Nat) : Int) := wrap_i64 (n := i + 1) (by omega)
        obtain ⟨w, hw⟩ : ∃ w, ws[i]? = some w := ⟨ws[i], List.getElem?_eq_getElem h⟩
        repeat (first
    | refine AOps.op rfl rfl ?_ | refine AOps.load rfl rfl rfl rfl rfl ?_ | refine AOps.nil ?_ | refine AWP.seq ?_ | refine AWP.region ?_ | refine AWP.block ?_ | refine AWP.skip ?_ | refine AWP.exit ?_ | refine AWP.scope ?_ | refine AWP.label ?_)
        refine AOps.indexSl rfl rfl rfl rfl rfl rfl (by omega) (getD_wr hw) rfl rfl ?_
        repeat (first
    | refine AOps.op rfl rfl ?_ | refine AOps.load rfl rfl rfl rfl rfl ?_ | refine AOps.nil ?_ | refine AWP.seq ?_ | refine AWP.region ?_ | refine AWP.block ?_ | refine AWP.skip ?_ | refine AWP.exit ?_ | refine AWP.scope ?_ | refine AWP.label ?_)
        refine AOps.and (j := 6) (y := !(w.value == [])) [_, _, _, _, _, _, _] rfl rfl rfl rfl rfl rfl rfl (fun hb => ?_) ?_
        · repeat (first | refine AOps.unguard rfl rfl (by assumption) ?_ | refine AOps.op rfl rfl ?_ | refine AOps.load rfl rfl rfl rfl rfl ?_)
          refine AOps.indexSl rfl rfl rfl rfl rfl rfl (by omega) (getD_wr hw) rfl rfl ?_
          repeat (first | refine AOps.unguard rfl rfl (by assumption) ?_ | refine AOps.op rfl rfl ?_ | refine AOps.load rfl rfl rfl rfl rfl ?_)
          exact AOps.nil (GuardEnd.of 7 rfl rfl rfl rfl rfl)
        repeat (first
    | refine AOps.op rfl rfl ?_ | refine AOps.load rfl rfl rfl rfl rfl ?_ | refine AOps.nil ?_ | refine AWP.seq ?_ | refine AWP.region ?_ | refine AWP.block ?_ | refine AWP.skip ?_ | refine AWP.exit ?_ | refine AWP.scope ?_ | refine AWP.label ?_)
        refine AWP.cond rfl (fun h => ?_) (fun h => ?_)
        · have h : ws.any Wr.odd = true := List.any_eq_true.2 ⟨w, List.mem_of_getElem? hw, h⟩
          repeat (first
    | refine AOps.op rfl rfl ?_ | refine AOps.load rfl rfl rfl rfl rfl ?_ | refine AOps.nil ?_ | refine AWP.seq ?_ | refine AWP.region ?_ | refine AWP.block ?_ | refine AWP.skip ?_ | refine AWP.exit ?_ | refine AWP.scope ?_ | refine AWP.label ?_)
          refine AWP.ret ?_
          refine ⟨_, _, rfl, rfl, Heap.le_refl _, ?_, rfl⟩
          simp only [tcheck, if_neg h0, if_neg h1, if_neg h2, if_neg h3, if_pos h]; rfl
        · repeat (first
    | refine AOps.op rfl rfl ?_ | refine AOps.load rfl rfl rfl rfl rfl ?_ | refine AOps.nil ?_ | refine AWP.seq ?_ | refine AWP.region ?_ | refine AWP.block ?_ | refine AWP.skip ?_ | refine AWP.exit ?_ | refine AWP.scope ?_ | refine AWP.label ?_)
          exact ⟨i + 1, by omega, ⟨by omega, any_take hw i2 h⟩, ⟨rfl, congrArg (fun x => some (AV.int .i64 x)) ei, trivial⟩, rfl, Heap.le_refl _⟩
      · have h : ws.length ≤ i := by simp [wr_len] at h; omega
        rw [List.take_of_length_le h] at i2
        repeat (first
    | refine AOps.op rfl rfl ?_ | refine AOps.load rfl rfl rfl rfl rfl ?_ | refine AOps.nil ?_ | refine AWP.seq ?_ | refine AWP.region ?_ | refine AWP.block ?_ | refine AWP.skip ?_ | refine AWP.exit ?_ | refine AWP.scope ?_ | refine AWP.label ?_)
        exact ⟨(), i2, ⟨rfl, trivial⟩, rfl, Heap.le_refl _⟩
    intro _ hodd
    repeat (first
    | refine AOps.op rfl rfl ?_ | refine AOps.load rfl rfl rfl rfl rfl ?_ | refine AOps.nil ?_ | refine AWP.seq ?_ | refine AWP.region ?_ | refine AWP.block ?_ | refine AWP.skip ?_ | refine AWP.exit ?_ | refine AWP.scope ?_ | refine AWP.label ?_)
    refine AWP.ret ?_
    refine ⟨_, _, rfl, rfl, Heap.le_refl _, ?_, rfl⟩
    have h : ¬ ws.any Wr.odd = true := by rw [hodd]; simp
    simp only [tcheck, if_neg h0, if_neg h1, if_neg h2, if_neg h3, if_neg h]; rfl
  · have hg : c.get 2 = c.c := rfl
    have es : IntKind.i64.wrap (c.c + 1) = c.c + 1 := wrap_i64' (by omega) (by omega)
    repeat (first
    | refine AOps.op rfl rfl ?_ | refine AOps.load rfl rfl rfl rfl rfl ?_ | refine AOps.nil ?_ | refine AWP.seq ?_ | refine AWP.region ?_ | refine AWP.block ?_ | refine AWP.skip ?_ | refine AWP.exit ?_ | refine AWP.scope ?_ | refine AWP.label ?_)
    refine AWP.draw [[], [0], [], [0, 1, 2], [0, 1, 2, 3], [0, 1, 2, 3, 4], [], [6], [0, 1, 2, 3, 4, 5, 6, 7]] [(0, .pure), (1, .read), (2, .pure), (3, .pure), (4, .read), (5, .pure), (6, .pure), (7, .read), (8, .pure)] rfl ?_
    repeat (first | refine DRun.op rfl rfl rfl ?_ | refine DRun.loadI rfl rfl rfl rfl rfl ?_ | refine DRun.load rfl rfl rfl rfl rfl rfl ?_ | refine DRun.nil ?_)
    repeat (first
    | refine AOps.op rfl rfl ?_ | refine AOps.load rfl rfl rfl rfl rfl ?_ | refine AOps.nil ?_ | refine AWP.seq ?_ | refine AWP.region ?_ | refine AWP.block ?_ | refine AWP.skip ?_ | refine AWP.exit ?_ | refine AWP.scope ?_ | refine AWP.label ?_)
    rw [es]
    refine AWP.cond rfl (fun h => ?_) (fun h => ?_)
    · have h : c.get 2 ≠ s - 1 := by rw [hg]; simp at h; omega
      repeat (first
    | refine AOps.op rfl rfl ?_ | refine AOps.load rfl rfl rfl rfl rfl ?_ | refine AOps.nil ?_ | refine AWP.seq ?_ | refine AWP.region ?_ | refine AWP.block ?_ | refine AWP.skip ?_ | refine AWP.exit ?_ | refine AWP.scope ?_ | refine AWP.label ?_)
      refine AWP.ret ?_
      refine ⟨_, _, rfl, rfl, Heap.le_refl _, ?_, rfl⟩
      simp only [tcheck, if_neg h0, if_neg h1, if_pos h]; rfl
    have h2 : ¬ c.get 2 ≠ s - 1 := by rw [hg]; simp at h; omega
    repeat (first
    | refine AOps.op rfl rfl ?_ | refine AOps.load rfl rfl rfl rfl rfl ?_ | refine AOps.nil ?_ | refine AWP.seq ?_ | refine AWP.region ?_ | refine AWP.block ?_ | refine AWP.skip ?_ | refine AWP.exit ?_ | refine AWP.scope ?_ | refine AWP.label ?_)
    refine AWP.cond rfl (fun h => ?_) (fun h => ?_)
    · have h : 16 < ws.length ∨ ws.any Wr.long = true := by left; simp [wr_len] at h; omega
      repeat (first
    | refine AOps.op rfl rfl ?_ | refine AOps.load rfl rfl rfl rfl rfl ?_ | refine AOps.nil ?_ | refine AWP.seq ?_ | refine AWP.region ?_ | refine AWP.block ?_ | refine AWP.skip ?_ | refine AWP.exit ?_ | refine AWP.scope ?_ | refine AWP.label ?_)
      refine AWP.ret ?_
      refine ⟨_, _, rfl, rfl, Heap.le_refl _, ?_, rfl⟩
      simp only [tcheck, if_neg h0, if_neg h1, if_neg h2, if_pos h]; rfl
    have h16 : ws.length ≤ 16 := by simp [wr_len] at h; omega
    repeat (first
    | refine AOps.op rfl rfl ?_ | refine AOps.load rfl rfl rfl rfl rfl ?_ | refine AOps.nil ?_ | refine AWP.seq ?_ | refine AWP.region ?_ | refine AWP.skip ?_ | refine AWP.exit ?_ | refine AWP.scope ?_ | refine AWP.label ?_)
    refine AWP.thnA (α := Unit) (fun _ => ws.any Wr.long = false) (fun _ => [(1, .lptr 0 0)]) (fun _ => [[.int .i64 2, .int .i64 s, .int .i64 c.a, .int .i64 c.b, .int .i64 c.c, .sl (ws.map wr) tag]]) (fun _ => H) ?_ ?_
    · refine AWP.block ?_
      refine AWP.loopA (α := Nat) (fun i => i ≤ ws.length ∧ (ws.take i).any Wr.long = false) (fun i => ws.length - i)
        (fun i => [(1, .lptr 0 0), (3, .int .i64 i)]) (fun _ => [[.int .i64 2, .int .i64 s, .int .i64 c.a, .int .i64 c.b, .int .i64 c.c, .sl (ws.map wr) tag]]) (fun _ => H) 0 ⟨by simp, by simp⟩ ⟨rfl, rfl, trivial⟩ rfl (Heap.le_refl _) ?_
      rintro i ⟨i1, i2⟩
      repeat (first
    | refine AOps.op rfl rfl ?_ | refine AOps.load rfl rfl rfl rfl rfl ?_ | refine AOps.nil ?_ | refine AWP.seq ?_ | refine AWP.region ?_ | refine AWP.block ?_ | refine AWP.skip ?_ | refine AWP.exit ?_ | refine AWP.scope ?_ | refine AWP.label ?_)
      refine AWP.cond rfl (fun h => ?_) (fun h => ?_)
      · have h : i < ws.length := by simp [wr_len] at h; omega
        have ei : IntKind.i64.wrap ((i : Int) + 1) = ((i + 1 : Nat) : Int) := wrap_i64 (n := i + 1) (by omega)
        obtain ⟨w, hw⟩ : ∃ w, ws[i]? = some w := ⟨ws[i], List.getElem?_eq_getElem h⟩
        repeat (first
    | refine AOps.op rfl rfl ?_ | refine AOps.load rfl rfl rfl rfl rfl ?_ | refine AOps.nil ?_ | refine AWP.seq ?_ | refine AWP.region ?_ | refine AWP.block ?_ | refine AWP.skip ?_ | refine AWP.exit ?_ | refine AWP.scope ?_ | refine AWP.label ?_)
        refine AOps.indexSl rfl rfl rfl rfl rfl rfl (by omega) (getD_wr hw) rfl rfl ?_
        repeat (first
    | refine AOps.op rfl rfl ?_ | refine AOps.load rfl rfl rfl rfl rfl ?_ | refine AOps.nil ?_ | refine AWP.seq ?_ | refine AWP.region ?_ | refine AWP.block ?_ | refine AWP.skip ?_ | refine AWP.exit ?_ | refine AWP.scope ?_ | refine AWP.label ?_)
        refine AOps.or (j := 8) (y := decide ((w.value.length : Int) > 256)) [_, _, _, _, _, _, _, _] rfl rfl rfl rfl rfl rfl rfl (fun hb => ?_) ?_
        · repeat (first | refine AOps.unguard rfl rfl (by assumption) ?_ | refine AOps.op rfl rfl ?_ | refine AOps.load rfl rfl rfl rfl rfl ?_)
          refine AOps.indexSl rfl rfl rfl rfl rfl rfl (by omega) (getD_wr hw) rfl rfl ?_
          repeat (first | refine AOps.unguard rfl rfl (by assumption) ?_ | refine AOps.op rfl rfl ?_ | refine AOps.load rfl rfl rfl rfl rfl ?_)
          exact AOps.nil (GuardEnd.of 8 rfl rfl rfl rfl rfl)
        repeat (first
    | refine AOps.op rfl rfl ?_ | refine AOps.load rfl rfl rfl rfl rfl ?_ | refine AOps.nil ?_ | refine AWP.seq ?_ | refine AWP.region ?_ | refine AWP.block ?_ | refine AWP.skip ?_ | refine AWP.exit ?_ | refine AWP.scope ?_ | refine AWP.label ?_)
        have hlw : (decide ((w.key.length : Int) > 64) || decide ((w.value.length : Int) > 256)) = w.long := by
          rw [Bool.eq_iff_iff]; simp [Wr.long]; omega
        refine AWP.cond rfl (fun h => ?_) (fun h => ?_)
        · have h : 16 < ws.length ∨ ws.any Wr.long = true := .inr (List.any_eq_true.2 ⟨w, List.mem_of_getElem? hw, by rw [← hlw]; exact h⟩)
          repeat (first
    | refine AOps.op rfl rfl ?_ | refine AOps.load rfl rfl rfl rfl rfl ?_ | refine AOps.nil ?_ | refine AWP.seq ?_ | refine AWP.region ?_ | refine AWP.block ?_ | refine AWP.skip ?_ | refine AWP.exit ?_ | refine AWP.scope ?_ | refine AWP.label ?_)
          refine AWP.ret ?_
          refine ⟨_, _, rfl, rfl, Heap.le_refl _, ?_, rfl⟩
          simp only [tcheck, if_neg h0, if_neg h1, if_neg h2, if_pos h]; rfl
        · repeat (first
    | refine AOps.op rfl rfl ?_ | refine AOps.load rfl rfl rfl rfl rfl ?_ | refine AOps.nil ?_ | refine AWP.seq ?_ | refine AWP.region ?_ | refine AWP.block ?_ | refine AWP.skip ?_ | refine AWP.exit ?_ | refine AWP.scope ?_ | refine AWP.label ?_)
          exact ⟨i + 1, by omega, ⟨by omega, any_take hw i2 (by rw [← hlw]; exact h)⟩, ⟨rfl, congrArg (fun x => some (AV.int .i64 x)) ei, trivial⟩, rfl, Heap.le_refl _⟩
      · have h : ws.length ≤ i := by simp [wr_len] at h; omega
        rw [List.take_of_length_le h] at i2
        repeat (first
    | refine AOps.op rfl rfl ?_ | refine AOps.load rfl rfl rfl rfl rfl ?_ | refine AOps.nil ?_ | refine AWP.seq ?_ | refine AWP.region ?_ | refine AWP.block ?_ | refine AWP.skip ?_ | refine AWP.exit ?_ | refine AWP.scope ?_ | refine AWP.label ?_)
        exact ⟨(), i2, ⟨rfl, trivial⟩, rfl, Heap.le_refl _⟩
    intro _ hlong
    have h3 : ¬ (16 < ws.length ∨ ws.any Wr.long = true) := by rw [hlong]; simp; omega
    repeat (first
    | refine AOps.op rfl rfl ?_ | refine AOps.load rfl rfl rfl rfl rfl ?_ | refine AOps.nil ?_ | refine AWP.seq ?_ | refine AWP.region ?_ | refine AWP.skip ?_ | refine AWP.exit ?_ | refine AWP.scope ?_ | refine AWP.label ?_)
    refine AWP.thnA (α := Unit) (fun _ => ws.any Wr.odd = false) (fun _ => [(1, .lptr 0 0)]) (fun _ => [[.int .i64 2, .int .i64 s, .int .i64 c.a, .int .i64 c.b, .int .i64 c.c, .sl (ws.map wr) tag]]) (fun _ => H) ?_ ?_
    · refine AWP.block ?_
      refine AWP.loopA (α := Nat) (fun i => i ≤ ws.length ∧ (ws.take i).any Wr.odd = false) (fun i => ws.length - i)
        (fun i => [(1, .lptr 0 0), (4, .int .i64 i)]) (fun _ => [[.int .i64 2, .int .i64 s, .int .i64 c.a, .int .i64 c.b, .int .i64 c.c, .sl (ws.map wr) tag]]) (fun _ => H) 0 ⟨by simp, by simp⟩ ⟨rfl, rfl, trivial⟩ rfl (Heap.le_refl _) ?_
      rintro i ⟨i1, i2⟩
      repeat (first
    | refine AOps.op rfl rfl ?_ | refine AOps.load rfl rfl rfl rfl rfl ?_ | refine AOps.nil ?_ | refine AWP.seq ?_ | refine AWP.region ?_ | refine AWP.block ?_ | refine AWP.skip ?_ | refine AWP.exit ?_ | refine AWP.scope ?_ | refine AWP.label ?_)
      refine AWP.cond rfl (fun h => ?_) (fun h => ?_)
      · have h : i < ws.length := by simp [wr_len] at h; omega
        have ei : IntKind.i64.wrap ((i : Int) + 1) = ((i + 1 : Nat) : Int) := wrap_i64 (n := i + 1) (by omega)
        obtain ⟨w, hw⟩ : ∃ w, ws[i]? = some w := ⟨ws[i], List.getElem?_eq_getElem h⟩
        repeat (first
    | refine AOps.op rfl rfl ?_ | refine AOps.load rfl rfl rfl rfl rfl ?_ | refine AOps.nil ?_ | refine AWP.seq ?_ | refine AWP.region ?_ | refine AWP.block ?_ | refine AWP.skip ?_ | refine AWP.exit ?_ | refine AWP.scope ?_ | refine AWP.label ?_)
        refine AOps.indexSl rfl rfl rfl rfl rfl rfl (by omega) (getD_wr hw) rfl rfl ?_
        repeat (first
    | refine AOps.op rfl rfl ?_ | refine AOps.load rfl rfl rfl rfl rfl ?_ | refine AOps.nil ?_ | refine AWP.seq ?_ | refine AWP.region ?_ | refine AWP.block ?_ | refine AWP.skip ?_ | refine AWP.exit ?_ | refine AWP.scope ?_ | refine AWP.label ?_)
        refine AOps.and (j := 6) (y := !(w.value == [])) [_, _, _, _, _, _, _] rfl rfl rfl rfl rfl rfl rfl (fun hb => ?_) ?_
        · repeat (first | refine AOps.unguard rfl rfl (by assumption) ?_ | refine AOps.op rfl rfl ?_ | refine AOps.load rfl rfl rfl rfl rfl ?_)
          refine AOps.indexSl rfl rfl rfl rfl rfl rfl (by omega) (getD_wr hw) rfl rfl ?_
          repeat (first | refine AOps.unguard rfl rfl (by assumption) ?_ | refine AOps.op rfl rfl ?_ | refine AOps.load rfl rfl rfl rfl rfl ?_)
          exact AOps.nil (GuardEnd.of 7 rfl rfl rfl rfl rfl)
        repeat (first
    | refine AOps.op rfl rfl ?_ | refine AOps.load rfl rfl rfl rfl rfl ?_ | refine AOps.nil ?_ | refine AWP.seq ?_ | refine AWP.region ?_ | refine AWP.block ?_ | refine AWP.skip ?_ | refine AWP.exit ?_ | refine AWP.scope ?_ | refine AWP.label ?_)
        refine AWP.cond rfl (fun h => ?_) (fun h => ?_)
        · have h : ws.any Wr.odd = true := List.any_eq_true.2 ⟨w, List.mem_of_getElem? hw, h⟩
          repeat (first
    | refine AOps.op rfl rfl ?_ | refine AOps.load rfl rfl rfl rfl rfl ?_ | refine AOps.nil ?_ | refine AWP.seq ?_ | refine AWP.region ?_ | refine AWP.block ?_ | refine AWP.skip ?_ | refine AWP.exit ?_ | refine AWP.scope ?_ | refine AWP.label ?_)
          refine AWP.ret ?_
          refine ⟨_, _, rfl, rfl, Heap.le_refl _, ?_, rfl⟩
          simp only [tcheck, if_neg h0, if_neg h1, if_neg h2, if_neg h3, if_pos h]; rfl
        · repeat (first
    | refine AOps.op rfl rfl ?_ | refine AOps.load rfl rfl rfl rfl rfl ?_ | refine AOps.nil ?_ | refine AWP.seq ?_ | refine AWP.region ?_ | refine AWP.block ?_ | refine AWP.skip ?_ | refine AWP.exit ?_ | refine AWP.scope ?_ | refine AWP.label ?_)
          exact ⟨i + 1, by omega, ⟨by omega, any_take hw i2 h⟩, ⟨rfl, congrArg (fun x => some (AV.int .i64 x)) ei, trivial⟩, rfl, Heap.le_refl _⟩
      · have h : ws.length ≤ i := by simp [wr_len] at h; omega
        rw [List.take_of_length_le h] at i2
        repeat (first
    | refine AOps.op rfl rfl ?_ | refine AOps.load rfl rfl rfl rfl rfl ?_ | refine AOps.nil ?_ | refine AWP.seq ?_ | refine AWP.region ?_ | refine AWP.block ?_ | refine AWP.skip ?_ | refine AWP.exit ?_ | refine AWP.scope ?_ | refine AWP.label ?_)
        exact ⟨(), i2, ⟨rfl, trivial⟩, rfl, Heap.le_refl _⟩
    intro _ hodd
    repeat (first
    | refine AOps.op rfl rfl ?_ | refine AOps.load rfl rfl rfl rfl rfl ?_ | refine AOps.nil ?_ | refine AWP.seq ?_ | refine AWP.region ?_ | refine AWP.block ?_ | refine AWP.skip ?_ | refine AWP.exit ?_ | refine AWP.scope ?_ | refine AWP.label ?_)
    refine AWP.ret ?_
    refine ⟨_, _, rfl, rfl, Heap.le_refl _, ?_, rfl⟩
    have h : ¬ ws.any Wr.odd = true := by rw [hodd]; simp
    simp only [tcheck, if_neg h0, if_neg h1, if_neg h2, if_neg h3, if_neg h]; rfl

theorem R6Same_spec (t u : Txn) (ta tb : Tag) (hl : t.writes.length < 2 ^ 40) (hm : u.writes.length < 2 ^ 40) (H : Heap) :
    ACalls Q.prog 15 [tx t ta, tx u tb] H fun r H' => r = .bool (decide (t = u)) ∧ H' = H := by
  obtain ⟨o, s, c, a⟩ := t
  obtain ⟨o', s', c', b⟩ := u
  simp only at hl hm
  refine ACalls.body (N := 52) Try.func15 rfl rfl rfl rfl ?_
  repeat (first | refine AOps.op rfl rfl ?_ | refine AOps.load rfl rfl rfl rfl rfl ?_)
  refine AWP.seq (AWP.region ?_)
  refine AOps.boxL 0 rfl rfl rfl rfl rfl ?_
  refine AOps.boxL 1 rfl rfl rfl rfl rfl ?_
  repeat (first
    | refine AOps.op rfl rfl ?_ | refine AOps.load rfl rfl rfl rfl rfl ?_ | refine AOps.nil ?_ | refine AWP.seq ?_ | refine AWP.region ?_ | refine AWP.block ?_ | refine AWP.skip ?_ | refine AWP.exit ?_ | refine AWP.scope ?_ | refine AWP.label ?_)
  refine AOps.or (j := 5) (y := !decide (s = s')) [_, _, _, _, _] rfl rfl rfl rfl rfl rfl rfl (fun hb => ?_) ?_
  · repeat (first | refine AOps.unguard rfl rfl (by assumption) ?_ | refine AOps.op rfl rfl ?_ | refine AOps.load rfl rfl rfl rfl rfl ?_)
    exact AOps.nil (GuardEnd.of 5 rfl rfl rfl rfl rfl)
  repeat (first
    | refine AOps.op rfl rfl ?_ | refine AOps.load rfl rfl rfl rfl rfl ?_ | refine AOps.nil ?_ | refine AWP.seq ?_ | refine AWP.region ?_ | refine AWP.block ?_ | refine AWP.skip ?_ | refine AWP.exit ?_ | refine AWP.scope ?_ | refine AWP.label ?_)
  refine AOps.or (j := 12) (y := !decide (c = c')) [_, _, _, _, _] rfl rfl rfl rfl rfl rfl rfl (fun hb => ?_) ?_
  · repeat (first | refine AOps.unguard rfl rfl (by assumption) ?_ | refine AOps.op rfl rfl ?_ | refine AOps.load rfl rfl rfl rfl rfl ?_)
    refine AOps.step rfl rfl (OpT.eqAgg eqTy_ck rfl rfl (aeq_ck c c') (.inr rfl) ?_)
    exact AOps.nil (GuardEnd.of 5 rfl rfl rfl rfl rfl)
  repeat (first
    | refine AOps.op rfl rfl ?_ | refine AOps.load rfl rfl rfl rfl rfl ?_ | refine AOps.nil ?_ | refine AWP.seq ?_ | refine AWP.region ?_ | refine AWP.block ?_ | refine AWP.skip ?_ | refine AWP.exit ?_ | refine AWP.scope ?_ | refine AWP.label ?_)
  refine AOps.or (j := 19) (y := !((((a.map wr).length : Nat) : Int) == (((b.map wr).length : Nat) : Int))) [_, _, _, _, _, _, _] rfl rfl rfl rfl rfl rfl rfl (fun hb => ?_) ?_
  · repeat (first | refine AOps.unguard rfl rfl (by assumption) ?_ | refine AOps.op rfl rfl ?_ | refine AOps.load rfl rfl rfl rfl rfl ?_)
    exact AOps.nil (GuardEnd.of 7 rfl rfl rfl rfl rfl)
  repeat (first
    | refine AOps.op rfl rfl ?_ | refine AOps.load rfl rfl rfl rfl rfl ?_ | refine AOps.nil ?_ | refine AWP.seq ?_ | refine AWP.region ?_ | refine AWP.block ?_ | refine AWP.skip ?_ | refine AWP.exit ?_ | refine AWP.scope ?_ | refine AWP.label ?_)
  refine AWP.cond rfl (fun h => ?_) (fun h => ?_)
  · repeat (first
    | refine AOps.op rfl rfl ?_ | refine AOps.load rfl rfl rfl rfl rfl ?_ | refine AOps.nil ?_ | refine AWP.seq ?_ | refine AWP.region ?_ | refine AWP.block ?_ | refine AWP.skip ?_ | refine AWP.exit ?_ | refine AWP.scope ?_ | refine AWP.label ?_)
    refine AWP.ret ?_
    refine ⟨_, _, rfl, rfl, Heap.le_refl _, ?_, rfl⟩
    refine congrArg AV.bool ?_
    symm
    refine decide_eq_false ?_
    rintro e
    injection e with e1 e2 e3 e4
    subst e1; subst e2; subst e3; subst e4
    simp at h
  have h : (o = o' ∧ s = s' ∧ c = c') ∧ a.length = b.length := by
    simp [wr_len] at h
    exact ⟨⟨h.1.1.1, h.1.1.2, h.1.2⟩, by omega⟩
  obtain ⟨⟨rfl, rfl, rfl⟩, hlen⟩ := h
  repeat (first
    | refine AOps.op rfl rfl ?_ | refine AOps.load rfl rfl rfl rfl rfl ?_ | refine AOps.nil ?_ | refine AWP.seq ?_ | refine AWP.region ?_ | refine AWP.skip ?_ | refine AWP.exit ?_ | refine AWP.scope ?_ | refine AWP.label ?_)
  refine AWP.block ?_
  refine AWP.loopA (α := Nat) (fun i => i ≤ a.length ∧ a.take i = b.take i) (fun i => a.length - i)
    (fun i => [(2, .lptr 0 0), (3, .lptr 1 0), (5, .int .i64 i)]) (fun _ => [(tx ⟨o, s, c, a⟩ ta).cells, (tx ⟨o, s, c, b⟩ tb).cells]) (fun _ => H) 0 ⟨by simp, by simp⟩ ⟨rfl, rfl, rfl, trivial⟩ rfl (Heap.le_refl _) ?_
  rintro i ⟨h1, h2⟩
  repeat (first
    | refine AOps.op rfl rfl ?_ | refine AOps.load rfl rfl rfl rfl rfl ?_ | refine AOps.nil ?_ | refine AWP.seq ?_ | refine AWP.region ?_ | refine AWP.block ?_ | refine AWP.skip ?_ | refine AWP.exit ?_ | refine AWP.scope ?_ | refine AWP.label ?_)
  refine AWP.cond rfl (fun h => ?_) (fun h => ?_)
  · have h : i < a.length := by simp [wr_len] at h; omega
    have ei : IntKind.i64.wrap ((i : Int) + 1) = ((i + 1 : Nat) : Int) := wrap_i64 (n := i + 1) (by omega)
    obtain ⟨x, hx⟩ : ∃ x, a[i]? = some x := ⟨a[i], List.getElem?_eq_getElem h⟩
    obtain ⟨y, hy⟩ : ∃ y, b[i]? = some y := ⟨b[i]'(by omega), List.getElem?_eq_getElem _⟩
    repeat (first
    | refine AOps.op rfl rfl ?_ | refine AOps.load rfl rfl rfl rfl rfl ?_ | refine AOps.nil ?_ | refine AWP.seq ?_ | refine AWP.region ?_ | refine AWP.block ?_ | refine AWP.skip ?_ | refine AWP.exit ?_ | refine AWP.scope ?_ | refine AWP.label ?_)
    refine AWP.draw [[], [0], [], [0, 1, 2], [0, 1, 2, 3], [], [5], [], [5, 6, 7], [5, 6, 7, 8], [0, 1, 2, 3, 4, 5, 6, 7, 8, 9]] [(0, .pure), (1, .read), (2, .pure), (3, .pure), (4, .read), (5, .pure), (6, .read), (7, .pure), (8, .pure), (9, .read), (10, .pure)] rfl ?_
    repeat (first | refine DRun.op rfl rfl rfl ?_ | refine DRun.loadI rfl rfl rfl rfl rfl ?_ | refine DRun.load rfl rfl rfl rfl rfl rfl ?_ | refine DRun.nil ?_)
    refine DRun.indexSl rfl rfl rfl rfl rfl rfl rfl (by omega) (getD_wr hx) rfl rfl ?_
    repeat (first | refine DRun.op rfl rfl rfl ?_ | refine DRun.loadI rfl rfl rfl rfl rfl ?_ | refine DRun.load rfl rfl rfl rfl rfl rfl ?_ | refine DRun.nil ?_)
    refine DRun.indexSl rfl rfl rfl rfl rfl rfl rfl (by omega) (getD_wr hy) rfl rfl ?_
    repeat (first | refine DRun.op rfl rfl rfl ?_ | refine DRun.loadI rfl rfl rfl rfl rfl ?_ | refine DRun.load rfl rfl rfl rfl rfl rfl ?_ | refine DRun.nil ?_)
    refine DRun.pureT rfl rfl rfl (fun loc H => OpT.eqAgg eqTy_wr rfl rfl (aeq_wr x y) (.inr rfl) ⟨rfl, rfl, rfl⟩) ?_
    repeat (first | refine DRun.op rfl rfl rfl ?_ | refine DRun.loadI rfl rfl rfl rfl rfl ?_ | refine DRun.load rfl rfl rfl rfl rfl rfl ?_ | refine DRun.nil ?_)
    refine AWP.cond rfl (fun h => ?_) (fun h => ?_)
    · have h : ¬ x = y := by simpa using h
      repeat (first
    | refine AOps.op rfl rfl ?_ | refine AOps.load rfl rfl rfl rfl rfl ?_ | refine AOps.nil ?_ | refine AWP.seq ?_ | refine AWP.region ?_ | refine AWP.block ?_ | refine AWP.skip ?_ | refine AWP.exit ?_ | refine AWP.scope ?_ | refine AWP.label ?_)
      refine AWP.ret ?_
      refine ⟨_, _, rfl, rfl, Heap.le_refl _, ?_, rfl⟩
      refine congrArg AV.bool ?_
      symm
      refine decide_eq_false ?_
      rintro e
      injection e with e1 e2 e3 e4
      exact h (by rw [e4, hy] at hx; exact (Option.some.inj hx).symm)
    · have h : x = y := by simpa using h
      repeat (first
    | refine AOps.op rfl rfl ?_ | refine AOps.load rfl rfl rfl rfl rfl ?_ | refine AOps.nil ?_ | refine AWP.seq ?_ | refine AWP.region ?_ | refine AWP.block ?_ | refine AWP.skip ?_ | refine AWP.exit ?_ | refine AWP.scope ?_ | refine AWP.label ?_)
      exact ⟨i + 1, by omega, ⟨by omega, (take_next hx hy h2).2 h⟩, ⟨rfl, rfl, congrArg (fun x => some (AV.int .i64 x)) ei, trivial⟩, rfl, Heap.le_refl _⟩
  · have h : a.length ≤ i := by simp [wr_len] at h; omega
    repeat (first
    | refine AOps.op rfl rfl ?_ | refine AOps.load rfl rfl rfl rfl rfl ?_ | refine AOps.nil ?_ | refine AWP.seq ?_ | refine AWP.region ?_ | refine AWP.block ?_ | refine AWP.skip ?_ | refine AWP.exit ?_ | refine AWP.scope ?_ | refine AWP.label ?_)
    refine AWP.ret ?_
    refine ⟨_, _, rfl, rfl, Heap.le_refl _, ?_, rfl⟩
    rw [List.take_of_length_le h, List.take_of_length_le (by omega)] at h2
    simp [h2]; rfl
end Go.Proofs.Ytlbnhokhhangdaa

/- The document's transactions told. -/
namespace Go.Proofs.Ytlbnhokhhangdaa
open Go Go.Am Go.Pk Go.Lib
set_option linter.unusedVariables false
set_option maxRecDepth 10000
attribute [local irreducible] AOps AWP DRun ACalls

theorem App.ne {H : Heap} {sz n : Nat} {tag : Tag} (h : App H sz n tag) {b : Nat} {cs : List AV} (hb : H b = some (.box cs)) : (hbase H tag) b = some (.box cs) := by
  cases tag with
  | no => exact h.elim
  | full => exact hb
  | own g =>
    have hh : H g = some (.tail sz n) := h
    have : b ≠ g := by rintro rfl; rw [hb] at hh; cases hh
    show (H.del g) b = _
    rw [Heap.del_ne _ this]; exact hb

theorem App.xs {α : Type} {f : α → AV} {H : Heap} {sz n : Nat} {tag : Tag} (h : App H sz n tag) {l : List α} {v : AV} (hx : XS f H l v) : XS f (hbase H tag) l v := by
  rcases hx with q | ⟨g, q1, q2⟩
  · exact .inl q
  · exact .inr ⟨g, q1, App.ne h q2⟩

theorem App.rcod {H : Heap} {sz n : Nat} {tag : Tag} (h : App H sz n tag) {r : Nat} {S : Cod} (hr : RCodAt H r S) : RCodAt (hbase H tag) r S := by
  obtain ⟨h1, h2, ks, ws, h3, h4, h5⟩ := hr
  exact ⟨h1, h2, ks, ws, App.ne h h3, App.xs h h4, App.xs h h5⟩

/-- A call that writes one block alone, beside what may be appended to. -/
theorem App.after {H H' : Heap} {sz n : Nat} {tag : Tag} (h : App H sz n tag) {r : Nat} {cs : List AV} (hr : H r = some (.box cs)) (hl : (H.del r).le H') :
    App H' sz n tag ∧ ((hbase H tag).del r).le (hbase H' tag) := by
  cases tag with
  | no => exact h.elim
  | full => exact ⟨trivial, hl⟩
  | own g =>
    have hh : H g = some (.tail sz n) := h
    have hne : g ≠ r := by rintro rfl; rw [hr] at hh; cases hh
    refine ⟨hl _ _ (by rw [Heap.del_ne _ hne]; exact hh), fun k x e => ?_⟩
    have hk : k ≠ r := by rintro rfl; rw [Heap.del_same] at e; cases e
    rw [Heap.del_ne _ hk] at e
    have hg : k ≠ g := by rintro rfl; simp only [hbase, Heap.del_same] at e; cases e
    simp only [hbase] at e ⊢
    rw [Heap.del_ne _ hg] at e ⊢
    exact hl _ _ (by rw [Heap.del_ne _ hk]; exact e)

theorem RCodAt.box {H : Heap} {r : Nat} {S : Cod} (h : RCodAt H r S) : ∃ cs, H r = some (.box cs) := by
  obtain ⟨-, -, ks, ws, h3, -⟩ := h
  exact ⟨_, h3⟩

theorem Heap.del_del (H : Heap) (b : Nat) : (H.del b).del b = H.del b := by
  funext k
  simp only [Heap.del]
  split <;> rfl

/-- The clock of the document's coder is written. -/
theorem RCodAt.store {H : Heap} {r : Nat} {S : Cod} (h : RCodAt H r S) {c : Clk} (hc : c.ok = true) :
    ∃ ks ws, H r = some (rcbox S.c ks ws S.d.now) ∧ RCodAt (H.set r (rcbox c ks ws S.d.now)) r ⟨S.d, c⟩ := by
  obtain ⟨h1, h2, ks, ws, h3, h4, h5⟩ := h
  exact ⟨ks, ws, h3, h1, hc, ks, ws, Heap.set_same _ _ _, XS.off h4 h3 (rcbox_str _ _ _ _ _) _, XS.off h5 h3 (rcbox_iv h4 _ _ _ _) _⟩

attribute [local irreducible] dput wput

set_option maxHeartbeats 1000000 in
theorem R6Put_ok (r : Nat) (S : Cod) (t : Txn) (tag : Tag) (H : Heap) (h : RCodAt H r S) (ht : tcheck t = 0) (hnow : S.d.now < 2 ^ 50) :
    ACalls Q.prog 19 [.ptr r 0, tx t tag] H fun x H' => ∃ tag', x = .tuple [.sl (encB (tput S t).1) tag', .int .i64 0] ∧ RCodAt H' r (tput S t).2 ∧ (H.del r).le H' := by
  obtain ⟨t1, t2, t3, t4, t5, t6, t7⟩ := tcheck_ok ht
  have hcheck := R6Check_spec t tag (by omega)
  obtain ⟨o, s, k, ws⟩ := t
  simp only at t1 t2 t3 t4 t5 t6 t7
  obtain ⟨on, rfl⟩ := Int.eq_ofNat_of_zero_le t1.1
  obtain ⟨sn, rfl⟩ := Int.eq_ofNat_of_zero_le (show 0 ≤ s by omega)
  have eo : IntKind.u64.wrap ((on : Nat) : Int) = ((on : Nat) : Int) := wrap_u64 (by omega)
  have es : IntKind.u64.wrap ((sn : Nat) : Int) = ((sn : Nat) : Int) := wrap_u64 (by omega)
  have ew : IntKind.u64.wrap ((ws.length : Nat) : Int) = ((ws.length : Nat) : Int) := wrap_u64 (by omega)
  have lo := uvarint_length64 (x := on) (by omega)
  have ls := uvarint_length64 (x := sn) (by omega)
  have lw := uvarint_length64 (x := ws.length) (by omega)
  have h3 := h.2.1
  obtain ⟨ks0, ws0, hr0⟩ : ∃ ks ws, H r = some (rcbox S.c ks ws S.d.now) := by
    obtain ⟨-, -, ks, ws, h3, -⟩ := h
    exact ⟨ks, ws, h3⟩
  refine ACalls.body (N := 105) Try.func19 rfl rfl rfl rfl ?_
  repeat (first | refine AOps.op rfl rfl ?_ | refine AOps.load rfl rfl rfl rfl rfl ?_)
  refine AWP.seq (AWP.region ?_)
  refine AOps.boxL 0 rfl rfl rfl rfl rfl ?_
  repeat (first
    | refine AOps.op rfl rfl ?_ | refine AOps.load rfl rfl rfl rfl rfl ?_ | refine AOps.nil ?_ | refine AWP.seq ?_ | refine AWP.region ?_ | refine AWP.block ?_ | refine AWP.skip ?_ | refine AWP.exit ?_ | refine AWP.scope ?_ | refine AWP.label ?_)
  refine AOps.call rfl rfl rfl ((hcheck H).mono ?_)
  rintro _ H0 ⟨rfl, e0⟩
  subst e0
  rw [ht]
  repeat (first
    | refine AOps.op rfl rfl ?_ | refine AOps.load rfl rfl rfl rfl rfl ?_ | refine AOps.nil ?_ | refine AWP.seq ?_ | refine AWP.region ?_ | refine AWP.block ?_ | refine AWP.skip ?_ | refine AWP.exit ?_ | refine AWP.scope ?_ | refine AWP.label ?_)
  refine AWP.cond rfl (fun h => by simp at h) (fun _ => ?_)
  repeat (first
    | refine AOps.op rfl rfl ?_ | refine AOps.load rfl rfl rfl rfl rfl ?_ | refine AOps.nil ?_ | refine AWP.seq ?_ | refine AWP.region ?_ | refine AWP.block ?_ | refine AWP.skip ?_ | refine AWP.exit ?_ | refine AWP.scope ?_ | refine AWP.label ?_)
  refine AWP.draw [[], [0], [0, 1], [0, 1, 2], [], [4], [4, 5], [0, 1, 2, 3, 4, 5, 6], [0, 1, 2, 3, 4, 5, 6, 7], [0, 1, 2, 3, 4, 5, 6, 7, 8]] [(0, .pure), (1, .read), (2, .pure), (4, .pure), (5, .read), (6, .pure), (3, .eff), (7, .eff), (8, .eff), (9, .pure)] rfl ?_
  repeat (first | refine DRun.op rfl rfl rfl ?_ | refine DRun.loadI rfl rfl rfl rfl rfl ?_ | refine DRun.load rfl rfl rfl rfl rfl rfl ?_ | refine DRun.nil ?_)
  refine DRun.eff rfl rfl rfl (OpT.callF (vs := [.int .u64 (on : Nat)]) (congrArg (fun x => some [AV.int .u64 x]) eo) rfl ((R1Put_spec on (by omega) H0).mono ?_))
  rintro _ Ha ⟨ga, rfl, aa, ba⟩
  refine ⟨?_, ?_⟩
  · repeat (first | exact Chk.nil | refine Chk.pre rfl ?_ | refine Chk.load rfl rfl rfl rfl ?_)
  repeat (first | refine DRun.op rfl rfl rfl ?_ | refine DRun.loadI rfl rfl rfl rfl rfl ?_ | refine DRun.load rfl rfl rfl rfl rfl rfl ?_ | refine DRun.nil ?_)
  refine DRun.eff rfl rfl rfl (OpT.callF (vs := [.int .u64 (sn : Nat)]) (congrArg (fun x => some [AV.int .u64 x]) es) rfl ((R1Put_spec sn (by omega) Ha).mono ?_))
  rintro _ Hb ⟨gb, rfl, ab, bb⟩
  refine ⟨?_, ?_⟩
  · repeat (first | exact Chk.nil | refine Chk.pre rfl ?_ | refine Chk.load rfl rfl rfl rfl ?_)
  repeat (first | refine DRun.op rfl rfl rfl ?_ | refine DRun.loadI rfl rfl rfl rfl rfl ?_ | refine DRun.load rfl rfl rfl rfl rfl rfl ?_ | refine DRun.nil ?_)
  refine DRun.eff rfl rfl rfl (appBT (hbase Hb gb) (hbase_le _ _) rfl rfl rfl rfl (by rw [bb]; exact aa) (by omega) fun g1 H1 a1 b1 => ⟨?_, ?_⟩)
  · repeat (first | exact Chk.nil | refine Chk.pre rfl ?_ | refine Chk.load rfl rfl rfl rfl ?_)
  rw [bb, ba] at b1
  repeat (first | refine DRun.op rfl rfl rfl ?_ | refine DRun.loadI rfl rfl rfl rfl rfl ?_ | refine DRun.load rfl rfl rfl rfl rfl rfl ?_ | refine DRun.nil ?_)
  have hc1 := hbase_le H1 g1 _ _ (b1 ▸ hr0)
  repeat (first
    | refine AOps.op rfl rfl ?_ | refine AOps.load rfl rfl rfl rfl rfl ?_ | refine AOps.nil ?_ | refine AWP.seq ?_ | refine AWP.region ?_ | refine AWP.block ?_ | refine AWP.skip ?_ | refine AWP.exit ?_ | refine AWP.scope ?_ | refine AWP.label ?_)
  refine AWP.draw [[], [0], [0, 1], [0, 1, 2], [], [4], [0, 1, 2, 3, 4, 5], [0, 1, 2, 3, 4, 5, 6], [0, 1, 2, 3, 4, 5, 6, 7], [0, 1, 2, 3, 4, 5, 6, 7], [0, 1, 2, 3, 4, 5, 6, 7, 8], [0, 1, 2, 3, 4, 5, 6, 7, 8, 9, 10]] [(0, .pure), (1, .pure), (2, .pure), (3, .read), (4, .pure), (5, .read), (6, .eff), (7, .pure), (8, .pure), (9, .pure), (10, .pure), (11, .pure)] rfl ?_
  repeat (first | refine DRun.op rfl rfl rfl ?_ | refine DRun.loadI rfl rfl rfl rfl rfl ?_ | refine DRun.load rfl rfl rfl rfl rfl rfl ?_ | refine DRun.nil ?_)
  refine DRun.load rfl rfl rfl (cellsAt_ptr hc1) rfl rfl ?_
  repeat (first | refine DRun.op rfl rfl rfl ?_ | refine DRun.loadI rfl rfl rfl rfl rfl ?_ | refine DRun.load rfl rfl rfl rfl rfl rfl ?_ | refine DRun.nil ?_)
  refine DRun.eff rfl rfl rfl (OpT.callF rfl rfl ((R4Put_spec S.c k h3 t3 H1).mono ?_))
  rintro _ H2 ⟨_, rfl, g2, rfl, a2, b2⟩
  refine ⟨?_, ?_⟩
  · repeat (first | exact Chk.nil | refine Chk.pre rfl ?_)
  repeat (first | refine DRun.op rfl rfl rfl ?_ | refine DRun.loadI rfl rfl rfl rfl rfl ?_ | refine DRun.load rfl rfl rfl rfl rfl rfl ?_ | refine DRun.nil ?_)
  have lc := cput_len h3 t3
  repeat (first
    | refine AOps.op rfl rfl ?_ | refine AOps.load rfl rfl rfl rfl rfl ?_ | refine AOps.nil ?_ | refine AWP.seq ?_ | refine AWP.region ?_ | refine AWP.block ?_ | refine AWP.skip ?_ | refine AWP.exit ?_ | refine AWP.scope ?_ | refine AWP.label ?_)
  have hd : App (hbase H2 g2) 1 (uvarint on ++ uvarint sn).length g1 := by rw [b2]; exact a1
  refine appB (hbase H2 g2) (hbase_le _ _) rfl rfl rfl rfl rfl hd (by simp; omega) fun g3 H3 a3 b3 => ?_
  rw [b2, b1] at b3
  repeat (first
    | refine AOps.op rfl rfl ?_ | refine AOps.load rfl rfl rfl rfl rfl ?_ | refine AOps.nil ?_ | refine AWP.seq ?_ | refine AWP.region ?_ | refine AWP.block ?_ | refine AWP.skip ?_ | refine AWP.exit ?_ | refine AWP.scope ?_ | refine AWP.label ?_)
  refine AOps.call (vs := [.int .u64 (ws.length : Nat)]) (by show some [AV.int .u64 (IntKind.u64.wrap (((ws.map wr).length : Nat) : Int))] = _; rw [wr_len, ew]) rfl rfl ((R1Put_spec ws.length (by omega) H3).mono ?_)
  rintro _ H4 ⟨g4, rfl, a4, b4⟩
  have hd : App (hbase H4 g4) 1 (uvarint on ++ uvarint sn ++ cput S.c k).length g3 := by rw [b4]; exact a3
  refine appB (hbase H4 g4) (hbase_le _ _) rfl rfl rfl rfl rfl hd (by simp only [List.length_append]; omega) fun g5 H5 a5 b5 => ?_
  rw [b4, b3] at b5
  repeat (first
    | refine AOps.op rfl rfl ?_ | refine AOps.load rfl rfl rfl rfl rfl ?_ | refine AOps.nil ?_ | refine AWP.seq ?_ | refine AWP.region ?_ | refine AWP.skip ?_ | refine AWP.exit ?_ | refine AWP.scope ?_ | refine AWP.label ?_)
  generalize hpre : uvarint on ++ uvarint sn ++ cput S.c k ++ uvarint ws.length = pre at *
  have lpre : pre.length ≤ 60 := by rw [← hpre]; simp only [List.length_append]; omega
  refine AWP.thnA (α := Str × Tag × Heap) (fun a => a.1 = pre ++ (wput S.d ws).1 ∧ RCodAt (hbase a.2.2 a.2.1) r ⟨(wput S.d ws).2, S.c⟩ ∧ (H0.del r).le (hbase a.2.2 a.2.1))
    (fun a => [(0, .ptr r 0), (3, .lptr 0 0), (6, .sl (encB a.1) a.2.1)]) (fun _ => [[.int .i64 (on : Nat), .int .i64 (sn : Nat), .int .i64 k.a, .int .i64 k.b, .int .i64 k.c, .sl (ws.map wr) tag]]) (fun a => a.2.2) ?_ ?_
  · refine AWP.block ?_
    refine AWP.loopA (α := Nat × Str × Tag × Heap × Dic) (fun a => a.1 ≤ ws.length ∧ a.2.1 ++ (wput a.2.2.2.2 (ws.drop a.1)).1 = pre ++ (wput S.d ws).1 ∧ (wput a.2.2.2.2 (ws.drop a.1)).2 = (wput S.d ws).2 ∧
        App a.2.2.2.1 1 a.2.1.length a.2.2.1 ∧ RCodAt (hbase a.2.2.2.1 a.2.2.1) r ⟨a.2.2.2.2, S.c⟩ ∧ a.2.1.length ≤ 60 + 400 * a.1 ∧ (H0.del r).le (hbase a.2.2.2.1 a.2.2.1) ∧ a.2.2.2.2.now ≤ S.d.now + a.1) (fun a => ws.length - a.1)
      (fun a => [(0, .ptr r 0), (3, .lptr 0 0), (6, .sl (encB a.2.1) a.2.2.1), (9, .int .i64 a.1)])
      (fun _ => [[.int .i64 (on : Nat), .int .i64 (sn : Nat), .int .i64 k.a, .int .i64 k.b, .int .i64 k.c, .sl (ws.map wr) tag]]) (fun a => a.2.2.2.1) (0, pre, g5, H5, S.d)
      ⟨by simp, by simp, by simp, a5, by rw [b5]; exact h, by simp only; omega, by rw [b5]; exact Heap.del_le _ _, by simp⟩ ⟨rfl, rfl, rfl, rfl, trivial⟩ rfl (Heap.le_refl _) ?_
    rintro ⟨i, acc, g6, H6, D⟩ ⟨i1, i2, i3, i4, i5, i6, i7, i8⟩
    simp only at i1 i2 i3 i4 i5 i6 i7 i8
    dsimp only
    repeat (first
    | refine AOps.op rfl rfl ?_ | refine AOps.load rfl rfl rfl rfl rfl ?_ | refine AOps.nil ?_ | refine AWP.seq ?_ | refine AWP.region ?_ | refine AWP.block ?_ | refine AWP.skip ?_ | refine AWP.exit ?_ | refine AWP.scope ?_ | refine AWP.label ?_)
    refine AWP.cond rfl (fun h => ?_) (fun h => ?_)
    · have h : i < ws.length := by simp at h; omega
      have ei : IntKind.i64.wrap ((i : Int) + 1) = ((i + 1 : Nat) : Int) := wrap_i64 (n := i + 1) (by omega)
      obtain ⟨w, hw⟩ : ∃ w, ws[i]? = some w := ⟨ws[i], List.getElem?_eq_getElem h⟩
      obtain ⟨hk, hv⟩ := t6 w (List.mem_of_getElem? hw)
      have hdrop : ws.drop i = w :: ws.drop (i + 1) := by
        obtain ⟨q1, q2⟩ := List.getElem?_eq_some_iff.1 hw
        rw [List.drop_eq_getElem_cons q1, q2]
      rw [hdrop, wput_cons] at i2 i3
      simp only at i2 i3
      have hD8 : D.keys.length ≤ 8 := by have := i5.1.1; simp only at this; omega
      have ldp := dput_len D hD8 w.key hk
      have hnd := dput_now D w.key
      have i5' := i5.mono (hbase_le H6 g6)
      obtain ⟨cs, hcs⟩ := i5'.box
      repeat (first
    | refine AOps.op rfl rfl ?_ | refine AOps.load rfl rfl rfl rfl rfl ?_ | refine AOps.nil ?_ | refine AWP.seq ?_ | refine AWP.region ?_ | refine AWP.block ?_ | refine AWP.skip ?_ | refine AWP.exit ?_ | refine AWP.scope ?_ | refine AWP.label ?_)
      refine AWP.draw [[], [0], [0, 1], [], [3], [], [3, 4, 5], [3, 4, 5, 6], [3, 4, 5, 6, 7], [0, 1, 2, 3, 4, 5, 6, 7, 8], [0, 1, 2, 3, 4, 5, 6, 7, 8, 9], [0, 1, 2, 3, 4, 5, 6, 7, 8, 9, 10], [0, 1, 2, 3, 4, 5, 6, 7, 8, 9, 10], [0, 1, 2, 3, 4, 5, 6, 7, 8, 9, 10, 11], [0, 1, 2, 3, 4, 5, 6, 7, 8, 9, 10, 11, 12, 13]] [(0, .pure), (1, .pure), (2, .pure), (3, .pure), (4, .read), (5, .pure), (6, .pure), (7, .pure), (8, .read), (9, .eff), (10, .pure), (11, .pure), (12, .pure), (13, .pure), (14, .pure)] rfl ?_
      repeat (first | refine DRun.op rfl rfl rfl ?_ | refine DRun.loadI rfl rfl rfl rfl rfl ?_ | refine DRun.load rfl rfl rfl rfl rfl rfl ?_ | refine DRun.nil ?_)
      refine DRun.indexSl rfl rfl rfl rfl rfl rfl rfl (by omega) (getD_wr hw) rfl rfl ?_
      repeat (first | refine DRun.op rfl rfl rfl ?_ | refine DRun.loadI rfl rfl rfl rfl rfl ?_ | refine DRun.load rfl rfl rfl rfl rfl rfl ?_ | refine DRun.nil ?_)
      refine DRun.eff rfl rfl rfl (OpT.callF rfl rfl ((R5Put_spec r ⟨D, S.c⟩ w.key H6 i5' hk (by simp only; omega)).mono ?_))
      rintro _ H8 ⟨_, g8, rfl, rfl, k1, k2⟩
      refine ⟨?_, ?_⟩
      · repeat (first | exact Chk.nil | refine Chk.pre rfl ?_ | refine Chk.load rfl rfl rfl rfl ?_)
      obtain ⟨a8, c8⟩ := App.after i4 hcs k2
      have hcod8 := App.rcod a8 k1
      have old8 : (H0.del r).le (hbase H8 g6) := fun q x e => by
        have hq : q ≠ r := by rintro rfl; rw [Heap.del_same] at e; cases e
        exact c8 _ _ (by rw [Heap.del_ne _ hq]; exact i7 _ _ e)
      simp only at hcod8 hnd
      dsimp only
      generalize hdp : (dput D w.key).1 = dp at *
      generalize (dput D w.key).2.2 = D2 at *
      repeat (first | refine DRun.op rfl rfl rfl ?_ | refine DRun.loadI rfl rfl rfl rfl rfl ?_ | refine DRun.load rfl rfl rfl rfl rfl rfl ?_ | refine DRun.nil ?_)
      repeat (first
    | refine AOps.op rfl rfl ?_ | refine AOps.load rfl rfl rfl rfl rfl ?_ | refine AOps.nil ?_ | refine AWP.seq ?_ | refine AWP.region ?_ | refine AWP.block ?_ | refine AWP.skip ?_ | refine AWP.exit ?_ | refine AWP.scope ?_ | refine AWP.label ?_)
      refine appB H8 (Heap.le_refl _) rfl rfl rfl rfl rfl a8 (by omega) fun g9 H9 a9 b9 => ?_
      rw [← b9] at hcod8 old8
      repeat (first
    | refine AOps.op rfl rfl ?_ | refine AOps.load rfl rfl rfl rfl rfl ?_ | refine AOps.nil ?_ | refine AWP.seq ?_ | refine AWP.region ?_ | refine AWP.block ?_ | refine AWP.skip ?_ | refine AWP.exit ?_ | refine AWP.scope ?_ | refine AWP.label ?_)
      refine AOps.indexSl rfl rfl rfl rfl rfl rfl (by omega) (getD_wr hw) rfl rfl ?_
      repeat (first
    | refine AOps.op rfl rfl ?_ | refine AOps.load rfl rfl rfl rfl rfl ?_ | refine AOps.nil ?_ | refine AWP.seq ?_ | refine AWP.region ?_ | refine AWP.block ?_ | refine AWP.skip ?_ | refine AWP.exit ?_ | refine AWP.scope ?_ | refine AWP.label ?_)
      refine AWP.cond rfl (fun hg => ?_) (fun hg => ?_)
      · repeat (first
    | refine AOps.op rfl rfl ?_ | refine AOps.load rfl rfl rfl rfl rfl ?_ | refine AOps.nil ?_ | refine AWP.seq ?_ | refine AWP.region ?_ | refine AWP.block ?_ | refine AWP.skip ?_ | refine AWP.exit ?_ | refine AWP.scope ?_ | refine AWP.label ?_)
        refine AOps.buildSlice (els := encB [0]) rfl rfl rfl ?_
        refine appB H9 (Heap.le_refl _) rfl rfl rfl rfl rfl a9 (by simp; omega) fun g10 H10 a10 b10 => ?_
        rw [← b10] at hcod8 old8
        repeat (first
    | refine AOps.op rfl rfl ?_ | refine AOps.load rfl rfl rfl rfl rfl ?_ | refine AOps.nil ?_ | refine AWP.seq ?_ | refine AWP.region ?_ | refine AWP.block ?_ | refine AWP.skip ?_ | refine AWP.exit ?_ | refine AWP.scope ?_ | refine AWP.label ?_)
        refine ⟨(i + 1, acc ++ dp ++ [0], g10, H10, D2), by ((try dsimp only); omega), ⟨h, ?_, i3, a10, hcod8, by simp; omega, old8, by ((try dsimp only); omega)⟩, ⟨rfl, rfl, rfl, congrArg (fun x => some (AV.int .i64 x)) ei, trivial⟩, rfl, Heap.le_refl _⟩
        have : vput w = [0] := by simp [vput, hg]
        rw [this] at i2
        simpa using i2
      · have ev : IntKind.u64.wrap (IntKind.i64.wrap ((w.value.length : Nat) + 1)) = ((w.value.length + 1 : Nat) : Int) := by
          rw [show IntKind.i64.wrap (((w.value.length : Nat) : Int) + 1) = ((w.value.length + 1 : Nat) : Int) from wrap_i64 (n := w.value.length + 1) (by omega)]; exact wrap_u64 (n := w.value.length + 1) (by omega)
        have lv := uvarint_length64 (x := w.value.length + 1) (by omega)
        repeat (first
    | refine AOps.op rfl rfl ?_ | refine AOps.load rfl rfl rfl rfl rfl ?_ | refine AOps.nil ?_ | refine AWP.seq ?_ | refine AWP.region ?_ | refine AWP.block ?_ | refine AWP.skip ?_ | refine AWP.exit ?_ | refine AWP.scope ?_ | refine AWP.label ?_)
        refine AOps.indexSl rfl rfl rfl rfl rfl rfl (by omega) (getD_wr hw) rfl rfl ?_
        repeat (first
    | refine AOps.op rfl rfl ?_ | refine AOps.load rfl rfl rfl rfl rfl ?_ | refine AOps.nil ?_ | refine AWP.seq ?_ | refine AWP.region ?_ | refine AWP.block ?_ | refine AWP.skip ?_ | refine AWP.exit ?_ | refine AWP.scope ?_ | refine AWP.label ?_)
        refine AOps.call (vs := [.int .u64 (w.value.length + 1 : Nat)]) (congrArg (fun x => some [AV.int .u64 x]) ev) rfl rfl ((R1Put_spec (w.value.length + 1) (by omega) H9).mono ?_)
        rintro _ H10 ⟨g10, rfl, a10, b10⟩
        have hd : App (hbase H10 g10) 1 (acc ++ dp).length g9 := by rw [b10]; exact a9
        refine appB (hbase H10 g10) (hbase_le _ _) rfl rfl rfl rfl rfl hd (by simp; omega) fun g11 H11 a11 b11 => ?_
        rw [b10] at b11
        rw [← b11] at hcod8 old8
        repeat (first
    | refine AOps.op rfl rfl ?_ | refine AOps.load rfl rfl rfl rfl rfl ?_ | refine AOps.nil ?_ | refine AWP.seq ?_ | refine AWP.region ?_ | refine AWP.block ?_ | refine AWP.skip ?_ | refine AWP.exit ?_ | refine AWP.scope ?_ | refine AWP.label ?_)
        refine AOps.indexSl rfl rfl rfl rfl rfl rfl (by omega) (getD_wr hw) rfl rfl ?_
        repeat (first
    | refine AOps.op rfl rfl ?_ | refine AOps.load rfl rfl rfl rfl rfl ?_ | refine AOps.nil ?_ | refine AWP.seq ?_ | refine AWP.region ?_ | refine AWP.block ?_ | refine AWP.skip ?_ | refine AWP.exit ?_ | refine AWP.scope ?_ | refine AWP.label ?_)
        refine AOps.toBytes rfl rfl rfl rfl rfl rfl rfl rfl ?_
        refine appB H11 (Heap.le_refl _) rfl rfl rfl rfl rfl a11 (by simp; omega) fun g12 H12 a12 b12 => ?_
        rw [← b12] at hcod8 old8
        repeat (first
    | refine AOps.op rfl rfl ?_ | refine AOps.load rfl rfl rfl rfl rfl ?_ | refine AOps.nil ?_ | refine AWP.seq ?_ | refine AWP.region ?_ | refine AWP.block ?_ | refine AWP.skip ?_ | refine AWP.exit ?_ | refine AWP.scope ?_ | refine AWP.label ?_)
        refine ⟨(i + 1, acc ++ dp ++ uvarint (w.value.length + 1) ++ w.value, g12, H12, D2), by ((try dsimp only); omega), ⟨h, ?_, i3, a12, hcod8, by simp; omega, old8, by ((try dsimp only); omega)⟩, ⟨rfl, rfl, rfl, congrArg (fun x => some (AV.int .i64 x)) ei, trivial⟩, rfl, Heap.le_refl _⟩
        have : vput w = uvarint (w.value.length + 1) ++ w.value := by simp [vput, hg]
        rw [this] at i2
        simpa using i2
    · have h : ws.length ≤ i := by simp at h; omega
      rw [List.drop_of_length_le h, wput_nil] at i2 i3
      simp only [List.append_nil] at i2 i3
      repeat (first
    | refine AOps.op rfl rfl ?_ | refine AOps.load rfl rfl rfl rfl rfl ?_ | refine AOps.nil ?_ | refine AWP.seq ?_ | refine AWP.region ?_ | refine AWP.block ?_ | refine AWP.skip ?_ | refine AWP.exit ?_ | refine AWP.scope ?_ | refine AWP.label ?_)
      exact ⟨(acc, g6, H6), ⟨i2, by rw [← i3]; exact i5, i7⟩, ⟨rfl, rfl, rfl, trivial⟩, rfl, Heap.le_refl _⟩
  rintro ⟨acc, g7, H7⟩ ⟨j1, j2, j3⟩
  simp only at j1 j2 j3
  obtain ⟨ks, vs, e1, e2⟩ := (j2.mono (hbase_le H7 g7)).store t3
  simp only at e1 e2
  have j3' := j3.trans (hbase_le H7 g7)
  have fin : (H0.del r).le (H7.set r (rcbox k ks vs (wput S.d ws).2.now)) := fun q x e => by
    have hq : q ≠ r := by rintro rfl; rw [Heap.del_same] at e; cases e
    rw [Heap.set_ne _ _ hq]; exact j3' _ _ e
  dsimp only
  repeat (first
    | refine AOps.op rfl rfl ?_ | refine AOps.load rfl rfl rfl rfl rfl ?_ | refine AOps.nil ?_ | refine AWP.seq ?_ | refine AWP.region ?_ | refine AWP.block ?_ | refine AWP.skip ?_ | refine AWP.exit ?_ | refine AWP.scope ?_ | refine AWP.label ?_)
  refine AOps.storeH rfl rfl rfl e1 rfl rfl ?_
  repeat (first
    | refine AOps.op rfl rfl ?_ | refine AOps.load rfl rfl rfl rfl rfl ?_ | refine AOps.nil ?_ | refine AWP.seq ?_ | refine AWP.region ?_ | refine AWP.block ?_ | refine AWP.skip ?_ | refine AWP.exit ?_ | refine AWP.scope ?_ | refine AWP.label ?_)
  refine AWP.ret ?_
  refine ⟨_, _, rfl, rfl, Heap.le_refl _, g7, ?_, e2, fin⟩
  rw [j1, ← hpre]
  simp [tput]; rfl
end Go.Proofs.Ytlbnhokhhangdaa

/- The document's transactions read. -/
namespace Go.Proofs.Ytlbnhokhhangdaa
open Go Go.Am Go.Pk Go.Lib
set_option linter.unusedVariables false
set_option linter.unusedSimpArgs false
set_option maxRecDepth 10000
attribute [local irreducible] AOps AWP DRun ACalls

def rtakeOut (r : Nat) (W : Except Nat (Txn × Nat × Cod)) (H : Heap) (x : AV) (H' : Heap) : Prop :=
  (H.del r).le H' ∧ match W with
  | .ok y => ∃ tag', x = .tuple [tx y.1 tag', .int .i64 (y.2.1 : Nat), .int .i64 0] ∧ RCodAt H' r y.2.2
  | .error e => e ≠ 0 ∧ ∃ T tg n, x = .tuple [tx T tg, .int .i64 n, .int .i64 (e : Nat)]

theorem rtakeOut.fail {r : Nat} {W : Except Nat (Txn × Nat × Cod)} {H H' : Heap} {e : Nat} (T : Txn) (tg : Tag) (n : Int) (he : e ≠ 0) (ht : W = .error e) (hl : (H.del r).le H') :
    rtakeOut r W H (.tuple [tx T tg, .int .i64 n, .int .i64 (e : Nat)]) H' := by
  refine ⟨hl, ?_⟩
  subst ht
  exact ⟨he, T, tg, n, rfl⟩

/-- Writes ahead of those that are read. -/
def wpre (ws : List Wr) : Except Nat (List Wr × Nat × Dic) → Except Nat (List Wr × Nat × Dic)
  | .error e => .error e
  | .ok (r, a, D) => .ok (ws ++ r, a, D)

theorem wpre_nil (x : Except Nat (List Wr × Nat × Dic)) : wpre [] x = x := by
  rcases x with e | ⟨r, a, D⟩ <;> rfl

theorem wpre_step (ws : List Wr) (b : Str) (n : Nat) (D : Dic) (a : Nat) : wpre ws (wtake b (n + 1) D a) = match wone D b a with
    | .error e => .error e
    | .ok (w, a', D') => wpre (ws ++ [w]) (wtake b n D' a') := by
  rw [wtake]
  rcases wone D b a with e | ⟨w, a', D'⟩
  · rfl
  · simp only
    rcases wtake b n D' a' with e | ⟨r, a2, D2⟩
    · rfl
    · simp [wpre]

attribute [local irreducible] dtake wtake ctake tcheck

set_option maxHeartbeats 2000000 in
theorem R6take_spec (r : Nat) (S : Cod) (b : Str) (tag : Tag) (H : Heap) (h : RCodAt H r S) (hb : b.length < 2 ^ 40) (hnow : S.d.now < 2 ^ 50) :
    ACalls Q.prog 57 [.ptr r 0, .sl (encB b) tag] H (rtakeOut r (ttake S b) H) := by
  have h3 := h.2.1
  have hcod0 := h
  obtain ⟨ks0, ws0, hr0⟩ : ∃ ks ws, H r = some (rcbox S.c ks ws S.d.now) := by
    obtain ⟨-, -, ks, ws, h3, -⟩ := h
    exact ⟨ks, ws, h3⟩
  generalize htt : ttake S b = W
  unfold ttake at htt
  obtain ⟨v1, v2, v3, v4⟩ := vtake_le b
  generalize hx : vtake b = x at *
  obtain ⟨o, u, e1⟩ := x
  simp only at v1 v2 v3 v4
  refine ACalls.body (N := 194) Try.func57 rfl rfl rfl rfl ?_
  repeat (first | refine AOps.op rfl rfl ?_ | refine AOps.load rfl rfl rfl rfl rfl ?_)
  refine AWP.seq (AWP.region ?_)
  refine AOps.allocL 0 rfl rfl rfl rfl ?_
  repeat (first
    | refine AOps.op rfl rfl ?_ | refine AOps.load rfl rfl rfl rfl rfl ?_ | refine AOps.nil ?_ | refine AWP.seq ?_ | refine AWP.region ?_ | refine AWP.block ?_ | refine AWP.skip ?_ | refine AWP.exit ?_ | refine AWP.scope ?_ | refine AWP.label ?_)
  refine AOps.allocL 1 rfl rfl rfl rfl ?_
  repeat (first
    | refine AOps.op rfl rfl ?_ | refine AOps.load rfl rfl rfl rfl rfl ?_ | refine AOps.nil ?_ | refine AWP.seq ?_ | refine AWP.region ?_ | refine AWP.block ?_ | refine AWP.skip ?_ | refine AWP.exit ?_ | refine AWP.scope ?_ | refine AWP.label ?_)
  refine AOps.storeL rfl rfl rfl rfl ?_
  repeat (first
    | refine AOps.op rfl rfl ?_ | refine AOps.load rfl rfl rfl rfl rfl ?_ | refine AOps.nil ?_ | refine AWP.seq ?_ | refine AWP.region ?_ | refine AWP.block ?_ | refine AWP.skip ?_ | refine AWP.exit ?_ | refine AWP.scope ?_ | refine AWP.label ?_)
  refine AOps.call rfl rfl rfl ((R1Take_spec b tag H hb).mono ?_)
  rintro _ H ⟨rfl, rfl⟩
  rw [hx]
  repeat (first
    | refine AOps.op rfl rfl ?_ | refine AOps.load rfl rfl rfl rfl rfl ?_ | refine AOps.nil ?_ | refine AWP.seq ?_ | refine AWP.region ?_ | refine AWP.block ?_ | refine AWP.skip ?_ | refine AWP.exit ?_ | refine AWP.scope ?_ | refine AWP.label ?_)
  refine AWP.cond rfl (fun h => ?_) (fun h => ?_)
  · have he : e1 ≠ 0 := by simp at h; omega
    repeat (first
    | refine AOps.op rfl rfl ?_ | refine AOps.load rfl rfl rfl rfl rfl ?_ | refine AOps.nil ?_ | refine AWP.seq ?_ | refine AWP.region ?_ | refine AWP.block ?_ | refine AWP.skip ?_ | refine AWP.exit ?_ | refine AWP.scope ?_ | refine AWP.label ?_)
    refine AOps.storeL rfl rfl rfl rfl ?_
    repeat (first
    | refine AOps.op rfl rfl ?_ | refine AOps.load rfl rfl rfl rfl rfl ?_ | refine AOps.nil ?_ | refine AWP.seq ?_ | refine AWP.region ?_ | refine AWP.block ?_ | refine AWP.skip ?_ | refine AWP.exit ?_ | refine AWP.scope ?_ | refine AWP.label ?_)
    refine AWP.ret ?_
    exact ⟨_, _, rfl, rfl, Heap.le_refl _, rtakeOut.fail ⟨0, 0, Clk.zero, []⟩ .full 0 he (by rw [← htt]; simp [he]) (Heap.del_le _ _)⟩
  have he1 : e1 = 0 := by simp at h; omega
  subst he1
  repeat (first
    | refine AOps.op rfl rfl ?_ | refine AOps.load rfl rfl rfl rfl rfl ?_ | refine AOps.nil ?_ | refine AWP.seq ?_ | refine AWP.region ?_ | refine AWP.block ?_ | refine AWP.skip ?_ | refine AWP.exit ?_ | refine AWP.scope ?_ | refine AWP.label ?_)
  refine AWP.cond rfl (fun h => ?_) (fun h => ?_)
  · have he : o > 4611686018427387903 := by simp at h; omega
    repeat (first
    | refine AOps.op rfl rfl ?_ | refine AOps.load rfl rfl rfl rfl rfl ?_ | refine AOps.nil ?_ | refine AWP.seq ?_ | refine AWP.region ?_ | refine AWP.block ?_ | refine AWP.skip ?_ | refine AWP.exit ?_ | refine AWP.scope ?_ | refine AWP.label ?_)
    refine AOps.storeL rfl rfl rfl rfl ?_
    repeat (first
    | refine AOps.op rfl rfl ?_ | refine AOps.load rfl rfl rfl rfl rfl ?_ | refine AOps.nil ?_ | refine AWP.seq ?_ | refine AWP.region ?_ | refine AWP.block ?_ | refine AWP.skip ?_ | refine AWP.exit ?_ | refine AWP.scope ?_ | refine AWP.label ?_)
    refine AWP.ret ?_
    exact ⟨_, _, rfl, rfl, Heap.le_refl _, rtakeOut.fail (e := 1) ⟨0, 0, Clk.zero, []⟩ .full 0 (by decide) (by rw [← htt]; simp [he]) (Heap.del_le _ _)⟩
  have ho : ¬ o > 4611686018427387903 := by simp at h; omega
  simp only [ne_eq, not_true, if_false, if_neg ho] at htt
  obtain ⟨y1, y2, y3, y4⟩ := vtake_le (b.drop u)
  rw [List.length_drop] at y1
  generalize hy : vtake (b.drop u) = y at *
  obtain ⟨q, s1, e2⟩ := y
  simp only at y1 y2 y3 y4
  repeat (first
    | refine AOps.op rfl rfl ?_ | refine AOps.load rfl rfl rfl rfl rfl ?_ | refine AOps.nil ?_ | refine AWP.seq ?_ | refine AWP.region ?_ | refine AWP.block ?_ | refine AWP.skip ?_ | refine AWP.exit ?_ | refine AWP.scope ?_ | refine AWP.label ?_)
  refine AOps.step rfl rfl (cutFrom u rfl rfl v1 ?_)
  refine AOps.call rfl rfl rfl ((R1Take_spec (b.drop u) .no H (by rw [List.length_drop]; omega)).mono ?_)
  rintro _ H ⟨rfl, rfl⟩
  rw [hy]
  repeat (first
    | refine AOps.op rfl rfl ?_ | refine AOps.load rfl rfl rfl rfl rfl ?_ | refine AOps.nil ?_ | refine AWP.seq ?_ | refine AWP.region ?_ | refine AWP.block ?_ | refine AWP.skip ?_ | refine AWP.exit ?_ | refine AWP.scope ?_ | refine AWP.label ?_)
  refine AWP.cond rfl (fun h => ?_) (fun h => ?_)
  · have he : e2 ≠ 0 := by simp at h; omega
    repeat (first
    | refine AOps.op rfl rfl ?_ | refine AOps.load rfl rfl rfl rfl rfl ?_ | refine AOps.nil ?_ | refine AWP.seq ?_ | refine AWP.region ?_ | refine AWP.block ?_ | refine AWP.skip ?_ | refine AWP.exit ?_ | refine AWP.scope ?_ | refine AWP.label ?_)
    refine AOps.storeL rfl rfl rfl rfl ?_
    repeat (first
    | refine AOps.op rfl rfl ?_ | refine AOps.load rfl rfl rfl rfl rfl ?_ | refine AOps.nil ?_ | refine AWP.seq ?_ | refine AWP.region ?_ | refine AWP.block ?_ | refine AWP.skip ?_ | refine AWP.exit ?_ | refine AWP.scope ?_ | refine AWP.label ?_)
    refine AWP.ret ?_
    exact ⟨_, _, rfl, rfl, Heap.le_refl _, rtakeOut.fail ⟨0, 0, Clk.zero, []⟩ .full 0 he (by rw [← htt]; simp [he]) (Heap.del_le _ _)⟩
  have he2 : e2 = 0 := by simp at h; omega
  subst he2
  repeat (first
    | refine AOps.op rfl rfl ?_ | refine AOps.load rfl rfl rfl rfl rfl ?_ | refine AOps.nil ?_ | refine AWP.seq ?_ | refine AWP.region ?_ | refine AWP.block ?_ | refine AWP.skip ?_ | refine AWP.exit ?_ | refine AWP.scope ?_ | refine AWP.label ?_)
  refine AWP.cond rfl (fun h => ?_) (fun h => ?_)
  · have he : q > 4611686018427387903 := by simp at h; omega
    repeat (first
    | refine AOps.op rfl rfl ?_ | refine AOps.load rfl rfl rfl rfl rfl ?_ | refine AOps.nil ?_ | refine AWP.seq ?_ | refine AWP.region ?_ | refine AWP.block ?_ | refine AWP.skip ?_ | refine AWP.exit ?_ | refine AWP.scope ?_ | refine AWP.label ?_)
    refine AOps.storeL rfl rfl rfl rfl ?_
    repeat (first
    | refine AOps.op rfl rfl ?_ | refine AOps.load rfl rfl rfl rfl rfl ?_ | refine AOps.nil ?_ | refine AWP.seq ?_ | refine AWP.region ?_ | refine AWP.block ?_ | refine AWP.skip ?_ | refine AWP.exit ?_ | refine AWP.scope ?_ | refine AWP.label ?_)
    refine AWP.ret ?_
    exact ⟨_, _, rfl, rfl, Heap.le_refl _, rtakeOut.fail (e := 1) ⟨0, 0, Clk.zero, []⟩ .full 0 (by decide) (by rw [← htt]; simp [he]) (Heap.del_le _ _)⟩
  have hq : ¬ q > 4611686018427387903 := by simp at h; omega
  simp only [ne_eq, not_true, if_false, if_neg hq] at htt
  have es2 : IntKind.i64.wrap ((u : Int) + (s1 : Nat)) = ((u + s1 : Nat) : Int) := wrap_i64 (n := u + s1) (by omega)
  have eo : IntKind.i64.wrap ((o : Nat) : Int) = ((o : Nat) : Int) := wrap_i64 (by omega)
  have eq : IntKind.i64.wrap ((q : Nat) : Int) = ((q : Nat) : Int) := wrap_i64 (by omega)
  have z1 := ctake_le S.c (b.drop (u + s1))
  rw [List.length_drop] at z1
  generalize hz : ctake S.c (b.drop (u + s1)) = z at *
  obtain ⟨k, s2, e3⟩ := z
  simp only at z1 htt
  repeat (first
    | refine AOps.op rfl rfl ?_ | refine AOps.load rfl rfl rfl rfl rfl ?_ | refine AOps.nil ?_ | refine AWP.seq ?_ | refine AWP.region ?_ | refine AWP.block ?_ | refine AWP.skip ?_ | refine AWP.exit ?_ | refine AWP.scope ?_ | refine AWP.label ?_)
  rw [es2, eo]
  refine AOps.storeL rfl rfl rfl rfl ?_
  repeat (first
    | refine AOps.op rfl rfl ?_ | refine AOps.load rfl rfl rfl rfl rfl ?_ | refine AOps.nil ?_ | refine AWP.seq ?_ | refine AWP.region ?_ | refine AWP.block ?_ | refine AWP.skip ?_ | refine AWP.exit ?_ | refine AWP.scope ?_ | refine AWP.label ?_)
  rw [eq]
  refine AOps.storeL rfl rfl rfl rfl ?_
  repeat (first
    | refine AOps.op rfl rfl ?_ | refine AOps.load rfl rfl rfl rfl rfl ?_ | refine AOps.nil ?_ | refine AWP.seq ?_ | refine AWP.region ?_ | refine AWP.block ?_ | refine AWP.skip ?_ | refine AWP.exit ?_ | refine AWP.scope ?_ | refine AWP.label ?_)
  refine AWP.draw [[], [0], [0, 1], [0, 1, 2], [], [], [4, 5], [0, 1, 2, 3, 4, 5, 6], [0, 1, 2, 3, 4, 5, 6, 7], [0, 1, 2, 3, 4, 5, 6, 7, 8], [0, 1, 2, 3, 4, 5, 6, 7, 8], [0, 1, 2, 3, 4, 5, 6, 7, 8], [], [0, 1, 2, 3, 4, 5, 6, 7, 8, 9, 12], [0, 1, 2, 3, 4, 5, 6, 7, 8, 9, 10, 12, 13], [0, 1, 2, 3, 4, 5, 6, 7, 8, 9, 10, 11, 12, 13, 14]] [(0, .pure), (1, .pure), (2, .pure), (3, .read), (4, .pure), (5, .pure), (6, .pure), (7, .pure), (8, .pure), (9, .pure), (10, .pure), (11, .pure), (12, .eff), (13, .eff), (14, .pure), (15, .pure)] rfl ?_
  repeat (first | refine DRun.op rfl rfl rfl ?_ | refine DRun.loadI rfl rfl rfl rfl rfl ?_ | refine DRun.load rfl rfl rfl rfl rfl rfl ?_ | refine DRun.nil ?_)
  refine DRun.load rfl rfl rfl (cellsAt_ptr hr0) rfl rfl ?_
  repeat (first | refine DRun.op rfl rfl rfl ?_ | refine DRun.loadI rfl rfl rfl rfl rfl ?_ | refine DRun.load rfl rfl rfl rfl rfl rfl ?_ | refine DRun.nil ?_)
  refine DRun.pureT rfl rfl rfl (fun loc H => cutFrom (u + s1) rfl rfl (by omega) ⟨rfl, rfl, rfl⟩) ?_
  refine DRun.callP rfl rfl rfl rfl (fun H => R4Take_spec S.c (b.drop (u + s1)) .no h3 (by rw [List.length_drop]; omega) H) ?_
  rw [hz]
  repeat (first | refine DRun.op rfl rfl rfl ?_ | refine DRun.loadI rfl rfl rfl rfl rfl ?_ | refine DRun.load rfl rfl rfl rfl rfl rfl ?_ | refine DRun.nil ?_)
  refine DRun.eff rfl rfl rfl (OpT.allocL rfl rfl rfl ⟨?_, ?_⟩)
  · repeat (first | exact Chk.nil | refine Chk.pre rfl ?_ | refine Chk.load rfl (cellsAt_ptr hr0) rfl rfl ?_)
  repeat (first | refine DRun.op rfl rfl rfl ?_ | refine DRun.loadI rfl rfl rfl rfl rfl ?_ | refine DRun.load rfl rfl rfl rfl rfl rfl ?_ | refine DRun.nil ?_)
  refine DRun.eff rfl rfl rfl (OpT.storeL rfl rfl rfl rfl ⟨?_, ?_⟩)
  · repeat (first | exact Chk.nil | refine Chk.pre rfl ?_ | refine Chk.load rfl (cellsAt_ptr hr0) rfl rfl ?_)
  repeat (first | refine DRun.op rfl rfl rfl ?_ | refine DRun.loadI rfl rfl rfl rfl rfl ?_ | refine DRun.load rfl rfl rfl rfl rfl rfl ?_ | refine DRun.nil ?_)
  repeat (first
    | refine AOps.op rfl rfl ?_ | refine AOps.load rfl rfl rfl rfl rfl ?_ | refine AOps.nil ?_ | refine AWP.seq ?_ | refine AWP.region ?_ | refine AWP.block ?_ | refine AWP.skip ?_ | refine AWP.exit ?_ | refine AWP.scope ?_ | refine AWP.label ?_)
  refine AWP.cond rfl (fun h => ?_) (fun h => ?_)
  · have he : e3 ≠ 0 := by simp at h; omega
    repeat (first
    | refine AOps.op rfl rfl ?_ | refine AOps.load rfl rfl rfl rfl rfl ?_ | refine AOps.nil ?_ | refine AWP.seq ?_ | refine AWP.region ?_ | refine AWP.block ?_ | refine AWP.skip ?_ | refine AWP.exit ?_ | refine AWP.scope ?_ | refine AWP.label ?_)
    refine AOps.storeL rfl rfl rfl rfl ?_
    repeat (first
    | refine AOps.op rfl rfl ?_ | refine AOps.load rfl rfl rfl rfl rfl ?_ | refine AOps.nil ?_ | refine AWP.seq ?_ | refine AWP.region ?_ | refine AWP.block ?_ | refine AWP.skip ?_ | refine AWP.exit ?_ | refine AWP.scope ?_ | refine AWP.label ?_)
    refine AWP.ret ?_
    exact ⟨_, _, rfl, rfl, Heap.le_refl _, rtakeOut.fail ⟨o, q, Clk.zero, []⟩ .full 0 he (by rw [← htt]; simp [he]) (Heap.del_le _ _)⟩
  have he3 : e3 = 0 := by simp at h; omega
  subst he3
  simp only [ne_eq, not_true, if_false] at htt
  have es3 : IntKind.i64.wrap (((u + s1 : Nat) : Int) + (s2 : Nat)) = ((u + s1 + s2 : Nat) : Int) := wrap_i64 (n := u + s1 + s2) (by omega)
  obtain ⟨m1, m2, m3, m4⟩ := vtake_le (b.drop (u + s1 + s2))
  rw [List.length_drop] at m1
  generalize hm : vtake (b.drop (u + s1 + s2)) = m at *
  obtain ⟨m, s3, e4⟩ := m
  simp only at m1 m2 m3 m4 htt
  repeat (first
    | refine AOps.op rfl rfl ?_ | refine AOps.load rfl rfl rfl rfl rfl ?_ | refine AOps.nil ?_ | refine AWP.seq ?_ | refine AWP.region ?_ | refine AWP.block ?_ | refine AWP.skip ?_ | refine AWP.exit ?_ | refine AWP.scope ?_ | refine AWP.label ?_)
  refine AOps.storeL rfl rfl rfl rfl ?_
  repeat (first
    | refine AOps.op rfl rfl ?_ | refine AOps.load rfl rfl rfl rfl rfl ?_ | refine AOps.nil ?_ | refine AWP.seq ?_ | refine AWP.region ?_ | refine AWP.block ?_ | refine AWP.skip ?_ | refine AWP.exit ?_ | refine AWP.scope ?_ | refine AWP.label ?_)
  rw [es3]
  refine AOps.step rfl rfl (cutFrom (u + s1 + s2) rfl rfl (by omega) ?_)
  refine AOps.call rfl rfl rfl ((R1Take_spec (b.drop (u + s1 + s2)) .no H (by rw [List.length_drop]; omega)).mono ?_)
  rintro _ H ⟨rfl, rfl⟩
  rw [hm]
  repeat (first
    | refine AOps.op rfl rfl ?_ | refine AOps.load rfl rfl rfl rfl rfl ?_ | refine AOps.nil ?_ | refine AWP.seq ?_ | refine AWP.region ?_ | refine AWP.block ?_ | refine AWP.skip ?_ | refine AWP.exit ?_ | refine AWP.scope ?_ | refine AWP.label ?_)
  refine AWP.cond rfl (fun h => ?_) (fun h => ?_)
  · have he : e4 ≠ 0 := by simp at h; omega
    repeat (first
    | refine AOps.op rfl rfl ?_ | refine AOps.load rfl rfl rfl rfl rfl ?_ | refine AOps.nil ?_ | refine AWP.seq ?_ | refine AWP.region ?_ | refine AWP.block ?_ | refine AWP.skip ?_ | refine AWP.exit ?_ | refine AWP.scope ?_ | refine AWP.label ?_)
    refine AOps.storeL rfl rfl rfl rfl ?_
    repeat (first
    | refine AOps.op rfl rfl ?_ | refine AOps.load rfl rfl rfl rfl rfl ?_ | refine AOps.nil ?_ | refine AWP.seq ?_ | refine AWP.region ?_ | refine AWP.block ?_ | refine AWP.skip ?_ | refine AWP.exit ?_ | refine AWP.scope ?_ | refine AWP.label ?_)
    refine AWP.ret ?_
    exact ⟨_, _, rfl, rfl, Heap.le_refl _, rtakeOut.fail ⟨o, q, k, []⟩ .full 0 he (by rw [← htt]; simp [he]) (Heap.del_le _ _)⟩
  have he4 : e4 = 0 := by simp at h; omega
  subst he4
  repeat (first
    | refine AOps.op rfl rfl ?_ | refine AOps.load rfl rfl rfl rfl rfl ?_ | refine AOps.nil ?_ | refine AWP.seq ?_ | refine AWP.region ?_ | refine AWP.block ?_ | refine AWP.skip ?_ | refine AWP.exit ?_ | refine AWP.scope ?_ | refine AWP.label ?_)
  refine AWP.cond rfl (fun h => ?_) (fun h => ?_)
  · have he : m > 16 := by simp at h; omega
    repeat (first
    | refine AOps.op rfl rfl ?_ | refine AOps.load rfl rfl rfl rfl rfl ?_ | refine AOps.nil ?_ | refine AWP.seq ?_ | refine AWP.region ?_ | refine AWP.block ?_ | refine AWP.skip ?_ | refine AWP.exit ?_ | refine AWP.scope ?_ | refine AWP.label ?_)
    refine AOps.storeL rfl rfl rfl rfl ?_
    repeat (first
    | refine AOps.op rfl rfl ?_ | refine AOps.load rfl rfl rfl rfl rfl ?_ | refine AOps.nil ?_ | refine AWP.seq ?_ | refine AWP.region ?_ | refine AWP.block ?_ | refine AWP.skip ?_ | refine AWP.exit ?_ | refine AWP.scope ?_ | refine AWP.label ?_)
    refine AWP.ret ?_
    exact ⟨_, _, rfl, rfl, Heap.le_refl _, rtakeOut.fail (e := 4) ⟨o, q, k, []⟩ .full 0 (by decide) (by rw [← htt]; simp [he]) (Heap.del_le _ _)⟩
  have hm16 : ¬ m > 16 := by simp at h; omega
  simp only [ne_eq, not_true, if_false, if_neg hm16] at htt
  have es4 : IntKind.i64.wrap (((u + s1 + s2 : Nat) : Int) + (s3 : Nat)) = ((u + s1 + s2 + s3 : Nat) : Int) := wrap_i64 (n := u + s1 + s2 + s3) (by omega)
  have em : IntKind.i64.wrap ((m : Nat) : Int) = ((m : Nat) : Int) := wrap_i64 (by omega)
  generalize ha0 : u + s1 + s2 + s3 = a0 at *
  repeat (first
    | refine AOps.op rfl rfl ?_ | refine AOps.load rfl rfl rfl rfl rfl ?_ | refine AOps.nil ?_ | refine AWP.seq ?_ | refine AWP.region ?_ | refine AWP.skip ?_ | refine AWP.exit ?_ | refine AWP.scope ?_ | refine AWP.label ?_)
  rw [es4]
  refine AWP.thnA (α := List Wr × Nat × Dic × Tag × Heap) (fun a => wtake b m S.d a0 = .ok (a.1, a.2.1, a.2.2.1) ∧ a.1.length ≤ 16 ∧ RCodAt (hbase a.2.2.2.2 a.2.2.2.1) r ⟨a.2.2.1, S.c⟩ ∧ (H.del r).le (hbase a.2.2.2.2 a.2.2.2.1))
    (fun a => [(0, .ptr r 0), (4, .lptr 0 0), (7, .lptr 1 0), (9, .int .i64 a.2.1)])
    (fun a => [[.int .i64 0, .int .i64 0, .int .i64 0, .int .i64 0, .int .i64 0, .sl [] .full], [.int .i64 o, .int .i64 q, .int .i64 k.a, .int .i64 k.b, .int .i64 k.c, .sl (a.1.map wr) a.2.2.2.1], [.int .i64 k.a, .int .i64 k.b, .int .i64 k.c]]) (fun a => a.2.2.2.2) ?_ ?_
  · refine AWP.block ?_
    refine AWP.loopA (α := Nat × List Wr × Nat × Dic × Tag × Heap) (fun a => a.1 ≤ m ∧ wtake b m S.d a0 = wpre a.2.1 (wtake b (m - a.1) a.2.2.2.1 a.2.2.1) ∧ a.2.1.length = a.1 ∧ App a.2.2.2.2.2 3 a.2.1.length a.2.2.2.2.1 ∧
        RCodAt (hbase a.2.2.2.2.2 a.2.2.2.2.1) r ⟨a.2.2.2.1, S.c⟩ ∧ (H.del r).le (hbase a.2.2.2.2.2 a.2.2.2.2.1) ∧ a.2.2.1 ≤ b.length ∧ a.2.2.2.1.now ≤ S.d.now + a.1) (fun a => m - a.1)
      (fun a => [(0, .ptr r 0), (1, .sl (encB b) tag), (4, .lptr 0 0), (7, .lptr 1 0), (9, .int .i64 a.2.2.1), (17, .int .u64 m), (20, .int .i64 a.1)])
      (fun a => [[.int .i64 0, .int .i64 0, .int .i64 0, .int .i64 0, .int .i64 0, .sl [] .full], [.int .i64 o, .int .i64 q, .int .i64 k.a, .int .i64 k.b, .int .i64 k.c, .sl (a.2.1.map wr) a.2.2.2.2.1], [.int .i64 k.a, .int .i64 k.b, .int .i64 k.c]])
      (fun a => a.2.2.2.2.2) (0, [], a0, S.d, .full, H)
      ⟨by simp, by rw [wpre_nil]; rfl, by simp, trivial, hcod0, Heap.del_le _ _, by simp only; omega, by simp⟩ ⟨rfl, rfl, rfl, rfl, rfl, rfl, rfl, trivial⟩ rfl (Heap.le_refl _) ?_
    rintro ⟨i, ws, at', D, tg, H7⟩ ⟨i1, i2, i3, i4, i5, i6, i7, i8⟩
    simp only at i1 i2 i3 i4 i5 i6 i7 i8
    dsimp only
    repeat (first
    | refine AOps.op rfl rfl ?_ | refine AOps.load rfl rfl rfl rfl rfl ?_ | refine AOps.nil ?_ | refine AWP.seq ?_ | refine AWP.region ?_ | refine AWP.block ?_ | refine AWP.skip ?_ | refine AWP.exit ?_ | refine AWP.scope ?_ | refine AWP.label ?_)
    rw [em]
    refine AWP.cond rfl (fun h => ?_) (fun h => ?_)
    · have hlt : i < m := by simp at h; omega
      have ei : IntKind.i64.wrap ((i : Int) + 1) = ((i + 1 : Nat) : Int) := wrap_i64 (n := i + 1) (by omega)
      have hsub : m - i = (m - (i + 1)) + 1 := by omega
      rw [hsub, wpre_step] at i2
      unfold wone at i2
      have d1 := dtake_le D (b.drop at')
      have d2 := dtake_now D (b.drop at')
      rw [List.length_drop] at d1
      generalize hdt : dtake D (b.drop at') = dt at *
      obtain ⟨key, n1, f1, D'⟩ := dt
      simp only at d1 d2
      simp only at i2
      have i5' := i5.mono (hbase_le H7 tg)
      obtain ⟨cs, hcs⟩ := i5'.box
      have ea1 : IntKind.i64.wrap ((at' : Int) + (n1 : Nat)) = ((at' + n1 : Nat) : Int) := wrap_i64 (n := at' + n1) (by omega)
      repeat (first
    | refine AOps.op rfl rfl ?_ | refine AOps.load rfl rfl rfl rfl rfl ?_ | refine AOps.nil ?_ | refine AWP.seq ?_ | refine AWP.region ?_ | refine AWP.block ?_ | refine AWP.skip ?_ | refine AWP.exit ?_ | refine AWP.scope ?_ | refine AWP.label ?_)
      refine AWP.draw [[], [0], [0, 1], [], [], [3, 4], [0, 1, 2, 3, 4, 5], [0, 1, 2, 3, 4, 5, 6], [0, 1, 2, 3, 4, 5, 6, 7], [0, 1, 2, 3, 4, 5, 6, 7], [0, 1, 2, 3, 4, 5, 6, 7], [0, 1, 2, 3, 4, 5, 6, 7, 8], [0, 1, 2, 3, 4, 5, 6, 7, 8, 9, 11], [0, 1, 2, 3, 4, 5, 6, 7, 8, 9, 10, 11, 12]] [(0, .pure), (1, .pure), (2, .pure), (3, .pure), (4, .pure), (5, .pure), (6, .eff), (7, .pure), (8, .pure), (9, .pure), (10, .pure), (11, .pure), (12, .pure), (13, .pure)] rfl ?_
      repeat (first | refine DRun.op rfl rfl rfl ?_ | refine DRun.loadI rfl rfl rfl rfl rfl ?_ | refine DRun.load rfl rfl rfl rfl rfl rfl ?_ | refine DRun.nil ?_)
      refine DRun.pureT rfl rfl rfl (fun loc H => cutFrom at' rfl rfl i7 ⟨rfl, rfl, rfl⟩) ?_
      repeat (first | refine DRun.op rfl rfl rfl ?_ | refine DRun.loadI rfl rfl rfl rfl rfl ?_ | refine DRun.load rfl rfl rfl rfl rfl rfl ?_ | refine DRun.nil ?_)
      refine DRun.eff rfl rfl rfl (OpT.callF rfl rfl ((R5Take_spec r ⟨D, S.c⟩ (b.drop at') .no H7 i5' (by rw [List.length_drop]; omega) (by simp only; omega)).mono ?_))
      rintro _ H8 ⟨rfl, k1, k2⟩
      refine ⟨?_, ?_⟩
      · repeat (first | exact Chk.nil | refine Chk.pre rfl ?_)
      simp only at k1
      rw [hdt] at k1 ⊢
      simp only at k1
      dsimp only
      obtain ⟨a8, c8⟩ := App.after i4 hcs k2
      have hcod8 := App.rcod a8 k1
      have old8 : (H.del r).le (hbase H8 tg) := fun q x e => by
        have hq : q ≠ r := by rintro rfl; rw [Heap.del_same] at e; cases e
        exact c8 _ _ (by rw [Heap.del_ne _ hq]; exact i6 _ _ e)
      repeat (first | refine DRun.op rfl rfl rfl ?_ | refine DRun.loadI rfl rfl rfl rfl rfl ?_ | refine DRun.load rfl rfl rfl rfl rfl rfl ?_ | refine DRun.nil ?_)
      repeat (first
    | refine AOps.op rfl rfl ?_ | refine AOps.load rfl rfl rfl rfl rfl ?_ | refine AOps.nil ?_ | refine AWP.seq ?_ | refine AWP.region ?_ | refine AWP.block ?_ | refine AWP.skip ?_ | refine AWP.exit ?_ | refine AWP.scope ?_ | refine AWP.label ?_)
      refine AWP.cond rfl (fun h => ?_) (fun h => ?_)
      · have he : f1 ≠ 0 := by simp at h; omega
        rw [if_pos he] at i2
        simp only at i2
        repeat (first
    | refine AOps.op rfl rfl ?_ | refine AOps.load rfl rfl rfl rfl rfl ?_ | refine AOps.nil ?_ | refine AWP.seq ?_ | refine AWP.region ?_ | refine AWP.block ?_ | refine AWP.skip ?_ | refine AWP.exit ?_ | refine AWP.scope ?_ | refine AWP.label ?_)
        refine AOps.storeL rfl rfl rfl rfl ?_
        repeat (first
    | refine AOps.op rfl rfl ?_ | refine AOps.load rfl rfl rfl rfl rfl ?_ | refine AOps.nil ?_ | refine AWP.seq ?_ | refine AWP.region ?_ | refine AWP.block ?_ | refine AWP.skip ?_ | refine AWP.exit ?_ | refine AWP.scope ?_ | refine AWP.label ?_)
        refine AWP.ret ?_
        exact ⟨_, _, rfl, rfl, Heap.le_refl _, rtakeOut.fail ⟨o, q, k, ws⟩ tg 0 he (by rw [← htt, i2]) (old8.trans (hbase_le _ _))⟩
      have he : ¬ f1 ≠ 0 := by simp at h; omega
      rw [if_neg he] at i2
      obtain ⟨w1, w2, w3, w4⟩ := vtake_le (b.drop (at' + n1))
      rw [List.length_drop] at w1
      generalize hvt : vtake (b.drop (at' + n1)) = vt at *
      obtain ⟨v, n2, f2⟩ := vt
      simp only at w1 w2 w3 w4 i2
      repeat (first
    | refine AOps.op rfl rfl ?_ | refine AOps.load rfl rfl rfl rfl rfl ?_ | refine AOps.nil ?_ | refine AWP.seq ?_ | refine AWP.region ?_ | refine AWP.block ?_ | refine AWP.skip ?_ | refine AWP.exit ?_ | refine AWP.scope ?_ | refine AWP.label ?_)
      rw [ea1]
      refine AOps.step rfl rfl (cutFrom (at' + n1) rfl rfl (by omega) ?_)
      refine AOps.call rfl rfl rfl ((R1Take_spec (b.drop (at' + n1)) .no H8 (by rw [List.length_drop]; omega)).mono ?_)
      rintro _ H8 ⟨rfl, rfl⟩
      rw [hvt]
      repeat (first
    | refine AOps.op rfl rfl ?_ | refine AOps.load rfl rfl rfl rfl rfl ?_ | refine AOps.nil ?_ | refine AWP.seq ?_ | refine AWP.region ?_ | refine AWP.block ?_ | refine AWP.skip ?_ | refine AWP.exit ?_ | refine AWP.scope ?_ | refine AWP.label ?_)
      refine AWP.cond rfl (fun h => ?_) (fun h => ?_)
      · have he : f2 ≠ 0 := by simp at h; omega
        rw [if_pos he] at i2
        simp only at i2
        repeat (first
    | refine AOps.op rfl rfl ?_ | refine AOps.load rfl rfl rfl rfl rfl ?_ | refine AOps.nil ?_ | refine AWP.seq ?_ | refine AWP.region ?_ | refine AWP.block ?_ | refine AWP.skip ?_ | refine AWP.exit ?_ | refine AWP.scope ?_ | refine AWP.label ?_)
        refine AOps.storeL rfl rfl rfl rfl ?_
        repeat (first
    | refine AOps.op rfl rfl ?_ | refine AOps.load rfl rfl rfl rfl rfl ?_ | refine AOps.nil ?_ | refine AWP.seq ?_ | refine AWP.region ?_ | refine AWP.block ?_ | refine AWP.skip ?_ | refine AWP.exit ?_ | refine AWP.scope ?_ | refine AWP.label ?_)
        refine AWP.ret ?_
        exact ⟨_, _, rfl, rfl, Heap.le_refl _, rtakeOut.fail ⟨o, q, k, ws⟩ tg 0 he (by rw [← htt, i2]) (old8.trans (hbase_le _ _))⟩
      have he : ¬ f2 ≠ 0 := by simp at h; omega
      rw [if_neg he] at i2
      have ea2 : IntKind.i64.wrap (((at' + n1 : Nat) : Int) + (n2 : Nat)) = ((at' + n1 + n2 : Nat) : Int) := wrap_i64 (n := at' + n1 + n2) (by omega)
      repeat (first
    | refine AOps.op rfl rfl ?_ | refine AOps.load rfl rfl rfl rfl rfl ?_ | refine AOps.nil ?_ | refine AWP.seq ?_ | refine AWP.region ?_ | refine AWP.block ?_ | refine AWP.skip ?_ | refine AWP.exit ?_ | refine AWP.scope ?_ | refine AWP.label ?_)
      refine AWP.cond rfl (fun h => ?_) (fun h => ?_)
      · have he : v > 257 := by simp at h; omega
        rw [if_pos he] at i2
        simp only at i2
        repeat (first
    | refine AOps.op rfl rfl ?_ | refine AOps.load rfl rfl rfl rfl rfl ?_ | refine AOps.nil ?_ | refine AWP.seq ?_ | refine AWP.region ?_ | refine AWP.block ?_ | refine AWP.skip ?_ | refine AWP.exit ?_ | refine AWP.scope ?_ | refine AWP.label ?_)
        refine AOps.storeL rfl rfl rfl rfl ?_
        repeat (first
    | refine AOps.op rfl rfl ?_ | refine AOps.load rfl rfl rfl rfl rfl ?_ | refine AOps.nil ?_ | refine AWP.seq ?_ | refine AWP.region ?_ | refine AWP.block ?_ | refine AWP.skip ?_ | refine AWP.exit ?_ | refine AWP.scope ?_ | refine AWP.label ?_)
        refine AWP.ret ?_
        exact ⟨_, _, rfl, rfl, Heap.le_refl _, rtakeOut.fail (e := 4) ⟨o, q, k, ws⟩ tg 0 (by decide) (by rw [← htt, i2]) (old8.trans (hbase_le _ _))⟩
      have he : ¬ v > 257 := by simp at h; omega
      rw [if_neg he] at i2
      have ev : IntKind.i64.wrap ((v : Nat) : Int) = ((v : Nat) : Int) := wrap_i64 (by omega)
      repeat (first
    | refine AOps.op rfl rfl ?_ | refine AOps.load rfl rfl rfl rfl rfl ?_ | refine AOps.nil ?_ | refine AWP.seq ?_ | refine AWP.region ?_ | refine AWP.block ?_ | refine AWP.skip ?_ | refine AWP.exit ?_ | refine AWP.scope ?_ | refine AWP.label ?_)
      rw [ea2]
      refine AWP.cond rfl (fun h => ?_) (fun h => ?_)
      · have he : v = 0 := by simp at h; omega
        rw [if_pos he] at i2
        simp only at i2
        repeat (first
    | refine AOps.op rfl rfl ?_ | refine AOps.load rfl rfl rfl rfl rfl ?_ | refine AOps.nil ?_ | refine AWP.seq ?_ | refine AWP.region ?_ | refine AWP.block ?_ | refine AWP.skip ?_ | refine AWP.exit ?_ | refine AWP.scope ?_ | refine AWP.label ?_)
        refine AOps.buildSlice (els := [⟨key, [], true⟩].map wr) rfl rfl rfl ?_
        refine AOps.append rfl rfl rfl rfl rfl rfl rfl rfl rfl (els_wr ws) (els_wr [⟨key, [], true⟩]) (by rw [wr_len]; exact a8) ?_ ?_ ?_
        · rw [wr_len, wr_len]; simp only [maxLen, List.length_cons, List.length_nil]; omega
        · rw [wr_len, wr_len]; simp only [List.length_cons, List.length_nil]; omega
        intro tg9 H9 a9 b9
        rw [← List.map_append] at *
        rw [← b9] at hcod8 old8
        repeat (first
    | refine AOps.op rfl rfl ?_ | refine AOps.load rfl rfl rfl rfl rfl ?_ | refine AOps.nil ?_ | refine AWP.seq ?_ | refine AWP.region ?_ | refine AWP.block ?_ | refine AWP.skip ?_ | refine AWP.exit ?_ | refine AWP.scope ?_ | refine AWP.label ?_)
        refine AOps.storeL rfl rfl rfl rfl ?_
        repeat (first
    | refine AOps.op rfl rfl ?_ | refine AOps.load rfl rfl rfl rfl rfl ?_ | refine AOps.nil ?_ | refine AWP.seq ?_ | refine AWP.region ?_ | refine AWP.block ?_ | refine AWP.skip ?_ | refine AWP.exit ?_ | refine AWP.scope ?_ | refine AWP.label ?_)
        refine ⟨(i + 1, ws ++ [⟨key, [], true⟩], at' + n1 + n2, D', tg9, H9), by ((try dsimp only); omega), ⟨hlt, i2, by simp; omega, by simpa [wr_len] using a9, hcod8, old8, by ((try dsimp only); omega), by ((try dsimp only); omega)⟩,
          ⟨rfl, rfl, rfl, rfl, rfl, rfl, congrArg (fun x => some (AV.int .i64 x)) ei, trivial⟩, rfl, Heap.le_refl _⟩
      have hv0 : ¬ v = 0 := by simp at h; omega
      rw [if_neg hv0] at i2
      have ea3 : IntKind.i64.wrap (IntKind.i64.wrap (((at' + n1 + n2 : Nat) : Int) + IntKind.i64.wrap ((v : Nat) : Int)) - 1) = ((at' + n1 + n2 + (v - 1) : Nat) : Int) := by
        rw [ev, show IntKind.i64.wrap (((at' + n1 + n2 : Nat) : Int) + ((v : Nat) : Int)) = ((at' + n1 + n2 + v : Nat) : Int) from wrap_i64 (n := at' + n1 + n2 + v) (by omega), wrap_i64' (by omega) (by omega)]; omega
      have elen := encB_length b
      repeat (first
    | refine AOps.op rfl rfl ?_ | refine AOps.load rfl rfl rfl rfl rfl ?_ | refine AOps.nil ?_ | refine AWP.seq ?_ | refine AWP.region ?_ | refine AWP.block ?_ | refine AWP.skip ?_ | refine AWP.exit ?_ | refine AWP.scope ?_ | refine AWP.label ?_)
      rw [ea3, elen]
      refine AWP.cond rfl (fun h => ?_) (fun h => ?_)
      · have he : b.length - (at' + n1 + n2) < v - 1 := by simp at h; omega
        rw [if_pos he] at i2
        simp only at i2
        repeat (first
    | refine AOps.op rfl rfl ?_ | refine AOps.load rfl rfl rfl rfl rfl ?_ | refine AOps.nil ?_ | refine AWP.seq ?_ | refine AWP.region ?_ | refine AWP.block ?_ | refine AWP.skip ?_ | refine AWP.exit ?_ | refine AWP.scope ?_ | refine AWP.label ?_)
        refine AOps.storeL rfl rfl rfl rfl ?_
        repeat (first
    | refine AOps.op rfl rfl ?_ | refine AOps.load rfl rfl rfl rfl rfl ?_ | refine AOps.nil ?_ | refine AWP.seq ?_ | refine AWP.region ?_ | refine AWP.block ?_ | refine AWP.skip ?_ | refine AWP.exit ?_ | refine AWP.scope ?_ | refine AWP.label ?_)
        refine AWP.ret ?_
        exact ⟨_, _, rfl, rfl, Heap.le_refl _, rtakeOut.fail (e := 2) ⟨o, q, k, ws⟩ tg 0 (by decide) (by rw [← htt, i2]) (old8.trans (hbase_le _ _))⟩
      have he : ¬ b.length - (at' + n1 + n2) < v - 1 := by simp at h; omega
      rw [if_neg he] at i2
      simp only at i2
      repeat (first
    | refine AOps.op rfl rfl ?_ | refine AOps.load rfl rfl rfl rfl rfl ?_ | refine AOps.nil ?_ | refine AWP.seq ?_ | refine AWP.region ?_ | refine AWP.block ?_ | refine AWP.skip ?_ | refine AWP.exit ?_ | refine AWP.scope ?_ | refine AWP.label ?_)
      refine AWP.draw [[], [0], [], [], [], [], [], [6], [5, 6, 7], [5, 6, 7, 8], [3, 4, 5, 6, 7, 8, 9], [3, 4, 5, 6, 7, 8, 9, 10], [2, 3, 4, 5, 6, 7, 8, 9, 10, 11], [2, 3, 4, 5, 6, 7, 8, 9, 10, 11, 12], [0, 1, 2, 3, 4, 5, 6, 7, 8, 9, 10, 11, 12, 13], [0, 1, 2, 3, 4, 5, 6, 7, 8, 9, 10, 11, 12, 13, 14], [0, 1, 2, 3, 4, 5, 6, 7, 8, 9, 10, 11, 12, 13, 14, 15]] [(0, .pure), (1, .read), (2, .pure), (3, .pure), (4, .pure), (5, .pure), (6, .pure), (7, .pure), (8, .pure), (9, .pure), (10, .pure), (11, .pure), (12, .pure), (13, .pure), (14, .eff), (15, .pure), (16, .eff)] rfl ?_
      repeat (first | refine DRun.op rfl rfl rfl ?_ | refine DRun.loadI rfl rfl rfl rfl rfl ?_ | refine DRun.load rfl rfl rfl rfl rfl rfl ?_ | refine DRun.nil ?_)
      refine DRun.pureT rfl rfl rfl (fun loc H => cutB (at' + n1 + n2) (at' + n1 + n2 + (v - 1)) rfl rfl (congrArg (fun x => some (AV.int .i64 x)) ea3) (by omega) (by omega) ⟨rfl, rfl, rfl⟩) ?_
      refine DRun.pureT rfl rfl rfl (fun loc H => OpT.toStr rfl rfl rfl rfl rfl rfl rfl ⟨rfl, rfl, rfl⟩) ?_
      repeat (first | refine DRun.op rfl rfl rfl ?_ | refine DRun.loadI rfl rfl rfl rfl rfl ?_ | refine DRun.load rfl rfl rfl rfl rfl rfl ?_ | refine DRun.nil ?_)
      refine DRun.buildSlice (els := [⟨key, (b.take (at' + n1 + n2 + (v - 1))).drop (at' + n1 + n2), false⟩].map wr) rfl rfl rfl rfl ?_
      refine DRun.eff rfl rfl rfl (OpT.append rfl rfl rfl rfl rfl rfl rfl rfl (els_wr ws) (els_wr [⟨key, (b.take (at' + n1 + n2 + (v - 1))).drop (at' + n1 + n2), false⟩]) (by rw [wr_len]; exact a8) ?_ ?_ ?_)
      · rw [wr_len, wr_len]; simp only [maxLen, List.length_cons, List.length_nil]; omega
      · rw [wr_len, wr_len]; simp only [List.length_cons, List.length_nil]; omega
      intro tg9 H9 a9 b9
      rw [← List.map_append] at *
      rw [← b9] at hcod8 old8
      refine ⟨?_, ?_⟩
      · repeat (first | exact Chk.nil | refine Chk.pre rfl ?_ | refine Chk.load rfl rfl rfl rfl ?_)
      repeat (first | refine DRun.op rfl rfl rfl ?_ | refine DRun.loadI rfl rfl rfl rfl rfl ?_ | refine DRun.load rfl rfl rfl rfl rfl rfl ?_ | refine DRun.nil ?_)
      refine DRun.eff rfl rfl rfl (OpT.storeL rfl rfl rfl rfl ⟨?_, ?_⟩)
      · repeat (first | exact Chk.nil | refine Chk.pre rfl ?_ | refine Chk.load rfl rfl rfl rfl ?_)
      repeat (first | refine DRun.op rfl rfl rfl ?_ | refine DRun.loadI rfl rfl rfl rfl rfl ?_ | refine DRun.load rfl rfl rfl rfl rfl rfl ?_ | refine DRun.nil ?_)
      repeat (first
    | refine AOps.op rfl rfl ?_ | refine AOps.load rfl rfl rfl rfl rfl ?_ | refine AOps.nil ?_ | refine AWP.seq ?_ | refine AWP.region ?_ | refine AWP.block ?_ | refine AWP.skip ?_ | refine AWP.exit ?_ | refine AWP.scope ?_ | refine AWP.label ?_)
      refine ⟨(i + 1, ws ++ [⟨key, (b.take (at' + n1 + n2 + (v - 1))).drop (at' + n1 + n2), false⟩], at' + n1 + n2 + (v - 1), D', tg9, H9), by ((try dsimp only); omega), ⟨hlt, i2, by simp; omega, by simpa [wr_len] using a9, hcod8, old8, by ((try dsimp only); omega), by ((try dsimp only); omega)⟩,
        ⟨rfl, rfl, rfl, rfl, congrArg (fun x => some (AV.int .i64 x)) ea3, rfl, congrArg (fun x => some (AV.int .i64 x)) ei, trivial⟩, rfl, Heap.le_refl _⟩
    · have h : i = m := by simp at h; omega
      subst h
      have i2' : wtake b i S.d a0 = .ok (ws, at', D) := by
        rw [i2, Nat.sub_self, wtake]; simp [wpre]
      repeat (first
    | refine AOps.op rfl rfl ?_ | refine AOps.load rfl rfl rfl rfl rfl ?_ | refine AOps.nil ?_ | refine AWP.seq ?_ | refine AWP.region ?_ | refine AWP.block ?_ | refine AWP.skip ?_ | refine AWP.exit ?_ | refine AWP.scope ?_ | refine AWP.label ?_)
      exact ⟨(ws, at', D, tg, H7), ⟨i2', by simp only; omega, i5, i6⟩, ⟨rfl, rfl, rfl, rfl, trivial⟩, rfl, Heap.le_refl _⟩
  rintro ⟨ws, at', D, tg, H7⟩ ⟨j1, j2, j3, j4⟩
  simp only at j1 j2 j3 j4
  rw [j1] at htt
  simp only at htt
  dsimp only
  have hk : k.ok = true := by
    have := ctake_ok (p := S.c) (b := b.drop (u + s1)) (by rw [hz])
    rw [hz] at this; exact this
  obtain ⟨ks, vs, e1, e2⟩ := (j3.mono (hbase_le H7 tg)).store hk
  simp only at e1 e2
  have j4' := j4.trans (hbase_le H7 tg)
  have fin : (H.del r).le (H7.set r (rcbox k ks vs D.now)) := fun q x e => by
    have hq : q ≠ r := by rintro rfl; rw [Heap.del_same] at e; cases e
    rw [Heap.set_ne _ _ hq]; exact j4' _ _ e
  repeat (first
    | refine AOps.op rfl rfl ?_ | refine AOps.load rfl rfl rfl rfl rfl ?_ | refine AOps.nil ?_ | refine AWP.seq ?_ | refine AWP.region ?_ | refine AWP.block ?_ | refine AWP.skip ?_ | refine AWP.exit ?_ | refine AWP.scope ?_ | refine AWP.label ?_)
  refine AOps.storeH rfl rfl rfl e1 rfl rfl ?_
  repeat (first
    | refine AOps.op rfl rfl ?_ | refine AOps.load rfl rfl rfl rfl rfl ?_ | refine AOps.nil ?_ | refine AWP.seq ?_ | refine AWP.region ?_ | refine AWP.block ?_ | refine AWP.skip ?_ | refine AWP.exit ?_ | refine AWP.scope ?_ | refine AWP.label ?_)
  refine AWP.draw [[], [], [], [2], [0, 2, 3], [0, 1, 2, 3, 4], [0, 1, 2, 3, 4, 5]] [(0, .read), (1, .pure), (2, .read), (3, .eff), (4, .eff), (5, .pure), (6, .pure)] rfl ?_
  repeat (first | refine DRun.op rfl rfl rfl ?_ | refine DRun.loadI rfl rfl rfl rfl rfl ?_ | refine DRun.load rfl rfl rfl rfl rfl rfl ?_ | refine DRun.nil ?_)
  refine DRun.eff rfl rfl rfl (OpT.callF rfl rfl ((R6Check_spec ⟨o, q, k, ws⟩ tg (by simp only; omega) _).mono ?_))
  rintro _ _ ⟨rfl, rfl⟩
  refine ⟨?_, ?_⟩
  · repeat (first | exact Chk.nil | refine Chk.pre rfl ?_ | refine Chk.load rfl rfl rfl rfl ?_)
  repeat (first | refine DRun.op rfl rfl rfl ?_ | refine DRun.loadI rfl rfl rfl rfl rfl ?_ | refine DRun.load rfl rfl rfl rfl rfl rfl ?_ | refine DRun.nil ?_)
  refine DRun.eff rfl rfl rfl (OpT.storeL rfl rfl rfl rfl ⟨?_, ?_⟩)
  · repeat (first | exact Chk.nil | refine Chk.pre rfl ?_ | refine Chk.load rfl rfl rfl rfl ?_)
  repeat (first | refine DRun.op rfl rfl rfl ?_ | refine DRun.loadI rfl rfl rfl rfl rfl ?_ | refine DRun.load rfl rfl rfl rfl rfl rfl ?_ | refine DRun.nil ?_)
  repeat (first
    | refine AOps.op rfl rfl ?_ | refine AOps.load rfl rfl rfl rfl rfl ?_ | refine AOps.nil ?_ | refine AWP.seq ?_ | refine AWP.region ?_ | refine AWP.block ?_ | refine AWP.skip ?_ | refine AWP.exit ?_ | refine AWP.scope ?_ | refine AWP.label ?_)
  refine AWP.ret ?_
  refine ⟨_, _, rfl, rfl, Heap.le_refl _, fin, ?_⟩
  by_cases hc : tcheck ⟨o, q, k, ws⟩ = 0
  · rw [if_neg (by simp [hc])] at htt
    subst htt
    rw [hc]
    exact ⟨tg, rfl, e2⟩
  · rw [if_pos hc] at htt
    subst htt
    exact ⟨hc, ⟨o, q, k, ws⟩, tg, _, rfl⟩
end Go.Proofs.Ytlbnhokhhangdaa

/- The document's transactions read, by a coder that stays as it was where there is none. -/
namespace Go.Proofs.Ytlbnhokhhangdaa
open Go Go.Am Go.Pk Go.Lib
set_option linter.unusedVariables false
set_option linter.unusedSimpArgs false
set_option maxRecDepth 10000
attribute [local irreducible] AOps AWP DRun ACalls

theorem stored_whole {ti : TI} {cs new : List AV} (h1 : AV.ones new = true) (h2 : new.length = ti.size) (h3 : cs.length = ti.size) : Am.stored ti 0 (.agg new) cs = some new := by
  have e1 : Nat.beq new.length ti.size = true := by rw [h2]; exact Nat.beq_refl _
  have e2 : Nat.ble ti.size cs.length = true := by rw [h3]; exact Nat.ble_eq_true_of_le (Nat.le_refl _)
  have e3 : cs.drop new.length = [] := List.drop_of_length_le (by omega)
  simp only [Am.stored, AV.known, AV.cells, h1, e1, Nat.zero_add, e2, Bool.and_true, if_true, forceL_eq, splice, List.take_zero, List.nil_append, e3, List.append_nil]

theorem rc_ones {α β : Type} {f : α → AV} {g : β → AV} {H : Heap} {l : List α} {m : List β} {ks ws : AV} (h2 : XS f H l ks) (h3 : XS g H m ws) (a b c n : Int) : AV.ones [.int .i64 a, .int .i64 b, .int .i64 c, ks, ws, .int .i64 n] = true := by
  have o1 : ∀ k n, (AV.int k n).one = true := fun _ _ => rfl
  simp only [AV.ones, o1, h2.free.2.2, h3.free.2.2, Bool.and_true]

theorem rc_frees {α β : Type} {f : α → AV} {g : β → AV} {H : Heap} {l : List α} {m : List β} {ks ws : AV} (h2 : XS f H l ks) (h3 : XS g H m ws) (a b c n : Int) : AV.frees [.int .i64 a, .int .i64 b, .int .i64 c, ks, ws, .int .i64 n] = true := by
  have o1 : ∀ k n, (AV.int k n).free = true := fun _ _ => rfl
  simp only [AV.frees, o1, h2.free.1, h3.free.1, Bool.and_true]

def rTakeOut (r : Nat) (S : Cod) (b : Str) (H : Heap) (x : AV) (H' : Heap) : Prop :=
  (H.del r).le H' ∧ match ttake S b with
  | .ok y => ∃ tag', x = .tuple [tx y.1 tag', .int .i64 (y.2.1 : Nat), .int .i64 0] ∧ RCodAt H' r y.2.2
  | .error e => x = .tuple [tx Txn.zero .full, .int .i64 0, .int .i64 (e : Nat)] ∧ RCodAt H' r S

theorem R6Take_spec (r : Nat) (S : Cod) (b : Str) (tag : Tag) (H : Heap) (h : RCodAt H r S) (hb : b.length < 2 ^ 40) (hnow : S.d.now < 2 ^ 50) :
    ACalls Q.prog 20 [.ptr r 0, .sl (encB b) tag] H (rTakeOut r S b H) := by
  have hcod := h
  obtain ⟨hok, hc, ks, ws, h1, h2, h3⟩ := h
  refine ACalls.body (N := 29) Try.func20 rfl rfl rfl rfl ?_
  repeat (first | refine AOps.op rfl rfl ?_ | refine AOps.load rfl rfl rfl rfl rfl ?_)
  refine AWP.seq (AWP.region ?_)
  refine AOps.allocL 0 rfl rfl rfl rfl ?_
  repeat (first
    | refine AOps.op rfl rfl ?_ | refine AOps.load rfl rfl rfl rfl rfl ?_ | refine AOps.nil ?_ | refine AWP.seq ?_ | refine AWP.region ?_ | refine AWP.block ?_ | refine AWP.skip ?_ | refine AWP.exit ?_ | refine AWP.scope ?_ | refine AWP.label ?_)
  refine AOps.load rfl (cellsAt_ptr h1) rfl rfl rfl ?_
  refine AOps.allocH rfl rfl fun q hq => ?_
  have hqr : q ≠ r := by rintro rfl; rw [hq] at h1; cases h1
  refine AOps.storeH rfl rfl rfl (Heap.set_same _ _ _) (rc_frees h2 h3 _ _ _ _) (stored_whole (rc_ones h2 h3 _ _ _ _) rfl rfl) ?_
  rw [Heap.set_set]
  have hr1 : RCodAt (H.set q (rcbox S.c ks ws S.d.now)) q S := ⟨hok, hc, ks, ws, Heap.set_same _ _ _, h2.mono (Heap.le_set hq), h3.mono (Heap.le_set hq)⟩
  repeat (first
    | refine AOps.op rfl rfl ?_ | refine AOps.load rfl rfl rfl rfl rfl ?_ | refine AOps.nil ?_ | refine AWP.seq ?_ | refine AWP.region ?_ | refine AWP.block ?_ | refine AWP.skip ?_ | refine AWP.exit ?_ | refine AWP.scope ?_ | refine AWP.label ?_)
  refine AOps.call rfl rfl rfl ((R6take_spec q S b tag _ hr1 hb hnow).mono ?_)
  rintro x H2 ⟨k1, k2⟩
  have hle : H.le H2 := fun k y e => k1 _ _ (by
    have hk : k ≠ q := by rintro rfl; rw [hq] at e; cases e
    rw [Heap.del_ne _ hk, Heap.set_ne _ _ hk]; exact e)
  unfold rTakeOut
  generalize ttake S b = W at *
  rcases W with e | ⟨T, n, S'⟩
  · obtain ⟨he, T, tg, n, rfl⟩ := k2
    repeat (first
    | refine AOps.op rfl rfl ?_ | refine AOps.load rfl rfl rfl rfl rfl ?_ | refine AOps.nil ?_ | refine AWP.seq ?_ | refine AWP.region ?_ | refine AWP.block ?_ | refine AWP.skip ?_ | refine AWP.exit ?_ | refine AWP.scope ?_ | refine AWP.label ?_)
    refine AOps.allocL 1 rfl rfl rfl rfl ?_
    refine AOps.storeL rfl rfl rfl rfl ?_
    repeat (first
    | refine AOps.op rfl rfl ?_ | refine AOps.load rfl rfl rfl rfl rfl ?_ | refine AOps.nil ?_ | refine AWP.seq ?_ | refine AWP.region ?_ | refine AWP.block ?_ | refine AWP.skip ?_ | refine AWP.exit ?_ | refine AWP.scope ?_ | refine AWP.label ?_)
    refine AWP.cond rfl (fun _ => ?_) (fun h => by simp at h; omega)
    repeat (first
    | refine AOps.op rfl rfl ?_ | refine AOps.load rfl rfl rfl rfl rfl ?_ | refine AOps.nil ?_ | refine AWP.seq ?_ | refine AWP.region ?_ | refine AWP.block ?_ | refine AWP.skip ?_ | refine AWP.exit ?_ | refine AWP.scope ?_ | refine AWP.label ?_)
    refine AOps.storeL rfl rfl rfl rfl ?_
    repeat (first
    | refine AOps.op rfl rfl ?_ | refine AOps.load rfl rfl rfl rfl rfl ?_ | refine AOps.nil ?_ | refine AWP.seq ?_ | refine AWP.region ?_ | refine AWP.block ?_ | refine AWP.skip ?_ | refine AWP.exit ?_ | refine AWP.scope ?_ | refine AWP.label ?_)
    refine AWP.ret ?_
    exact ⟨_, _, rfl, rfl, Heap.le_refl _, (Heap.del_le _ _).trans hle, rfl, hcod.mono hle⟩
  · obtain ⟨tg, rfl, k3, k4, ks', ws', k5, k6, k7⟩ := k2
    simp only at k3 k4 k5 k6 k7
    have hr2 := hle _ _ h1
    repeat (first
    | refine AOps.op rfl rfl ?_ | refine AOps.load rfl rfl rfl rfl rfl ?_ | refine AOps.nil ?_ | refine AWP.seq ?_ | refine AWP.region ?_ | refine AWP.block ?_ | refine AWP.skip ?_ | refine AWP.exit ?_ | refine AWP.scope ?_ | refine AWP.label ?_)
    refine AOps.allocL 1 rfl rfl rfl rfl ?_
    refine AOps.storeL rfl rfl rfl rfl ?_
    repeat (first
    | refine AOps.op rfl rfl ?_ | refine AOps.load rfl rfl rfl rfl rfl ?_ | refine AOps.nil ?_ | refine AWP.seq ?_ | refine AWP.region ?_ | refine AWP.block ?_ | refine AWP.skip ?_ | refine AWP.exit ?_ | refine AWP.scope ?_ | refine AWP.label ?_)
    refine AWP.cond rfl (fun h => by simp at h) (fun _ => ?_)
    repeat (first
    | refine AOps.op rfl rfl ?_ | refine AOps.load rfl rfl rfl rfl rfl ?_ | refine AOps.nil ?_ | refine AWP.seq ?_ | refine AWP.region ?_ | refine AWP.block ?_ | refine AWP.skip ?_ | refine AWP.exit ?_ | refine AWP.scope ?_ | refine AWP.label ?_)
    refine AOps.load rfl (cellsAt_ptr k5) rfl rfl rfl ?_
    repeat (first
    | refine AOps.op rfl rfl ?_ | refine AOps.load rfl rfl rfl rfl rfl ?_ | refine AOps.nil ?_ | refine AWP.seq ?_ | refine AWP.region ?_ | refine AWP.block ?_ | refine AWP.skip ?_ | refine AWP.exit ?_ | refine AWP.scope ?_ | refine AWP.label ?_)
    refine AOps.storeH rfl rfl rfl hr2 (rc_frees k6 k7 _ _ _ _) (stored_whole (rc_ones k6 k7 _ _ _ _) rfl rfl) ?_
    repeat (first
    | refine AOps.op rfl rfl ?_ | refine AOps.load rfl rfl rfl rfl rfl ?_ | refine AOps.nil ?_ | refine AWP.seq ?_ | refine AWP.region ?_ | refine AWP.block ?_ | refine AWP.skip ?_ | refine AWP.exit ?_ | refine AWP.scope ?_ | refine AWP.label ?_)
    refine AOps.storeL rfl rfl rfl rfl ?_
    repeat (first
    | refine AOps.op rfl rfl ?_ | refine AOps.load rfl rfl rfl rfl rfl ?_ | refine AOps.nil ?_ | refine AWP.seq ?_ | refine AWP.region ?_ | refine AWP.block ?_ | refine AWP.skip ?_ | refine AWP.exit ?_ | refine AWP.scope ?_ | refine AWP.label ?_)
    refine AWP.ret ?_
    refine ⟨_, _, rfl, rfl, Heap.le_refl _, fun k y e => ?_, tg, rfl, k3, k4, ks', ws', Heap.set_same _ _ _, XS.off k6 hr2 (rcbox_str _ _ _ _ _) _, XS.off k7 hr2 (rcbox_iv h2 _ _ _ _) _⟩
    have hk : k ≠ r := by rintro rfl; rw [Heap.del_same] at e; cases e
    rw [Heap.set_ne _ _ hk]
    exact hle _ _ (Heap.del_le _ _ _ _ e)
end Go.Proofs.Ytlbnhokhhangdaa
