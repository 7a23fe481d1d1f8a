/- The texts of this part, one behind the other: what is proved of the model and of the functions that the law reaches. -/
import Derived.Test.YtlbnhokhhangdaaTe12
import Derived.Test.YtlbnhokhhangdaaTe1
/- Streams, read: a round of Take's loop. -/
namespace Go.Proofs.Ytlbnhokhhangdaa
open Go Go.Am Go.Pk Go.Lib
set_option linter.unusedVariables false
set_option linter.unusedSimpArgs false
set_option maxRecDepth 10000

/-- The blocks of Take's loop are different ones, and new. -/
structure Ks (H0 : Heap) (l bo bu r2 r3 r4 : Nat) : Prop where
  lo : l ≠ bo
  lu : l ≠ bu
  l2 : l ≠ r2
  l3 : l ≠ r3
  l4 : l ≠ r4
  ou : bo ≠ bu
  o2 : bo ≠ r2
  o3 : bo ≠ r3
  o4 : bo ≠ r4
  u2 : bu ≠ r2
  u3 : bu ≠ r3
  u4 : bu ≠ r4
  r23 : r2 ≠ r3
  r24 : r2 ≠ r4
  r34 : r3 ≠ r4
  zl : H0 l = none
  zo : H0 bo = none
  zu : H0 bu = none
  z2 : H0 r2 = none
  z3 : H0 r3 = none
  z4 : H0 r4 = none

abbrev tσ (bo bu r2 r3 r4 : Nat) : Go.Am.Frame := [(2, .ptr r2 0), (3, .ptr r3 0), (4, .ptr r4 0), (5, .ptr bo 0), (6, .ptr bu 0)]

/-- What a round of Take's loop finds: the record, what is out and used, the results. -/
structure LpAt (asg body : Code) (l bo bu r2 r3 r4 : Nat) (st : LoopState) (H0 Hb : Heap) (tg : Tag) (done : List It) (used : Nat) : Prop where
  old : H0.le Hb
  lp : Hb l = some (.loop 29 (tσ bo bu r2 r3 r4) #[10] asg body st none)
  out : Hb bo = some (.box [.sl (done.map iq) tg])
  used : Hb bu = some (.box [.int .i64 (used : Nat)])
  r2 : ∃ v, Hb r2 = some (.box [v])
  r3 : ∃ v, Hb r3 = some (.box [v])
  r4 : ∃ v, Hb r4 = some (.box [v])

theorem Heap.le_off {A H : Heap} (h : A.le H) {q : Nat} (hq : A q = none) (o : AObj) : A.le (H.set q o) := fun k x e => by
  have : k ≠ q := by rintro rfl; rw [hq] at e; cases e
  rw [Heap.set_ne _ _ this]; exact h _ _ e

section
variable {asg body : Code} {l bo bu r2 r3 r4 : Nat} {st : LoopState} {H0 Hb : Heap} {tg : Tag} {done : List It} {used : Nat}

theorem LpAt.setL (k : Ks H0 l bo bu r2 r3 r4) (h : LpAt asg body l bo bu r2 r3 r4 st H0 Hb tg done used) (st' : LoopState) :
    LpAt asg body l bo bu r2 r3 r4 st' H0 (Hb.set l (.loop 29 (tσ bo bu r2 r3 r4) #[10] asg body st' none)) tg done used :=
  ⟨Heap.le_off h.old k.zl _, Heap.set_same _ _ _, by rw [Heap.set_ne _ _ k.lo.symm]; exact h.out, by rw [Heap.set_ne _ _ k.lu.symm]; exact h.used,
    by rw [Heap.set_ne _ _ k.l2.symm]; exact h.r2, by rw [Heap.set_ne _ _ k.l3.symm]; exact h.r3, by rw [Heap.set_ne _ _ k.l4.symm]; exact h.r4⟩

theorem LpAt.setOut (k : Ks H0 l bo bu r2 r3 r4) (h : LpAt asg body l bo bu r2 r3 r4 st H0 Hb tg done used) (done' : List It) (tg' : Tag) :
    LpAt asg body l bo bu r2 r3 r4 st H0 (Hb.set bo (.box [.sl (done'.map iq) tg'])) tg' done' used :=
  ⟨Heap.le_off h.old k.zo _, by rw [Heap.set_ne _ _ k.lo]; exact h.lp, Heap.set_same _ _ _, by rw [Heap.set_ne _ _ k.ou.symm]; exact h.used,
    by rw [Heap.set_ne _ _ k.o2.symm]; exact h.r2, by rw [Heap.set_ne _ _ k.o3.symm]; exact h.r3, by rw [Heap.set_ne _ _ k.o4.symm]; exact h.r4⟩

theorem LpAt.setUsed (k : Ks H0 l bo bu r2 r3 r4) (h : LpAt asg body l bo bu r2 r3 r4 st H0 Hb tg done used) (used' : Nat) :
    LpAt asg body l bo bu r2 r3 r4 st H0 (Hb.set bu (.box [.int .i64 (used' : Nat)])) tg done used' :=
  ⟨Heap.le_off h.old k.zu _, by rw [Heap.set_ne _ _ k.lu]; exact h.lp, by rw [Heap.set_ne _ _ k.ou]; exact h.out, Heap.set_same _ _ _,
    by rw [Heap.set_ne _ _ k.u2.symm]; exact h.r2, by rw [Heap.set_ne _ _ k.u3.symm]; exact h.r3, by rw [Heap.set_ne _ _ k.u4.symm]; exact h.r4⟩
end

def JT (asg body : Code) (l bo bu r2 r3 r4 : Nat) (H0 : Heap) (done : List It) (used : Nat) (Hj : Heap) : Prop :=
  ∃ tg, App Hj 7 done.length tg ∧ LpAt asg body l bo bu r2 r3 r4 .ready H0 (hbase Hj tg) tg done used

def JX (asg body : Code) (l bo bu r2 r3 r4 : Nat) (H0 : Heap) (done : List It) (used e : Nat) (Hj : Heap) : Prop :=
  ∃ tg, H0.le Hj ∧ Hj l = some (.loop 29 (tσ bo bu r2 r3 r4) #[10] asg body .done (some .ret)) ∧
    Hj r2 = some (.box [.sl (done.map iq) tg]) ∧ Hj r3 = some (.box [.int .i64 (used : Nat)]) ∧ Hj r4 = some (.box [.int .i64 (e : Nat)])

attribute [local irreducible] AOps AWP DRun ACalls
attribute [local irreducible] ttake tres etake

/-- Take's loop, its rounds given. -/
theorem take_loop {asg body : Code} {l x bo bu r2 r3 r4 : Nat} {H0 Hb : Heap} (b : Str) (tag : Tag) (hb : b.length < 2 ^ 30) (hxl : x ≠ l) (hx : Hb x = none)
    (h0 : JT asg body l bo bu r2 r3 r4 H0 [] 0 (Hb.set l (.loop 29 (tσ bo bu r2 r3 r4) #[10] asg body .ready none)))
    (good : ∀ done used Hj y n, JT asg body l bo bu r2 r3 r4 H0 done used Hj → done.length ≤ used → used + n ≤ b.length → AYield Q.prog l [td y .no (n : Nat) (0 : Nat)] Hj fun r H' => r = .bool true ∧ JT asg body l bo bu r2 r3 r4 H0 (done ++ [y]) (used + n) H')
    (bad : ∀ done used Hj y tg n e, JT asg body l bo bu r2 r3 r4 H0 done used Hj → (e : Nat) ≠ 0 → AYield Q.prog l [td y tg n (e : Nat)] Hj fun r H' => r = .bool false ∧ JX asg body l bo bu r2 r3 r4 H0 done used e H') :
    ACalls Q.prog 78 ([] ++ [.yield l] ++ [.ptr x 0]) ((Hb.set x (.box [.sl (encB b) tag])).set l (.loop 29 (tσ bo bu r2 r3 r4) #[10] asg body .ready none)) fun _ H' =>
      (∃ Hj, JT asg body l bo bu r2 r3 r4 H0 (etake Cod.nil b).1 (etake Cod.nil b).2.1 Hj ∧ Hj.le H' ∧ (etake Cod.nil b).2.2 = 0) ∨
      (∃ Hj, JX asg body l bo bu r2 r3 r4 H0 (etake Cod.nil b).1 (etake Cod.nil b).2.1 (etake Cod.nil b).2.2 Hj ∧ Hj.le H') := by
  refine items1_spec l x b tag hb (JT asg body l bo bu r2 r3 r4 H0) (JX asg body l bo bu r2 r3 r4 H0) good bad _ (Hb.set l (.loop 29 (tσ bo bu r2 r3 r4) #[10] asg body .ready none)) ?_ ?_ ?_ h0
  · rw [Heap.set_ne _ _ hxl, Heap.set_same]
  · intro k y e
    by_cases c : k = l
    · subst c; rw [Heap.set_same] at e ⊢; exact e
    · rw [Heap.set_ne _ _ c] at e ⊢
      have : k ≠ x := by rintro rfl; rw [hx] at e; cases e
      rw [Heap.set_ne _ _ this]; exact e
  · rw [Heap.set_ne _ _ hxl]; exact hx

theorem cell_res {σ : Go.Am.Frame} {loc : Go.Am.Loc} {H : Heap} {t : Nat} {T : TypeId} {ti : TI} {r : Nat} {v : AV} (hs : flook σ t = some (.ptr r 0)) (ht : Q.ty T = some ti) (hk : ti.kind.isAgg = false) (hr : H r = some (.box [v])) :
    aresult Q σ loc H (.cell t T) = some v := by
  unfold aresult
  simp only [hs, ht, cellsAt_ptr hr, ofCells, hk]
  rfl

theorem take_res {σ : Go.Am.Frame} {loc : Go.Am.Loc} {H : Heap} {r2 r3 r4 : Nat} {v a c : AV} (s2 : flook σ 2 = some (.ptr r2 0)) (s3 : flook σ 3 = some (.ptr r3 0)) (s4 : flook σ 4 = some (.ptr r4 0))
    (h2 : H r2 = some (.box [v])) (h3 : H r3 = some (.box [a])) (h4 : H r4 = some (.box [c])) :
    aresults Q [.cell 2 52, .cell 3 3, .cell 4 35] σ loc H = some (.tuple [v, a, c]) := by
  unfold aresults
  simp only [aresultsL, cell_res (T := 52) (ti := { kind := .sl 95, size := 1, bytes := 24, zero := [.sl [] .full] }) s2 rfl rfl h2, cell_res (T := 3) (ti := { kind := .int .i64, size := 1, bytes := 8, zero := [.int .i64 0] }) s3 rfl rfl h3,
    cell_res (T := 35) (ti := { kind := .int .i64, size := 1, bytes := 8, zero := [.int .i64 0] }) s4 rfl rfl h4]

set_option maxHeartbeats 1000000 in
theorem eTake_spec (b : Str) (tag : Tag) (hb : b.length < 2 ^ 30) (H0 : Heap) :
    ACalls Q.prog 28 [.sl (encB b) tag] H0 fun r H' => r = eres (etake Cod.nil b) .no ∧ H' = H0 := by
  refine ACalls.weak (K := fun r H' => ∃ tg, r = eres (etake Cod.nil b) tg ∧ H' = H0) ?_ (fun r H' ⟨tg, e, k⟩ => ⟨_, e ▸ eres_weak _ _, rfl, k⟩)
  refine ACalls.body (N := 29) Try.func28 rfl rfl rfl rfl ?_
  repeat (first
    | refine AOps.op rfl rfl ?_ | refine AOps.load rfl rfl rfl rfl rfl ?_ | refine AOps.nil ?_ | refine AWP.seq ?_ | refine AWP.region ?_ | refine AWP.block ?_ | refine AWP.skip ?_ | refine AWP.exit ?_ | refine AWP.scope ?_ | refine AWP.label ?_)
  refine AOps.allocH rfl rfl fun r2 h2 => ?_
  refine AOps.allocH rfl rfl fun r3 h3 => ?_
  refine AOps.allocH rfl rfl fun r4 h4 => ?_
  repeat (first
    | refine AOps.op rfl rfl ?_ | refine AOps.load rfl rfl rfl rfl rfl ?_ | refine AOps.nil ?_ | refine AWP.seq ?_ | refine AWP.region ?_ | refine AWP.block ?_ | refine AWP.skip ?_ | refine AWP.exit ?_ | refine AWP.scope ?_ | refine AWP.label ?_)
  refine AOps.allocH rfl rfl fun bo hbo => ?_
  repeat (first
    | refine AOps.op rfl rfl ?_ | refine AOps.load rfl rfl rfl rfl rfl ?_ | refine AOps.nil ?_ | refine AWP.seq ?_ | refine AWP.region ?_ | refine AWP.block ?_ | refine AWP.skip ?_ | refine AWP.exit ?_ | refine AWP.scope ?_ | refine AWP.label ?_)
  refine AOps.allocH rfl rfl fun bu hbu => ?_
  refine AOps.storeH rfl rfl rfl (Heap.set_same _ _ _) rfl rfl ?_
  rw [Heap.set_set]
  have e32 : r3 ≠ r2 := by rintro rfl; rw [Heap.set_same] at h3; cases h3
  rw [Heap.set_ne _ _ e32] at h3
  have e43 : r4 ≠ r3 := by rintro rfl; rw [Heap.set_same] at h4; cases h4
  rw [Heap.set_ne _ _ e43] at h4
  have e42 : r4 ≠ r2 := by rintro rfl; rw [Heap.set_same] at h4; cases h4
  rw [Heap.set_ne _ _ e42] at h4
  have eo4 : bo ≠ r4 := by rintro rfl; rw [Heap.set_same] at hbo; cases hbo
  rw [Heap.set_ne _ _ eo4] at hbo
  have eo3 : bo ≠ r3 := by rintro rfl; rw [Heap.set_same] at hbo; cases hbo
  rw [Heap.set_ne _ _ eo3] at hbo
  have eo2 : bo ≠ r2 := by rintro rfl; rw [Heap.set_same] at hbo; cases hbo
  rw [Heap.set_ne _ _ eo2] at hbo
  have euo : bu ≠ bo := by rintro rfl; rw [Heap.set_same] at hbu; cases hbu
  rw [Heap.set_ne _ _ euo] at hbu
  have eu4 : bu ≠ r4 := by rintro rfl; rw [Heap.set_same] at hbu; cases hbu
  rw [Heap.set_ne _ _ eu4] at hbu
  have eu3 : bu ≠ r3 := by rintro rfl; rw [Heap.set_same] at hbu; cases hbu
  rw [Heap.set_ne _ _ eu3] at hbu
  have eu2 : bu ≠ r2 := by rintro rfl; rw [Heap.set_same] at hbu; cases hbu
  rw [Heap.set_ne _ _ eu2] at hbu
  obtain ⟨Hb, hHb⟩ : ∃ Hb, ((((H0.set r2 (.box [.sl [] .full])).set r3 (.box [.int .i64 0])).set r4 (.box [.int .i64 0])).set bo (.box [.sl [] .full])).set bu (.box [.int .i64 0]) = Hb := ⟨_, rfl⟩
  have ku : Hb bu = some (.box [.int .i64 0]) := by rw [← hHb, Heap.set_same]
  have ko : Hb bo = some (.box [.sl [] .full]) := by rw [← hHb, Heap.set_ne _ _ euo.symm, Heap.set_same]
  have k4 : Hb r4 = some (.box [.int .i64 0]) := by rw [← hHb, Heap.set_ne _ _ eu4.symm, Heap.set_ne _ _ eo4.symm, Heap.set_same]
  have k3 : Hb r3 = some (.box [.int .i64 0]) := by rw [← hHb, Heap.set_ne _ _ eu3.symm, Heap.set_ne _ _ eo3.symm, Heap.set_ne _ _ e43.symm, Heap.set_same]
  have k2 : Hb r2 = some (.box [.sl [] .full]) := by rw [← hHb, Heap.set_ne _ _ eu2.symm, Heap.set_ne _ _ eo2.symm, Heap.set_ne _ _ e42.symm, Heap.set_ne _ _ e32.symm, Heap.set_same]
  have kold : H0.le Hb := by
    rw [← hHb]
    exact Heap.le_off (Heap.le_off (Heap.le_off (Heap.le_off (Heap.le_off (Heap.le_refl _) h2 _) h3 _) h4 _) hbo _) hbu _
  rw [show ((((H0.set r2 (.box (TI.zero { kind := .sl 95, size := 1, bytes := 24, zero := [.sl [] .full] }))).set r3 (.box (TI.zero { kind := .int .i64, size := 1, bytes := 8, zero := [.int .i64 0] }))).set r4 (.box (TI.zero { kind := .int .i64, size := 1, bytes := 8, zero := [.int .i64 0] }))).set bo (.box (TI.zero { kind := .sl 95, size := 1, bytes := 24, zero := [.sl [] .full] }))).set bu (.box [ofConst (Value.int IntKind.i64 0)]) = Hb from hHb]
  clear hHb
  repeat (first
    | refine AOps.op rfl rfl ?_ | refine AOps.load rfl rfl rfl rfl rfl ?_ | refine AOps.nil ?_ | refine AWP.seq ?_ | refine AWP.region ?_ | refine AWP.block ?_ | refine AWP.skip ?_ | refine AWP.exit ?_ | refine AWP.scope ?_ | refine AWP.label ?_)
  refine AOps.call rfl rfl rfl ((items_spec b tag _).mono ?_)
  rintro _ H1 ⟨x, rfl, hx, rfl⟩
  repeat (first
    | refine AOps.op rfl rfl ?_ | refine AOps.load rfl rfl rfl rfl rfl ?_ | refine AOps.nil ?_ | refine AWP.seq ?_ | refine AWP.region ?_ | refine AWP.skip ?_ | refine AWP.exit ?_ | refine AWP.scope ?_ | refine AWP.label ?_)
  refine AWP.block ?_
  refine AWP.rangeFunc (tσ bo bu r2 r3 r4) rfl rfl ⟨rfl, rfl, rfl, rfl, rfl, trivial⟩ rfl fun l hl => ?_
  have hlx : x ≠ l := by rintro rfl; rw [Heap.set_same] at hl; cases hl
  rw [Heap.set_ne _ _ hlx.symm] at hl
  have ne : ∀ {k : Nat} {o : AObj}, Hb k = some o → l ≠ k := fun e => by rintro rfl; rw [e] at hl; cases hl
  have hz : H0 l = none := by
    cases e : H0 l with
    | none => rfl
    | some y => rw [kold _ _ e] at hl; cases hl
  have ks : Ks H0 l bo bu r2 r3 r4 := ⟨ne ko, ne ku, ne k2, ne k3, ne k4, euo.symm, eo2, eo3, eo4, eu2, eu3, eu4, e32.symm, e42.symm, e43.symm, hz, hbo, hbu, h2, h3, h4⟩
  have nel : ∀ {k : Nat} {o z : AObj}, l ≠ k → Hb k = some o → (hbase (Hb.set l z) .full) k = some o := fun c e => by
    show (Hb.set l _) _ = _
    rw [Heap.set_ne _ _ c.symm]; exact e
  refine (take_loop b tag hb hlx hx ⟨.full, trivial, Heap.le_off kold ks.zl _, Heap.set_same _ _ _, nel ks.lo ko, nel ks.lu ku, ⟨_, nel ks.l2 k2⟩, ⟨_, nel ks.l3 k3⟩, ⟨_, nel ks.l4 k4⟩⟩ ?_ ?_).mono ?_
  · clear ku ko k2 k3 k4 nel ne hx hl hlx x
    rintro done used Hj y n ⟨tg, app, k⟩ hdl hul
    refine AYield.intro (hbase_le _ _ _ _ k.lp) rfl rfl ?_
    repeat (first
    | refine AOps.op rfl rfl ?_ | refine AOps.load rfl rfl rfl rfl rfl ?_ | refine AOps.nil ?_ | refine AWP.seq ?_ | refine AWP.region ?_ | refine AWP.block ?_ | refine AWP.skip ?_ | refine AWP.exit ?_ | refine AWP.scope ?_ | refine AWP.label ?_)
    refine AOps.allocL 0 rfl rfl rfl rfl ?_
    refine AOps.storeL rfl rfl rfl rfl ?_
    repeat (first
    | refine AOps.op rfl rfl ?_ | refine AOps.load rfl rfl rfl rfl rfl ?_ | refine AOps.nil ?_ | refine AWP.seq ?_ | refine AWP.region ?_ | refine AWP.block ?_ | refine AWP.skip ?_ | refine AWP.exit ?_ | refine AWP.scope ?_ | refine AWP.label ?_)
    refine ⟨_, _, _, _, _, _, hbase_le _ _ _ _ k.lp, ?_⟩
    obtain ⟨app1, hb1⟩ := App.write (y := .loop 29 (tσ bo bu r2 r3 r4) #[10] _ _ .busy none) app k.lp
    have k1 := k.setL ks .busy
    rw [← hb1] at k1
    generalize Hj.set l _ = H1 at *
    have es : IntKind.i64.wrap ((used : Int) + (n : Nat)) = ((used + n : Nat) : Int) := wrap_i64 (n := used + n) (by omega)
    repeat (first
    | refine AOps.op rfl rfl ?_ | refine AOps.load rfl rfl rfl rfl rfl ?_ | refine AOps.nil ?_ | refine AWP.seq ?_ | refine AWP.region ?_ | refine AWP.block ?_ | refine AWP.skip ?_ | refine AWP.exit ?_ | refine AWP.scope ?_ | refine AWP.label ?_)
    refine AWP.cond rfl (fun h => absurd h (by simp)) (fun _ => ?_)
    repeat (first
    | refine AOps.op rfl rfl ?_ | refine AOps.load rfl rfl rfl rfl rfl ?_ | refine AOps.nil ?_ | refine AWP.seq ?_ | refine AWP.region ?_ | refine AWP.block ?_ | refine AWP.skip ?_ | refine AWP.exit ?_ | refine AWP.scope ?_ | refine AWP.label ?_)
    refine AWP.draw [[], [], [1], [1, 2], [0, 1, 2, 3], [], [], [6], [5, 6, 7], [0, 1, 2, 3, 4], [0, 1, 2, 3, 4, 5, 6, 7, 8, 9]] [(0, .read), (1, .pure), (2, .read), (3, .pure), (5, .read), (6, .pure), (7, .read), (8, .pure), (4, .eff), (9, .eff), (10, .eff)] rfl ?_
    refine DRun.load rfl rfl rfl (cellsAt_ptr (hbase_le _ _ _ _ k1.out)) rfl rfl ?_
    repeat (first | refine DRun.op rfl rfl rfl ?_ | refine DRun.loadI rfl rfl rfl rfl rfl ?_ | refine DRun.load rfl rfl rfl rfl rfl rfl ?_ | refine DRun.nil ?_)
    refine DRun.buildSlice (els := [y].map iq) rfl rfl rfl rfl ?_
    refine DRun.load rfl rfl rfl (cellsAt_ptr (hbase_le _ _ _ _ k1.used)) rfl rfl ?_
    repeat (first | refine DRun.op rfl rfl rfl ?_ | refine DRun.loadI rfl rfl rfl rfl rfl ?_ | refine DRun.load rfl rfl rfl rfl rfl rfl ?_ | refine DRun.nil ?_)
    refine DRun.eff rfl rfl rfl (appE H1 (Heap.le_refl _) rfl rfl app1 (by simp; omega) fun tg2 H2 a1 a2 => ?_)
    have k2 := k1
    rw [← a2] at k2
    clear k1 app1
    refine ⟨?_, ?_⟩
    · repeat (first | exact Chk.nil | refine Chk.pre rfl ?_ | refine Chk.load rfl rfl rfl rfl ?_ | refine Chk.load rfl (cellsAt_ptr (hbase_le _ _ _ _ k2.used)) rfl rfl ?_)
    obtain ⟨app3, hb3⟩ := App.write (y := .box [.sl ((done ++ [y]).map iq) tg2]) a1 k2.out
    have k3 := k2.setOut ks (done ++ [y]) tg2
    rw [← hb3] at k3
    repeat (first | refine DRun.op rfl rfl rfl ?_ | refine DRun.loadI rfl rfl rfl rfl rfl ?_ | refine DRun.load rfl rfl rfl rfl rfl rfl ?_ | refine DRun.nil ?_)
    refine DRun.eff rfl rfl rfl (OpT.storeH rfl rfl rfl (hbase_le _ _ _ _ k2.out) rfl rfl ⟨?_, ?_⟩)
    · repeat (first | exact Chk.nil | refine Chk.pre rfl ?_ | refine Chk.load rfl rfl rfl rfl ?_ | refine Chk.load rfl (cellsAt_ptr (hbase_le _ _ _ _ k3.used)) rfl rfl ?_)
    obtain ⟨app4, hb4⟩ := App.write (y := .box [.int .i64 (used + n : Nat)]) app3 k3.used
    have k4 := k3.setUsed ks (used + n)
    rw [← hb4] at k4
    repeat (first | refine DRun.op rfl rfl rfl ?_ | refine DRun.loadI rfl rfl rfl rfl rfl ?_ | refine DRun.load rfl rfl rfl rfl rfl rfl ?_ | refine DRun.nil ?_)
    refine DRun.eff rfl rfl rfl (OpT.storeH rfl rfl rfl (hbase_le _ _ _ _ k3.used) rfl rfl ⟨?_, ?_⟩)
    · repeat (first | exact Chk.nil | refine Chk.pre rfl ?_ | refine Chk.load rfl rfl rfl rfl ?_)
    repeat (first | refine DRun.op rfl rfl rfl ?_ | refine DRun.loadI rfl rfl rfl rfl rfl ?_ | refine DRun.load rfl rfl rfl rfl rfl rfl ?_ | refine DRun.nil ?_)
    rw [es]
    obtain ⟨app5, hb5⟩ := App.write (y := .loop 29 (tσ bo bu r2 r3 r4) #[10] _ _ .ready none) app4 k4.lp
    have k5 := k4.setL ks .ready
    rw [← hb5] at k5
    exact ⟨_, _, _, _, _, _, _, hbase_le _ _ _ _ k4.lp, Heap.le_refl _, rfl, tg2, app5, k5⟩
  · clear ku ko k2 k3 k4 nel ne hx hl hlx x
    rintro done used Hj y tg' n e ⟨tg, app, k⟩ he
    refine AYield.intro (hbase_le _ _ _ _ k.lp) rfl rfl ?_
    repeat (first
    | refine AOps.op rfl rfl ?_ | refine AOps.load rfl rfl rfl rfl rfl ?_ | refine AOps.nil ?_ | refine AWP.seq ?_ | refine AWP.region ?_ | refine AWP.block ?_ | refine AWP.skip ?_ | refine AWP.exit ?_ | refine AWP.scope ?_ | refine AWP.label ?_)
    refine AOps.allocL 0 rfl rfl rfl rfl ?_
    refine AOps.storeL rfl rfl rfl rfl ?_
    repeat (first
    | refine AOps.op rfl rfl ?_ | refine AOps.load rfl rfl rfl rfl rfl ?_ | refine AOps.nil ?_ | refine AWP.seq ?_ | refine AWP.region ?_ | refine AWP.block ?_ | refine AWP.skip ?_ | refine AWP.exit ?_ | refine AWP.scope ?_ | refine AWP.label ?_)
    refine ⟨_, _, _, _, _, _, hbase_le _ _ _ _ k.lp, ?_⟩
    have k1 := k.setL ks .busy
    generalize hH1 : Hj.set l _ = H1
    have old1 : H0.le H1 := by rw [← hH1]; exact Heap.le_off (k.old.trans (hbase_le _ _)) hz _
    have lp1 := (congrFun hH1 l).symm.trans (Heap.set_same _ _ _)
    have nel : ∀ {k : Nat} {o : AObj}, l ≠ k → (hbase Hj tg) k = some o → H1 k = some o := fun c e => by
      rw [← hH1, Heap.set_ne _ _ c.symm]; exact hbase_le _ _ _ _ e
    have o1 := nel ks.lo k.out
    have u1 := nel ks.lu k.used
    obtain ⟨v2, w2⟩ := k.r2
    obtain ⟨v3, w3⟩ := k.r3
    obtain ⟨v4, w4⟩ := k.r4
    have w2 := nel ks.l2 w2
    have w3 := nel ks.l3 w3
    have w4 := nel ks.l4 w4
    clear k k1 app nel hH1
    repeat (first
    | refine AOps.op rfl rfl ?_ | refine AOps.load rfl rfl rfl rfl rfl ?_ | refine AOps.nil ?_ | refine AWP.seq ?_ | refine AWP.region ?_ | refine AWP.block ?_ | refine AWP.skip ?_ | refine AWP.exit ?_ | refine AWP.scope ?_ | refine AWP.label ?_)
    refine AWP.cond rfl (fun _ => ?_) (fun h => by simp at h; omega)
    repeat (first
    | refine AOps.op rfl rfl ?_ | refine AOps.load rfl rfl rfl rfl rfl ?_ | refine AOps.nil ?_ | refine AWP.seq ?_ | refine AWP.region ?_ | refine AWP.block ?_ | refine AWP.skip ?_ | refine AWP.exit ?_ | refine AWP.scope ?_ | refine AWP.label ?_)
    refine AWP.draw [[], [], [], [2], [0], [0, 1, 4], [0, 1, 2, 3, 4, 5]] [(0, .read), (1, .read), (2, .pure), (3, .read), (4, .eff), (5, .eff), (6, .eff)] rfl ?_
    refine DRun.load rfl rfl rfl (cellsAt_ptr o1) rfl rfl ?_
    refine DRun.load rfl rfl rfl (cellsAt_ptr u1) rfl rfl ?_
    repeat (first | refine DRun.op rfl rfl rfl ?_ | refine DRun.loadI rfl rfl rfl rfl rfl ?_ | refine DRun.load rfl rfl rfl rfl rfl rfl ?_ | refine DRun.nil ?_)
    have u2 : (H1.set r2 (.box [.sl (done.map iq) tg])) bu = some (.box [.int .i64 (used : Nat)]) := by rw [Heap.set_ne _ _ ks.u2]; exact u1
    refine DRun.eff rfl rfl rfl (OpT.storeH rfl rfl rfl w2 rfl rfl ⟨?_, ?_⟩)
    · repeat (first | exact Chk.nil | refine Chk.pre rfl ?_ | refine Chk.load rfl rfl rfl rfl ?_ | refine Chk.load rfl (cellsAt_ptr u2) rfl rfl ?_)
    repeat (first | refine DRun.op rfl rfl rfl ?_ | refine DRun.loadI rfl rfl rfl rfl rfl ?_ | refine DRun.load rfl rfl rfl rfl rfl rfl ?_ | refine DRun.nil ?_)
    refine DRun.eff rfl rfl rfl (OpT.storeH rfl rfl rfl (by rw [Heap.set_ne _ _ ks.r23.symm]; exact w3) rfl rfl ⟨?_, ?_⟩)
    · repeat (first | exact Chk.nil | refine Chk.pre rfl ?_ | refine Chk.load rfl rfl rfl rfl ?_)
    repeat (first | refine DRun.op rfl rfl rfl ?_ | refine DRun.loadI rfl rfl rfl rfl rfl ?_ | refine DRun.load rfl rfl rfl rfl rfl rfl ?_ | refine DRun.nil ?_)
    refine DRun.eff rfl rfl rfl (OpT.storeH rfl rfl rfl (by rw [Heap.set_ne _ _ ks.r34.symm, Heap.set_ne _ _ ks.r24.symm]; exact w4) rfl rfl ⟨?_, ?_⟩)
    · repeat (first | exact Chk.nil | refine Chk.pre rfl ?_ | refine Chk.load rfl rfl rfl rfl ?_)
    repeat (first | refine DRun.op rfl rfl rfl ?_ | refine DRun.loadI rfl rfl rfl rfl rfl ?_ | refine DRun.load rfl rfl rfl rfl rfl rfl ?_ | refine DRun.nil ?_)
    refine AWP.ret ?_
    refine ⟨_, _, _, _, _, none, _, ?_, Heap.le_refl _, rfl, tg, ?_, Heap.set_same _ _ _, ?_, ?_, ?_⟩
    · rw [Heap.set_ne _ _ ks.l4, Heap.set_ne _ _ ks.l3, Heap.set_ne _ _ ks.l2]; exact lp1
    · exact Heap.le_off (Heap.le_off (Heap.le_off (Heap.le_off old1 h2 _) h3 _) h4 _) hz _
    · rw [Heap.set_ne _ _ ks.l2.symm, Heap.set_ne _ _ ks.r24, Heap.set_ne _ _ ks.r23, Heap.set_same]
    · rw [Heap.set_ne _ _ ks.l3.symm, Heap.set_ne _ _ ks.r34, Heap.set_same]
    · rw [Heap.set_ne _ _ ks.l4.symm, Heap.set_same]
  · rintro _ H' (⟨Hj, ⟨tg, app, k⟩, hle, he⟩ | ⟨Hj, ⟨tg, j1, j2, j3, j4, j5⟩, hle⟩)
    · refine ⟨_, _, _, _, _, _, _, hle _ _ (hbase_le _ _ _ _ k.lp), by simp, ?_⟩
      dsimp only
      have hold : H0.le (H'.del l) := Heap.le_del ((k.old.trans (hbase_le _ _)).trans hle) hz
      have nel : ∀ {k : Nat} {o : AObj}, l ≠ k → (hbase Hj tg) k = some o → (H'.del l) k = some o := fun c e => by
        rw [Heap.del_ne _ c.symm]; exact hle _ _ (hbase_le _ _ _ _ e)
      have o1 := nel ks.lo k.out
      have u1 := nel ks.lu k.used
      obtain ⟨v2, w2⟩ := k.r2
      obtain ⟨v3, w3⟩ := k.r3
      obtain ⟨v4, w4⟩ := k.r4
      have w2 := nel ks.l2 w2
      have w3 := nel ks.l3 w3
      have w4 := nel ks.l4 w4
      clear k nel
      generalize H'.del l = H1 at *
      repeat (first
    | refine AOps.op rfl rfl ?_ | refine AOps.load rfl rfl rfl rfl rfl ?_ | refine AOps.nil ?_ | refine AWP.seq ?_ | refine AWP.region ?_ | refine AWP.block ?_ | refine AWP.skip ?_ | refine AWP.exit ?_ | refine AWP.scope ?_ | refine AWP.label ?_)
      refine AWP.draw [[], [], [0], [0, 1, 2], [0, 1, 2, 3]] [(0, .read), (1, .read), (2, .eff), (3, .eff), (4, .eff)] rfl ?_
      refine DRun.load rfl rfl rfl (cellsAt_ptr o1) rfl rfl ?_
      refine DRun.load rfl rfl rfl (cellsAt_ptr u1) rfl rfl ?_
      repeat (first | refine DRun.op rfl rfl rfl ?_ | refine DRun.loadI rfl rfl rfl rfl rfl ?_ | refine DRun.load rfl rfl rfl rfl rfl rfl ?_ | refine DRun.nil ?_)
      have u2 : (H1.set r2 (.box [.sl ((etake Cod.nil b).1.map iq) tg])) bu = some (.box [.int .i64 ((etake Cod.nil b).2.1 : Nat)]) := by rw [Heap.set_ne _ _ ks.u2]; exact u1
      refine DRun.eff rfl rfl rfl (OpT.storeH rfl rfl rfl w2 rfl rfl ⟨?_, ?_⟩)
      · repeat (first | exact Chk.nil | refine Chk.pre rfl ?_ | refine Chk.load rfl rfl rfl rfl ?_ | refine Chk.load rfl (cellsAt_ptr u2) rfl rfl ?_)
      repeat (first | refine DRun.op rfl rfl rfl ?_ | refine DRun.loadI rfl rfl rfl rfl rfl ?_ | refine DRun.load rfl rfl rfl rfl rfl rfl ?_ | refine DRun.nil ?_)
      refine DRun.eff rfl rfl rfl (OpT.storeH rfl rfl rfl (by rw [Heap.set_ne _ _ ks.r23.symm]; exact w3) rfl rfl ⟨?_, ?_⟩)
      · repeat (first | exact Chk.nil | refine Chk.pre rfl ?_ | refine Chk.load rfl rfl rfl rfl ?_)
      repeat (first | refine DRun.op rfl rfl rfl ?_ | refine DRun.loadI rfl rfl rfl rfl rfl ?_ | refine DRun.load rfl rfl rfl rfl rfl rfl ?_ | refine DRun.nil ?_)
      refine DRun.eff rfl rfl rfl (OpT.storeH rfl rfl rfl (by rw [Heap.set_ne _ _ ks.r34.symm, Heap.set_ne _ _ ks.r24.symm]; exact w4) rfl rfl ⟨?_, ?_⟩)
      · repeat (first | exact Chk.nil | refine Chk.pre rfl ?_ | refine Chk.load rfl rfl rfl rfl ?_)
      repeat (first | refine DRun.op rfl rfl rfl ?_ | refine DRun.loadI rfl rfl rfl rfl rfl ?_ | refine DRun.load rfl rfl rfl rfl rfl rfl ?_ | refine DRun.nil ?_)
      refine AWP.ret ?_
      refine ⟨.tuple [.sl ((etake Cod.nil b).1.map iq) tg, .int .i64 ((etake Cod.nil b).2.1 : Nat), .int .i64 0], H0, take_res rfl rfl rfl ?_ ?_ ?_, rfl, Heap.le_off (Heap.le_off (Heap.le_off hold h2 _) h3 _) h4 _, tg, ?_, rfl⟩
      · rw [Heap.set_ne _ _ ks.r24, Heap.set_ne _ _ ks.r23, Heap.set_same]
      · rw [Heap.set_ne _ _ ks.r34, Heap.set_same]
      · exact Heap.set_same _ _ _
      · unfold eres; rw [he]; rfl
    · refine ⟨_, _, _, _, _, _, _, hle _ _ j2, by simp, ?_⟩
      dsimp only
      have hold : H0.le (H'.del l) := Heap.le_del (j1.trans hle) hz
      refine AWP.ret ?_
      refine ⟨.tuple [.sl ((etake Cod.nil b).1.map iq) tg, .int .i64 ((etake Cod.nil b).2.1 : Nat), .int .i64 ((etake Cod.nil b).2.2 : Nat)], H0, take_res rfl rfl rfl ?_ ?_ ?_, rfl, hold, tg, rfl, rfl⟩
      · rw [Heap.del_ne _ ks.l2.symm]; exact hle _ _ j3
      · rw [Heap.del_ne _ ks.l3.symm]; exact hle _ _ j4
      · rw [Heap.del_ne _ ks.l4.symm]; exact hle _ _ j5
end Go.Proofs.Ytlbnhokhhangdaa

/- What layer 7 is asked of first. -/
namespace Go.Proofs.Ytlbnhokhhangdaa
open Go Go.Am Go.Pk Go.Lib
set_option linter.unusedVariables false
set_option linter.unusedSimpArgs false
set_option maxRecDepth 10000

def WkL : List AV → List AV → Prop
  | [], [] => True
  | a :: r, b :: s => Wk a b ∧ WkL r s
  | _, _ => False

theorem WkL.get : ∀ {a b : List AV}, WkL a b → a.length = b.length ∧ ∀ j, Wk (a.getD j .any) (b.getD j .any)
  | [], [], _ => ⟨rfl, fun _ => Wk.refl _⟩
  | a :: r, b :: s, h => by
    obtain ⟨h1, h2⟩ := WkL.get h.2
    refine ⟨by simp [h1], fun j => ?_⟩
    cases j with
    | zero => exact h.1
    | succ j => simpa using h2 j
  | [], _ :: _, h => h.elim
  | _ :: _, [], h => h.elim

theorem Wk.slE {els els' : List AV} {tag : Tag} (h0 : els.length = els'.length) (h1 : ∀ sz, (∀ e ∈ els, e.cells.length = sz) → ∀ e ∈ els', e.cells.length = sz) (h2 : WkL (els.flatMap AV.cells) (els'.flatMap AV.cells)) : Wk (.sl els tag) (.sl els' tag) := by
  obtain ⟨k1, k2⟩ := h2.get
  intro G B v h
  cases h with
  | slempty =>
    have : els' = [] := List.length_eq_zero_iff.1 h0.symm
    subst this; exact .slempty _ _ _
  | slfull =>
    have : els' = [] := List.length_eq_zero_iff.1 h0.symm
    subst this; exact .slfull _ _
  | sl _ _ _ b off cap sz cv g1 g2 g3 g4 g5 =>
    rw [h0]
    exact .sl _ _ _ _ _ _ sz cv (h1 sz g1) (h0 ▸ g2) (h0 ▸ g3) (fun j hj => g4 j (by omega)) (fun j hj => k2 j _ _ _ (g5 j (by omega)))

theorem AOps.wk {N : Nat} {ops : Array Oper} {rest : List Oper} {σ : Go.Am.Frame} {loc : Go.Am.Loc} {H : Heap} {K : Kont} {t : Nat} {v v' : AV} (hw : Wk v v') (hk : AOps none Q.prog N ops rest ((t, v') :: σ) loc H K) :
    AOps none Q.prog N ops rest ((t, v) :: σ) loc H K :=
  fun b Qq G B a w hs he hq => hk b Qq G B a w ⟨hs.size, fun u => by
    have := hs.fr u
    rw [fget_cons] at this ⊢
    split
    · rename_i c; rw [if_pos c] at this; exact hw _ _ _ this
    · rename_i c; rw [if_neg c] at this; exact this, hs.mem⟩ he hq

theorem wk_two (a b : Txn) (s t tag : Tag) : Wk (.sl [tx a s, tx b t] tag) (.sl ([a, b].map tn) tag) := by
  refine Wk.slE rfl (fun sz h e he => ?_) ?_
  · have h6 : sz = 6 := (h (tx a s) (by simp)).symm
    rw [h6]
    simp only [List.map_cons, List.map_nil, List.mem_cons, List.not_mem_nil, or_false] at he
    rcases he with rfl | rfl <;> rfl
  · repeat (first | exact trivial | refine ⟨Wk.refl _, ?_⟩ | refine ⟨Wk.sl _ _, ?_⟩)

theorem wk_items (a b : It) (s t tag : Tag) : Wk (.sl [.agg [.bool a.reset, .int .i64 a.t.origin, .int .i64 a.t.seq, .int .i64 a.t.deps.a, .int .i64 a.t.deps.b, .int .i64 a.t.deps.c, .sl (a.t.writes.map wr) s],
    .agg [.bool b.reset, .int .i64 b.t.origin, .int .i64 b.t.seq, .int .i64 b.t.deps.a, .int .i64 b.t.deps.b, .int .i64 b.t.deps.c, .sl (b.t.writes.map wr) t]] tag) (.sl ([a, b].map iq) tag) := by
  refine Wk.slE rfl (fun sz h e he => ?_) ?_
  · have h6 : sz = 7 := (h _ (List.mem_cons_self ..)).symm
    rw [h6]
    simp only [List.map_cons, List.map_nil, List.mem_cons, List.not_mem_nil, or_false] at he
    rcases he with rfl | rfl <;> rfl
  · repeat (first | exact trivial | refine ⟨Wk.refl _, ?_⟩ | refine ⟨Wk.sl _ _, ?_⟩)

theorem wk_five (tag : Tag) : Wk (.sl (List.replicate 5 (tx Txn.zero .full)) tag) (.sl ((List.replicate 5 Txn.zero).map tn) tag) := by
  refine Wk.slE rfl (fun sz h e he => ?_) ?_
  · have h6 : sz = 6 := (h _ (List.mem_cons_self ..)).symm
    rw [h6]
    rw [List.map_replicate] at he
    rw [List.eq_of_mem_replicate he]; rfl
  · repeat (first | exact trivial | refine ⟨Wk.refl _, ?_⟩ | refine ⟨Wk.sl _ _, ?_⟩)

attribute [local irreducible] AOps AWP DRun ACalls
attribute [local irreducible] tputE ttake etake unpack bput eput rowB

set_option maxHeartbeats 1000000 in
theorem awake7_spec (H : Heap) : ACalls Q.prog 22 [] H fun r H' => r = .bool true ∧ H' = H := by
  refine ACalls.body (N := 142) Try.func22 rfl rfl rfl rfl ?_
  repeat (first
    | refine AOps.op rfl rfl ?_ | refine AOps.load rfl rfl rfl rfl rfl ?_ | refine AOps.nil ?_ | refine AWP.seq ?_ | refine AWP.region ?_ | refine AWP.block ?_ | refine AWP.skip ?_ | refine AWP.exit ?_ | refine AWP.scope ?_ | refine AWP.label ?_)
  refine AOps.buildSlice (els := [⟨[97], [120], false⟩].map wr) rfl rfl rfl ?_
  repeat (first
    | refine AOps.op rfl rfl ?_ | refine AOps.load rfl rfl rfl rfl rfl ?_ | refine AOps.nil ?_ | refine AWP.seq ?_ | refine AWP.region ?_ | refine AWP.block ?_ | refine AWP.skip ?_ | refine AWP.exit ?_ | refine AWP.scope ?_ | refine AWP.label ?_)
  refine AOps.allocL 0 rfl rfl rfl rfl ?_
  refine AOps.storeL rfl rfl rfl rfl ?_
  repeat (first
    | refine AOps.op rfl rfl ?_ | refine AOps.load rfl rfl rfl rfl rfl ?_ | refine AOps.nil ?_ | refine AWP.seq ?_ | refine AWP.region ?_ | refine AWP.block ?_ | refine AWP.skip ?_ | refine AWP.exit ?_ | refine AWP.scope ?_ | refine AWP.label ?_)
  refine AOps.buildSlice (els := [⟨[97], [], true⟩].map wr) rfl rfl rfl ?_
  repeat (first
    | refine AOps.op rfl rfl ?_ | refine AOps.load rfl rfl rfl rfl rfl ?_ | refine AOps.nil ?_ | refine AWP.seq ?_ | refine AWP.region ?_ | refine AWP.block ?_ | refine AWP.skip ?_ | refine AWP.exit ?_ | refine AWP.scope ?_ | refine AWP.label ?_)
  refine AOps.allocL 1 rfl rfl rfl rfl ?_
  refine AOps.storeL rfl rfl rfl rfl ?_
  repeat (first
    | refine AOps.op rfl rfl ?_ | refine AOps.load rfl rfl rfl rfl rfl ?_ | refine AOps.nil ?_ | refine AWP.seq ?_ | refine AWP.region ?_ | refine AWP.block ?_ | refine AWP.skip ?_ | refine AWP.exit ?_ | refine AWP.scope ?_ | refine AWP.label ?_)
  refine AOps.buildSlice (els := [tx tOne .full, tx tTwo .full]) rfl rfl rfl ?_
  refine AOps.wk (wk_two _ _ _ _ _) ?_
  refine AOps.call (vs := [.sl ([tOne, tTwo].map tn) .full]) rfl rfl rfl ((Pack_spec [tOne, tTwo] .full (by decide) (by decide) H).mono ?_)
  rintro _ H1 ⟨rfl, rfl⟩
  rw [pack_two]
  repeat (first
    | refine AOps.op rfl rfl ?_ | refine AOps.load rfl rfl rfl rfl rfl ?_ | refine AOps.nil ?_ | refine AWP.seq ?_ | refine AWP.region ?_ | refine AWP.block ?_ | refine AWP.skip ?_ | refine AWP.exit ?_ | refine AWP.scope ?_ | refine AWP.label ?_)
  refine AOps.call (vs := [.sl (encB pTwo) .no]) rfl rfl rfl ((Unpack_spec pTwo .no (by decide) H1).mono ?_)
  rintro _ H1 ⟨rfl, rfl⟩
  rw [unpack_two]
  repeat (first
    | refine AOps.op rfl rfl ?_ | refine AOps.load rfl rfl rfl rfl rfl ?_ | refine AOps.nil ?_ | refine AWP.seq ?_ | refine AWP.region ?_ | refine AWP.block ?_ | refine AWP.skip ?_ | refine AWP.exit ?_ | refine AWP.scope ?_ | refine AWP.label ?_)
  refine AOps.buildSlice (els := encB []) rfl rfl rfl ?_
  repeat (first
    | refine AOps.op rfl rfl ?_ | refine AOps.load rfl rfl rfl rfl rfl ?_ | refine AOps.nil ?_ | refine AWP.seq ?_ | refine AWP.region ?_ | refine AWP.block ?_ | refine AWP.skip ?_ | refine AWP.exit ?_ | refine AWP.scope ?_ | refine AWP.label ?_)
  refine appB (l := []) (m := pTwo) H1 (Heap.le_refl _) rfl rfl rfl rfl rfl trivial (by decide) fun g2 H2 a2 b2 => ?_
  refine AOps.buildSlice (els := encB [0]) rfl rfl rfl ?_
  refine appB H2 (Heap.le_refl _) rfl rfl rfl rfl rfl a2 (by decide) fun g3 H3 a3 b3 => ?_
  refine AOps.call (vs := [.sl (encB (pTwo ++ [0])) g3]) rfl rfl rfl ((Unpack_spec (pTwo ++ [0]) g3 (by decide) H3).mono ?_)
  rintro _ H4 ⟨rfl, rfl⟩
  rw [unpack_more]
  have old4 : H1.le H4 := by
    have e : hbase H4 g3 = H1 := b3.trans b2
    rw [← e]; exact hbase_le _ _
  repeat (first
    | refine AOps.op rfl rfl ?_ | refine AOps.load rfl rfl rfl rfl rfl ?_ | refine AOps.nil ?_ | refine AWP.seq ?_ | refine AWP.region ?_ | refine AWP.block ?_ | refine AWP.skip ?_ | refine AWP.exit ?_ | refine AWP.scope ?_ | refine AWP.label ?_)
  refine AOps.buildSlice (els := encB [5]) rfl rfl rfl ?_
  refine AOps.call (vs := [.sl (encB [5]) .full]) rfl rfl rfl ((Unpack_spec [5] .full (by decide) H4).mono ?_)
  rintro _ H4 ⟨rfl, rfl⟩
  rw [unpack_five]
  repeat (first
    | refine AOps.op rfl rfl ?_ | refine AOps.load rfl rfl rfl rfl rfl ?_ | refine AOps.nil ?_ | refine AWP.seq ?_ | refine AWP.region ?_ | refine AWP.block ?_ | refine AWP.skip ?_ | refine AWP.exit ?_ | refine AWP.scope ?_ | refine AWP.label ?_)
  refine AOps.step rfl rfl (OpT.makeSl (n := 5) rfl rfl rfl rfl rfl rfl rfl rfl (by decide) (by decide) (by decide) ?_)
  refine AOps.wk (wk_five _) ?_
  refine AOps.call (vs := [.sl ((List.replicate 5 Txn.zero).map tn) .full]) rfl rfl rfl ((Pack_spec (List.replicate 5 Txn.zero) .full (by decide) (by decide) H4).mono ?_)
  rintro _ H4 ⟨rfl, rfl⟩
  rw [pack_five _ (by decide)]
  repeat (first
    | refine AOps.op rfl rfl ?_ | refine AOps.load rfl rfl rfl rfl rfl ?_ | refine AOps.nil ?_ | refine AWP.seq ?_ | refine AWP.region ?_ | refine AWP.block ?_ | refine AWP.skip ?_ | refine AWP.exit ?_ | refine AWP.scope ?_ | refine AWP.label ?_)
  refine AOps.buildSlice (els := [.agg [.bool false, .int .i64 tOne.origin, .int .i64 tOne.seq, .int .i64 tOne.deps.a, .int .i64 tOne.deps.b, .int .i64 tOne.deps.c, .sl (tOne.writes.map wr) .full],
    .agg [.bool true, .int .i64 tTwo.origin, .int .i64 tTwo.seq, .int .i64 tTwo.deps.a, .int .i64 tTwo.deps.b, .int .i64 tTwo.deps.c, .sl (tTwo.writes.map wr) .full]]) rfl rfl rfl ?_
  refine AOps.wk (wk_items ⟨false, tOne⟩ ⟨true, tTwo⟩ _ _ _) ?_
  refine AOps.call (vs := [.sl ([⟨false, tOne⟩, ⟨true, tTwo⟩].map iq) .full]) rfl rfl rfl ((ePut_spec [⟨false, tOne⟩, ⟨true, tTwo⟩] .full (by decide) (by decide) H4).mono ?_)
  rintro _ H4 ⟨rfl, rfl⟩
  rw [stream_two]
  repeat (first
    | refine AOps.op rfl rfl ?_ | refine AOps.load rfl rfl rfl rfl rfl ?_ | refine AOps.nil ?_ | refine AWP.seq ?_ | refine AWP.region ?_ | refine AWP.block ?_ | refine AWP.skip ?_ | refine AWP.exit ?_ | refine AWP.scope ?_ | refine AWP.label ?_)
  refine AOps.buildSlice (els := encB []) rfl rfl rfl ?_
  repeat (first
    | refine AOps.op rfl rfl ?_ | refine AOps.load rfl rfl rfl rfl rfl ?_ | refine AOps.nil ?_ | refine AWP.seq ?_ | refine AWP.region ?_ | refine AWP.block ?_ | refine AWP.skip ?_ | refine AWP.exit ?_ | refine AWP.scope ?_ | refine AWP.label ?_)
  refine appB (l := []) (m := sTwo) H4 (Heap.le_refl _) rfl rfl rfl rfl rfl trivial (by decide) fun g5 H5 a5 b5 => ?_
  refine AOps.buildSlice (els := encB [2]) rfl rfl rfl ?_
  refine appB H5 (Heap.le_refl _) rfl rfl rfl rfl rfl a5 (by decide) fun g6 H6 a6 b6 => ?_
  refine AOps.call (vs := [.sl (encB (sTwo ++ [2])) g6]) rfl rfl rfl ((eTake_spec (sTwo ++ [2]) g6 (by decide) H6).mono ?_)
  rintro _ H6 ⟨rfl, rfl⟩
  obtain ⟨t1, t2, t3⟩ := take_two_more
  have old6 : H4.le H6 := by
    have e : hbase H6 g6 = H4 := b6.trans b5
    rw [← e]; exact hbase_le _ _
  unfold eres
  rw [t2, t3]
  generalize (etake Cod.nil (sTwo ++ [2])).1 = xs at *
  obtain ⟨x1, x2, rfl⟩ : ∃ x1 x2, xs = [x1, x2] := by
    match xs, t1 with
    | [x1, x2], _ => exact ⟨x1, x2, rfl⟩
  clear t1 t2 t3 a2 a3 a5 a6 b2 b3 b5 b6
  repeat (first
    | refine AOps.op rfl rfl ?_ | refine AOps.load rfl rfl rfl rfl rfl ?_ | refine AOps.nil ?_ | refine AWP.seq ?_ | refine AWP.region ?_ | refine AWP.block ?_ | refine AWP.skip ?_ | refine AWP.exit ?_ | refine AWP.scope ?_ | refine AWP.label ?_)
  refine AOps.buildSlice (els := encB pTwo) rfl rfl rfl ?_
  refine AOps.call (vs := [.sl (encB pTwo) .no, .sl (encB pTwo) .full]) rfl rfl rfl ((R1Same_spec pTwo pTwo .no .full (by decide) (by decide) H6).mono ?_)
  rintro _ H6 ⟨rfl, rfl⟩
  rw [show decide (pTwo = pTwo) = true from rfl]
  repeat (first | refine AOps.unguard rfl rfl rfl ?_ | refine AOps.op rfl rfl ?_ | refine AOps.load rfl rfl rfl rfl rfl ?_)
  refine AOps.buildSlice (els := [tx tOne .full, tx tTwo .full]) rfl rfl rfl ?_
  refine AOps.wk (wk_two _ _ _ _ _) ?_
  repeat (first | refine AOps.unguard rfl rfl rfl ?_ | refine AOps.op rfl rfl ?_ | refine AOps.load rfl rfl rfl rfl rfl ?_)
  refine AOps.call (vs := [.sl ([tOne, tTwo].map tn) .no, .sl ([tOne, tTwo].map tn) .full]) rfl rfl rfl ((Txns_spec [tOne, tTwo] [tOne, tTwo] .no .full (by decide) (by decide) (by decide) H6).mono ?_)
  rintro _ H6 ⟨rfl, rfl⟩
  rw [show decide ([tOne, tTwo] = [tOne, tTwo]) = true from rfl]
  repeat (first | refine AOps.unguard rfl rfl rfl ?_ | refine AOps.op rfl rfl ?_ | refine AOps.load rfl rfl rfl rfl rfl ?_)
  refine AOps.buildSlice (els := encB sTwo) rfl rfl rfl ?_
  repeat (first | refine AOps.unguard rfl rfl rfl ?_ | refine AOps.op rfl rfl ?_ | refine AOps.load rfl rfl rfl rfl rfl ?_)
  refine AOps.call (vs := [.sl (encB sTwo) .no, .sl (encB sTwo) .full]) rfl rfl rfl ((R1Same_spec sTwo sTwo .no .full (by decide) (by decide) H6).mono ?_)
  rintro _ H6 ⟨rfl, rfl⟩
  rw [show decide (sTwo = sTwo) = true from rfl]
  repeat (first | refine AOps.unguard rfl rfl rfl ?_ | refine AOps.op rfl rfl ?_ | refine AOps.load rfl rfl rfl rfl rfl ?_)
  refine AOps.buildSlice (els := [tx tOne .full, tx tTwo .full]) rfl rfl rfl ?_
  refine AOps.wk (wk_two _ _ _ _ _) ?_
  repeat (first | refine AOps.unguard rfl rfl rfl ?_ | refine AOps.op rfl rfl ?_ | refine AOps.load rfl rfl rfl rfl rfl ?_)
  refine AOps.call (vs := [.sl ([tOne, tTwo].map tn) .full]) rfl rfl rfl ((Row_spec [tOne, tTwo] .full (by decide) (by decide) H6).mono ?_)
  rintro _ H6 ⟨rfl, rfl⟩
  rw [row_two.1]
  repeat (first | refine AOps.unguard rfl rfl rfl ?_ | refine AOps.op rfl rfl ?_ | refine AOps.load rfl rfl rfl rfl rfl ?_)
  refine AOps.buildSlice (els := [tx tTwo .full, tx tOne .full]) rfl rfl rfl ?_
  refine AOps.wk (wk_two _ _ _ _ _) ?_
  repeat (first | refine AOps.unguard rfl rfl rfl ?_ | refine AOps.op rfl rfl ?_ | refine AOps.load rfl rfl rfl rfl rfl ?_)
  refine AOps.call (vs := [.sl ([tTwo, tOne].map tn) .full]) rfl rfl rfl ((Row_spec [tTwo, tOne] .full (by decide) (by decide) H6).mono ?_)
  rintro _ H6 ⟨rfl, rfl⟩
  rw [row_two.2]
  repeat (first | refine AOps.unguard rfl rfl rfl ?_ | refine AOps.op rfl rfl ?_ | refine AOps.load rfl rfl rfl rfl rfl ?_)
  repeat (first
    | refine AOps.op rfl rfl ?_ | refine AOps.load rfl rfl rfl rfl rfl ?_ | refine AOps.nil ?_ | refine AWP.seq ?_ | refine AWP.region ?_ | refine AWP.block ?_ | refine AWP.skip ?_ | refine AWP.exit ?_ | refine AWP.scope ?_ | refine AWP.label ?_)
  refine AWP.ret ?_
  exact ⟨_, _, rfl, rfl, old4.trans old6, rfl, rfl⟩
end Go.Proofs.Ytlbnhokhhangdaa

/- EpochTells. -/
namespace Go.Proofs.Ytlbnhokhhangdaa
open Go Go.Am Go.Pk Go.Lib
set_option linter.unusedVariables false
set_option linter.unusedSimpArgs false
set_option maxRecDepth 10000
attribute [local irreducible] AOps AWP DRun ACalls
attribute [local irreducible] etake unpack bput eput rowB rowF itsLarge

set_option maxHeartbeats 1000000 in
theorem EpochTells_spec (l : List It) (ts : List Txn) (b : Str) (hl : l.length * 72 ≤ 140737488351232) (hs : ∀ t ∈ ts, -(2 ^ 63) ≤ t.seq ∧ t.seq < 2 ^ 63) (H : Heap) :
    ACalls Q.prog 6 [.sl (l.map iq) .no, .sl (ts.map tn) .no, .sl (encB b) .no] H fun r H' => r = .bool true := by
  have hbl := encB_length b
  refine ACalls.body (N := 132) Try.func6 rfl rfl rfl rfl ?_
  repeat (first
    | refine AOps.op rfl rfl ?_ | refine AOps.load rfl rfl rfl rfl rfl ?_ | refine AOps.nil ?_ | refine AWP.seq ?_ | refine AWP.region ?_ | refine AWP.block ?_ | refine AWP.skip ?_ | refine AWP.exit ?_ | refine AWP.scope ?_ | refine AWP.label ?_)
  refine AOps.call rfl rfl rfl ((awake7_spec H).mono ?_)
  rintro _ H ⟨rfl, rfl⟩
  repeat (first
    | refine AOps.op rfl rfl ?_ | refine AOps.load rfl rfl rfl rfl rfl ?_ | refine AOps.nil ?_ | refine AWP.seq ?_ | refine AWP.region ?_ | refine AWP.block ?_ | refine AWP.skip ?_ | refine AWP.exit ?_ | refine AWP.scope ?_ | refine AWP.label ?_)
  refine AWP.cond rfl (fun h => absurd h (by simp)) (fun _ => ?_)
  repeat (first
    | refine AOps.op rfl rfl ?_ | refine AOps.load rfl rfl rfl rfl rfl ?_ | refine AOps.nil ?_ | refine AWP.seq ?_ | refine AWP.region ?_ | refine AWP.block ?_ | refine AWP.skip ?_ | refine AWP.exit ?_ | refine AWP.scope ?_ | refine AWP.label ?_)
  refine AOps.call rfl rfl rfl ((large7_spec l .no hl H).mono ?_)
  rintro _ H ⟨rfl, rfl⟩
  repeat (first
    | refine AOps.op rfl rfl ?_ | refine AOps.load rfl rfl rfl rfl rfl ?_ | refine AOps.nil ?_ | refine AWP.seq ?_ | refine AWP.region ?_ | refine AWP.block ?_ | refine AWP.skip ?_ | refine AWP.exit ?_ | refine AWP.scope ?_ | refine AWP.label ?_)
  refine AOps.or (j := 2) (y := itsLarge ts) [_, _] rfl rfl rfl rfl rfl rfl rfl (fun hb => ?_) ?_
  · repeat (first | refine AOps.unguard rfl rfl (by assumption) ?_ | refine AOps.op rfl rfl ?_ | refine AOps.load rfl rfl rfl rfl rfl ?_)
    refine AOps.call rfl rfl rfl ((Large7_spec ts .no H).mono ?_)
    rintro _ H ⟨rfl, rfl⟩
    exact AOps.nil (GuardEnd.of 2 rfl rfl rfl rfl rfl)
  repeat (first
    | refine AOps.op rfl rfl ?_ | refine AOps.load rfl rfl rfl rfl rfl ?_ | refine AOps.nil ?_ | refine AWP.seq ?_ | refine AWP.region ?_ | refine AWP.block ?_ | refine AWP.skip ?_ | refine AWP.exit ?_ | refine AWP.scope ?_ | refine AWP.label ?_)
  refine AOps.or (j := 6) (y := decide ((((encB b).length : Nat) : Int) > 9000)) [_, _, _] rfl rfl rfl rfl rfl rfl rfl (fun hb => ?_) ?_
  · repeat (first | refine AOps.unguard rfl rfl (by assumption) ?_ | refine AOps.op rfl rfl ?_ | refine AOps.load rfl rfl rfl rfl rfl ?_)
    exact AOps.nil (GuardEnd.of 3 rfl rfl rfl rfl rfl)
  repeat (first
    | refine AOps.op rfl rfl ?_ | refine AOps.load rfl rfl rfl rfl rfl ?_ | refine AOps.nil ?_ | refine AWP.seq ?_ | refine AWP.region ?_ | refine AWP.block ?_ | refine AWP.skip ?_ | refine AWP.exit ?_ | refine AWP.scope ?_ | refine AWP.label ?_)
  refine AWP.cond rfl (fun h => ?_) (fun h => ?_)
  · repeat (first
    | refine AOps.op rfl rfl ?_ | refine AOps.load rfl rfl rfl rfl rfl ?_ | refine AOps.nil ?_ | refine AWP.seq ?_ | refine AWP.region ?_ | refine AWP.block ?_ | refine AWP.skip ?_ | refine AWP.exit ?_ | refine AWP.scope ?_ | refine AWP.label ?_)
    refine AWP.ret ?_
    exact ⟨_, _, rfl, rfl, Heap.le_refl _, rfl⟩
  simp only [Bool.or_eq_false_iff, decide_eq_false_iff_not] at h
  obtain ⟨⟨g1, g2⟩, g3⟩ := h
  have hb : b.length ≤ 9000 := by rw [hbl] at g3; omega
  obtain ⟨l30, lw⟩ := itsLarge_no g1
  obtain ⟨t30, tw⟩ := itsLarge_no g2
  rw [List.length_map] at l30
  have lw' : ∀ x ∈ l, x.t.writes.length < 2 ^ 40 := fun x hx => by have := lw x.t (List.mem_map.2 ⟨x, hx, rfl⟩); omega
  have tw' : ∀ t ∈ ts, t.writes.length < 2 ^ 40 := fun t ht => by have := tw t ht; omega
  clear g1 g2 g3 lw tw
  obtain ⟨e1, e2, -, -⟩ := etake_good b
  obtain ⟨u1, u2⟩ := unpack_good b
  have p1 := eput_len' l
  have p2 := bput_len' ts
  repeat (first
    | refine AOps.op rfl rfl ?_ | refine AOps.load rfl rfl rfl rfl rfl ?_ | refine AOps.nil ?_ | refine AWP.seq ?_ | refine AWP.region ?_ | refine AWP.block ?_ | refine AWP.skip ?_ | refine AWP.exit ?_ | refine AWP.scope ?_ | refine AWP.label ?_)
  refine AOps.call rfl rfl rfl ((ePut_spec l .no lw' (by omega) H).mono ?_)
  rintro _ H ⟨rfl, rfl⟩
  repeat (first
    | refine AOps.op rfl rfl ?_ | refine AOps.load rfl rfl rfl rfl rfl ?_ | refine AOps.nil ?_ | refine AWP.seq ?_ | refine AWP.region ?_ | refine AWP.block ?_ | refine AWP.skip ?_ | refine AWP.exit ?_ | refine AWP.scope ?_ | refine AWP.label ?_)
  refine AOps.call rfl rfl rfl ((Own_spec l .no (by omega) H).mono ?_)
  rintro _ H ⟨rfl, rfl⟩
  refine AOps.call rfl rfl rfl ((R7Put_spec l .no lw' (by omega) H).mono ?_)
  rintro _ H ⟨rfl, rfl⟩
  repeat (first
    | refine AOps.op rfl rfl ?_ | refine AOps.load rfl rfl rfl rfl rfl ?_ | refine AOps.nil ?_ | refine AWP.seq ?_ | refine AWP.region ?_ | refine AWP.block ?_ | refine AWP.skip ?_ | refine AWP.exit ?_ | refine AWP.scope ?_ | refine AWP.label ?_)
  refine AOps.call rfl rfl rfl ((eTake_spec b .no (by omega) H).mono ?_)
  rintro _ H ⟨rfl, rfl⟩
  unfold eres
  repeat (first
    | refine AOps.op rfl rfl ?_ | refine AOps.load rfl rfl rfl rfl rfl ?_ | refine AOps.nil ?_ | refine AWP.seq ?_ | refine AWP.region ?_ | refine AWP.block ?_ | refine AWP.skip ?_ | refine AWP.exit ?_ | refine AWP.scope ?_ | refine AWP.label ?_)
  refine AOps.call rfl rfl rfl ((R7Take_spec b .no (by omega) H).mono ?_)
  rintro _ H ⟨rfl, rfl⟩
  unfold eres
  repeat (first
    | refine AOps.op rfl rfl ?_ | refine AOps.load rfl rfl rfl rfl rfl ?_ | refine AOps.nil ?_ | refine AWP.seq ?_ | refine AWP.region ?_ | refine AWP.block ?_ | refine AWP.skip ?_ | refine AWP.exit ?_ | refine AWP.scope ?_ | refine AWP.label ?_)
  refine AOps.call rfl rfl rfl ((Pack_spec ts .no tw' (by omega) H).mono ?_)
  rintro _ H ⟨rfl, rfl⟩
  repeat (first
    | refine AOps.op rfl rfl ?_ | refine AOps.load rfl rfl rfl rfl rfl ?_ | refine AOps.nil ?_ | refine AWP.seq ?_ | refine AWP.region ?_ | refine AWP.block ?_ | refine AWP.skip ?_ | refine AWP.exit ?_ | refine AWP.scope ?_ | refine AWP.label ?_)
  refine AOps.call rfl rfl rfl ((R7Pack_spec ts .no tw' (by omega) H).mono ?_)
  rintro _ H ⟨rfl, rfl⟩
  repeat (first
    | refine AOps.op rfl rfl ?_ | refine AOps.load rfl rfl rfl rfl rfl ?_ | refine AOps.nil ?_ | refine AWP.seq ?_ | refine AWP.region ?_ | refine AWP.block ?_ | refine AWP.skip ?_ | refine AWP.exit ?_ | refine AWP.scope ?_ | refine AWP.label ?_)
  refine AOps.call rfl rfl rfl ((Unpack_spec b .no (by omega) H).mono ?_)
  rintro _ H ⟨rfl, rfl⟩
  repeat (first
    | refine AOps.op rfl rfl ?_ | refine AOps.load rfl rfl rfl rfl rfl ?_ | refine AOps.nil ?_ | refine AWP.seq ?_ | refine AWP.region ?_ | refine AWP.block ?_ | refine AWP.skip ?_ | refine AWP.exit ?_ | refine AWP.scope ?_ | refine AWP.label ?_)
  refine AOps.call rfl rfl rfl ((R7Unpack_spec b .no (by omega) H).mono ?_)
  rintro _ H ⟨rfl, rfl⟩
  repeat (first
    | refine AOps.op rfl rfl ?_ | refine AOps.load rfl rfl rfl rfl rfl ?_ | refine AOps.nil ?_ | refine AWP.seq ?_ | refine AWP.region ?_ | refine AWP.block ?_ | refine AWP.skip ?_ | refine AWP.exit ?_ | refine AWP.scope ?_ | refine AWP.label ?_)
  refine AOps.call rfl rfl rfl ((R1Same_spec (eput l).1 (eput l).1 .no .no (by omega) (by omega) H).mono ?_)
  rintro _ H ⟨rfl, rfl⟩
  rw [show decide ((eput l).1 = (eput l).1) = true by simp]
  repeat (first | refine AOps.unguard rfl rfl rfl ?_ | refine AOps.op rfl rfl ?_ | refine AOps.load rfl rfl rfl rfl rfl ?_)
  rw [show ((((eput l).2 : Nat) : Int) == (((eput l).2 : Nat) : Int)) = true by simp]
  repeat (first | refine AOps.unguard rfl rfl rfl ?_ | refine AOps.op rfl rfl ?_ | refine AOps.load rfl rfl rfl rfl rfl ?_)
  refine AOps.call rfl rfl rfl ((Own_spec (etake Cod.nil b).1 .no (by omega) H).mono ?_)
  rintro _ H ⟨rfl, rfl⟩
  repeat (first | refine AOps.unguard rfl rfl rfl ?_ | refine AOps.op rfl rfl ?_ | refine AOps.load rfl rfl rfl rfl rfl ?_)
  refine AOps.call rfl rfl rfl ((Same7_spec (etake Cod.nil b).1 (etake Cod.nil b).1 .no .no (fun x hx => by have := e2 x hx; omega) (fun x hx => by have := e2 x hx; omega) (by omega) H).mono ?_)
  rintro _ H ⟨rfl, rfl⟩
  rw [show decide ((etake Cod.nil b).1 = (etake Cod.nil b).1) = true by simp]
  repeat (first | refine AOps.unguard rfl rfl rfl ?_ | refine AOps.op rfl rfl ?_ | refine AOps.load rfl rfl rfl rfl rfl ?_)
  rw [show ((((etake Cod.nil b).2.1 : Nat) : Int) == (((etake Cod.nil b).2.1 : Nat) : Int)) = true by simp]
  repeat (first | refine AOps.unguard rfl rfl rfl ?_ | refine AOps.op rfl rfl ?_ | refine AOps.load rfl rfl rfl rfl rfl ?_)
  rw [show ((((etake Cod.nil b).2.2 : Nat) : Int) == (((etake Cod.nil b).2.2 : Nat) : Int)) = true by simp]
  repeat (first | refine AOps.unguard rfl rfl rfl ?_ | refine AOps.op rfl rfl ?_ | refine AOps.load rfl rfl rfl rfl rfl ?_)
  refine AOps.call rfl rfl rfl ((R1Same_spec (bput ts).1 (bput ts).1 .no .no (by omega) (by omega) H).mono ?_)
  rintro _ H ⟨rfl, rfl⟩
  rw [show decide ((bput ts).1 = (bput ts).1) = true by simp]
  repeat (first | refine AOps.unguard rfl rfl rfl ?_ | refine AOps.op rfl rfl ?_ | refine AOps.load rfl rfl rfl rfl rfl ?_)
  rw [show ((((bput ts).2 : Nat) : Int) == (((bput ts).2 : Nat) : Int)) = true by simp]
  repeat (first | refine AOps.unguard rfl rfl rfl ?_ | refine AOps.op rfl rfl ?_ | refine AOps.load rfl rfl rfl rfl rfl ?_)
  refine AOps.call rfl rfl rfl ((Txns_spec (unpack b).1 (unpack b).1 .no .no (fun x hx => by have := u2 x hx; omega) (fun x hx => by have := u2 x hx; omega) (by omega) H).mono ?_)
  rintro _ H ⟨rfl, rfl⟩
  rw [show decide ((unpack b).1 = (unpack b).1) = true by simp]
  repeat (first | refine AOps.unguard rfl rfl rfl ?_ | refine AOps.op rfl rfl ?_ | refine AOps.load rfl rfl rfl rfl rfl ?_)
  rw [show ((((unpack b).2 : Nat) : Int) == (((unpack b).2 : Nat) : Int)) = true by simp]
  repeat (first | refine AOps.unguard rfl rfl rfl ?_ | refine AOps.op rfl rfl ?_ | refine AOps.load rfl rfl rfl rfl rfl ?_)
  refine AOps.call rfl rfl rfl ((Row_spec ts .no (by omega) hs H).mono ?_)
  rintro _ H ⟨rfl, rfl⟩
  repeat (first | refine AOps.unguard rfl rfl rfl ?_ | refine AOps.op rfl rfl ?_ | refine AOps.load rfl rfl rfl rfl rfl ?_)
  refine AOps.call rfl rfl rfl ((R7Row_spec ts .no (by omega) hs H).mono ?_)
  rintro _ H ⟨rfl, rfl⟩
  rw [← rowB_rowF]
  repeat (first | refine AOps.unguard rfl rfl rfl ?_ | refine AOps.op rfl rfl ?_ | refine AOps.load rfl rfl rfl rfl rfl ?_)
  rw [show (rowB ts == rowB ts) = true by simp]
  repeat (first | refine AOps.unguard rfl rfl rfl ?_ | refine AOps.op rfl rfl ?_ | refine AOps.load rfl rfl rfl rfl rfl ?_)
  repeat (first
    | refine AOps.op rfl rfl ?_ | refine AOps.load rfl rfl rfl rfl rfl ?_ | refine AOps.nil ?_ | refine AWP.seq ?_ | refine AWP.region ?_ | refine AWP.block ?_ | refine AWP.skip ?_ | refine AWP.exit ?_ | refine AWP.scope ?_ | refine AWP.label ?_)
  refine AWP.ret ?_
  exact ⟨_, _, rfl, rfl, Heap.le_refl _, rfl⟩
end Go.Proofs.Ytlbnhokhhangdaa

/- EpochBack. -/
namespace Go.Proofs.Ytlbnhokhhangdaa
open Go Go.Am Go.Pk Go.Lib
set_option linter.unusedVariables false
set_option linter.unusedSimpArgs false
set_option maxRecDepth 10000
attribute [local irreducible] AOps AWP DRun ACalls
attribute [local irreducible] etake unpack bput eput rowB rowF itsLarge

set_option maxHeartbeats 1000000 in
theorem EpochBack_spec (l : List It) (b : Str) (hl : l.length * 72 ≤ 140737488351232) (H : Heap) :
    ACalls Q.prog 7 [.sl (l.map iq) .no, .sl (encB b) .no] H fun r H' => r = .bool true := by
  have hbl := encB_length b
  refine ACalls.body (N := 85) Try.func7 rfl rfl rfl rfl ?_
  repeat (first
    | refine AOps.op rfl rfl ?_ | refine AOps.load rfl rfl rfl rfl rfl ?_ | refine AOps.nil ?_ | refine AWP.seq ?_ | refine AWP.region ?_ | refine AWP.block ?_ | refine AWP.skip ?_ | refine AWP.exit ?_ | refine AWP.scope ?_ | refine AWP.label ?_)
  refine AOps.call rfl rfl rfl ((awake7_spec H).mono ?_)
  rintro _ H ⟨rfl, rfl⟩
  repeat (first
    | refine AOps.op rfl rfl ?_ | refine AOps.load rfl rfl rfl rfl rfl ?_ | refine AOps.nil ?_ | refine AWP.seq ?_ | refine AWP.region ?_ | refine AWP.block ?_ | refine AWP.skip ?_ | refine AWP.exit ?_ | refine AWP.scope ?_ | refine AWP.label ?_)
  refine AWP.cond rfl (fun h => absurd h (by simp)) (fun _ => ?_)
  repeat (first
    | refine AOps.op rfl rfl ?_ | refine AOps.load rfl rfl rfl rfl rfl ?_ | refine AOps.nil ?_ | refine AWP.seq ?_ | refine AWP.region ?_ | refine AWP.block ?_ | refine AWP.skip ?_ | refine AWP.exit ?_ | refine AWP.scope ?_ | refine AWP.label ?_)
  refine AOps.call rfl rfl rfl ((large7_spec l .no hl H).mono ?_)
  rintro _ H ⟨rfl, rfl⟩
  repeat (first
    | refine AOps.op rfl rfl ?_ | refine AOps.load rfl rfl rfl rfl rfl ?_ | refine AOps.nil ?_ | refine AWP.seq ?_ | refine AWP.region ?_ | refine AWP.block ?_ | refine AWP.skip ?_ | refine AWP.exit ?_ | refine AWP.scope ?_ | refine AWP.label ?_)
  refine AOps.or (j := 2) (y := decide ((((encB b).length : Nat) : Int) > 9000)) [_, _, _] rfl rfl rfl rfl rfl rfl rfl (fun hb => ?_) ?_
  · repeat (first | refine AOps.unguard rfl rfl (by assumption) ?_ | refine AOps.op rfl rfl ?_ | refine AOps.load rfl rfl rfl rfl rfl ?_)
    exact AOps.nil (GuardEnd.of 3 rfl rfl rfl rfl rfl)
  repeat (first
    | refine AOps.op rfl rfl ?_ | refine AOps.load rfl rfl rfl rfl rfl ?_ | refine AOps.nil ?_ | refine AWP.seq ?_ | refine AWP.region ?_ | refine AWP.block ?_ | refine AWP.skip ?_ | refine AWP.exit ?_ | refine AWP.scope ?_ | refine AWP.label ?_)
  refine AWP.cond rfl (fun h => ?_) (fun h => ?_)
  · repeat (first
    | refine AOps.op rfl rfl ?_ | refine AOps.load rfl rfl rfl rfl rfl ?_ | refine AOps.nil ?_ | refine AWP.seq ?_ | refine AWP.region ?_ | refine AWP.block ?_ | refine AWP.skip ?_ | refine AWP.exit ?_ | refine AWP.scope ?_ | refine AWP.label ?_)
    refine AWP.ret ?_
    exact ⟨_, _, rfl, rfl, Heap.le_refl _, rfl⟩
  simp only [Bool.or_eq_false_iff, decide_eq_false_iff_not] at h
  obtain ⟨g1, g3⟩ := h
  have hb : b.length ≤ 9000 := by rw [hbl] at g3; omega
  obtain ⟨l30, lw⟩ := itsLarge_no g1
  rw [List.length_map] at l30
  have lw' : ∀ x ∈ l, x.t.writes.length < 2 ^ 40 := fun x hx => by have := lw x.t (List.mem_map.2 ⟨x, hx, rfl⟩); omega
  clear g1 g3 lw
  obtain ⟨e1, e2, e3, e4⟩ := etake_good b
  have p1 := eput_len' l
  have hback := etake_eput (l := l)
  have herr := eput_err (l := l)
  repeat (first
    | refine AOps.op rfl rfl ?_ | refine AOps.load rfl rfl rfl rfl rfl ?_ | refine AOps.nil ?_ | refine AWP.seq ?_ | refine AWP.region ?_ | refine AWP.block ?_ | refine AWP.skip ?_ | refine AWP.exit ?_ | refine AWP.scope ?_ | refine AWP.label ?_)
  refine AOps.call rfl rfl rfl ((eTake_spec b .no (by omega) H).mono ?_)
  rintro _ H ⟨rfl, rfl⟩
  unfold eres
  generalize etake Cod.nil b = Z at *
  obtain ⟨xs, n, e⟩ := Z
  simp only at e1 e2 e3 e4
  dsimp only
  repeat (first
    | refine AOps.op rfl rfl ?_ | refine AOps.load rfl rfl rfl rfl rfl ?_ | refine AOps.nil ?_ | refine AWP.seq ?_ | refine AWP.region ?_ | refine AWP.block ?_ | refine AWP.skip ?_ | refine AWP.exit ?_ | refine AWP.scope ?_ | refine AWP.label ?_)
  refine AOps.call rfl rfl rfl ((ePut_spec xs .no (fun x hx => by have := e2 x hx; omega) (by omega) H).mono ?_)
  rintro _ H ⟨rfl, rfl⟩
  rw [e4]
  dsimp only
  have htl : (b.take n).length = n := by simp; omega
  repeat (first
    | refine AOps.op rfl rfl ?_ | refine AOps.load rfl rfl rfl rfl rfl ?_ | refine AOps.nil ?_ | refine AWP.seq ?_ | refine AWP.region ?_ | refine AWP.block ?_ | refine AWP.skip ?_ | refine AWP.exit ?_ | refine AWP.scope ?_ | refine AWP.label ?_)
  refine AOps.or (j := 2) (y := decide ((n : Int) < 0)) [_, _] rfl rfl rfl rfl rfl rfl rfl (fun hb => ?_) ?_
  · repeat (first | refine AOps.unguard rfl rfl (by assumption) ?_ | refine AOps.op rfl rfl ?_ | refine AOps.load rfl rfl rfl rfl rfl ?_)
    exact AOps.nil (GuardEnd.of 2 rfl rfl rfl rfl rfl)
  repeat (first
    | refine AOps.op rfl rfl ?_ | refine AOps.load rfl rfl rfl rfl rfl ?_ | refine AOps.nil ?_ | refine AWP.seq ?_ | refine AWP.region ?_ | refine AWP.block ?_ | refine AWP.skip ?_ | refine AWP.exit ?_ | refine AWP.scope ?_ | refine AWP.label ?_)
  refine AOps.or (j := 6) (y := decide ((n : Int) > (((encB b).length : Nat) : Int))) [_, _, _, _] rfl rfl rfl rfl rfl rfl rfl (fun hb => ?_) ?_
  · repeat (first | refine AOps.unguard rfl rfl (by assumption) ?_ | refine AOps.op rfl rfl ?_ | refine AOps.load rfl rfl rfl rfl rfl ?_)
    exact AOps.nil (GuardEnd.of 4 rfl rfl rfl rfl rfl)
  repeat (first
    | refine AOps.op rfl rfl ?_ | refine AOps.load rfl rfl rfl rfl rfl ?_ | refine AOps.nil ?_ | refine AWP.seq ?_ | refine AWP.region ?_ | refine AWP.block ?_ | refine AWP.skip ?_ | refine AWP.exit ?_ | refine AWP.scope ?_ | refine AWP.label ?_)
  refine AOps.or (j := 12) (y := !decide (b.take n = b.take n)) [_, _, _, _, _, _] rfl rfl rfl rfl rfl rfl rfl (fun hb => ?_) ?_
  · repeat (first | refine AOps.unguard rfl rfl (by assumption) ?_ | refine AOps.op rfl rfl ?_ | refine AOps.load rfl rfl rfl rfl rfl ?_)
    refine AOps.step rfl rfl (cutTo n rfl rfl e3 ?_)
    repeat (first | refine AOps.unguard rfl rfl (by assumption) ?_ | refine AOps.op rfl rfl ?_ | refine AOps.load rfl rfl rfl rfl rfl ?_)
    refine AOps.call (vs := [.sl (encB (b.take n)) .no, .sl (encB (b.take n)) .no]) rfl rfl rfl ((R1Same_spec (b.take n) (b.take n) .no .no (by omega) (by omega) H).mono ?_)
    rintro _ H ⟨rfl, rfl⟩
    repeat (first | refine AOps.unguard rfl rfl (by assumption) ?_ | refine AOps.op rfl rfl ?_ | refine AOps.load rfl rfl rfl rfl rfl ?_)
    exact AOps.nil (GuardEnd.of 6 rfl rfl rfl rfl rfl)
  refine AOps.nil ?_
  refine AWP.cond rfl (fun h => ?_) (fun _ => ?_)
  · rw [hbl] at h; simp at h; omega
  repeat (first
    | refine AOps.op rfl rfl ?_ | refine AOps.load rfl rfl rfl rfl rfl ?_ | refine AOps.nil ?_ | refine AWP.seq ?_ | refine AWP.region ?_ | refine AWP.block ?_ | refine AWP.skip ?_ | refine AWP.exit ?_ | refine AWP.scope ?_ | refine AWP.label ?_)
  refine AOps.call rfl rfl rfl ((ePut_spec l .no lw' (by omega) H).mono ?_)
  rintro _ H ⟨rfl, rfl⟩
  generalize eput l = P at *
  obtain ⟨pb, pe⟩ := P
  simp only at p1 hback herr
  dsimp only
  repeat (first
    | refine AOps.op rfl rfl ?_ | refine AOps.load rfl rfl rfl rfl rfl ?_ | refine AOps.nil ?_ | refine AWP.seq ?_ | refine AWP.region ?_ | refine AWP.block ?_ | refine AWP.skip ?_ | refine AWP.exit ?_ | refine AWP.scope ?_ | refine AWP.label ?_)
  refine AWP.cond rfl (fun h => ?_) (fun h => ?_)
  · have h : pe ≠ 0 := by simp at h; omega
    obtain rfl := herr h
    repeat (first
    | refine AOps.op rfl rfl ?_ | refine AOps.load rfl rfl rfl rfl rfl ?_ | refine AOps.nil ?_ | refine AWP.seq ?_ | refine AWP.region ?_ | refine AWP.block ?_ | refine AWP.skip ?_ | refine AWP.exit ?_ | refine AWP.scope ?_ | refine AWP.label ?_)
    refine AWP.ret ?_
    exact ⟨_, _, rfl, rfl, Heap.le_refl _, rfl⟩
  have h : pe = 0 := by simp at h; omega
  subst h
  repeat (first
    | refine AOps.op rfl rfl ?_ | refine AOps.load rfl rfl rfl rfl rfl ?_ | refine AOps.nil ?_ | refine AWP.seq ?_ | refine AWP.region ?_ | refine AWP.block ?_ | refine AWP.skip ?_ | refine AWP.exit ?_ | refine AWP.scope ?_ | refine AWP.label ?_)
  refine AOps.call rfl rfl rfl ((eTake_spec pb .no (by omega) H).mono ?_)
  rintro _ H ⟨rfl, rfl⟩
  unfold eres
  rw [hback rfl]
  dsimp only
  repeat (first
    | refine AOps.op rfl rfl ?_ | refine AOps.load rfl rfl rfl rfl rfl ?_ | refine AOps.nil ?_ | refine AWP.seq ?_ | refine AWP.region ?_ | refine AWP.block ?_ | refine AWP.skip ?_ | refine AWP.exit ?_ | refine AWP.scope ?_ | refine AWP.label ?_)
  rw [show (((0 : Nat) : Int) == 0) = true from rfl]
  repeat (first | refine AOps.unguard rfl rfl rfl ?_ | refine AOps.op rfl rfl ?_ | refine AOps.load rfl rfl rfl rfl rfl ?_)
  rw [encB_length, show ((pb.length : Int) == (pb.length : Int)) = true by simp]
  repeat (first | refine AOps.unguard rfl rfl rfl ?_ | refine AOps.op rfl rfl ?_ | refine AOps.load rfl rfl rfl rfl rfl ?_)
  refine AOps.call rfl rfl rfl ((Own_spec l .no (by omega) H).mono ?_)
  rintro _ H ⟨rfl, rfl⟩
  repeat (first | refine AOps.unguard rfl rfl rfl ?_ | refine AOps.op rfl rfl ?_ | refine AOps.load rfl rfl rfl rfl rfl ?_)
  refine AOps.call rfl rfl rfl ((Own_spec l .no (by omega) H).mono ?_)
  rintro _ H ⟨rfl, rfl⟩
  repeat (first | refine AOps.unguard rfl rfl rfl ?_ | refine AOps.op rfl rfl ?_ | refine AOps.load rfl rfl rfl rfl rfl ?_)
  refine AOps.call rfl rfl rfl ((Same7_spec l l .no .no lw' lw' (by omega) H).mono ?_)
  rintro _ H ⟨rfl, rfl⟩
  rw [show decide (l = l) = true by simp]
  repeat (first | refine AOps.unguard rfl rfl rfl ?_ | refine AOps.op rfl rfl ?_ | refine AOps.load rfl rfl rfl rfl rfl ?_)
  repeat (first
    | refine AOps.op rfl rfl ?_ | refine AOps.load rfl rfl rfl rfl rfl ?_ | refine AOps.nil ?_ | refine AWP.seq ?_ | refine AWP.region ?_ | refine AWP.block ?_ | refine AWP.skip ?_ | refine AWP.exit ?_ | refine AWP.scope ?_ | refine AWP.label ?_)
  refine AWP.ret ?_
  exact ⟨_, _, rfl, rfl, Heap.le_refl _, rfl⟩
end Go.Proofs.Ytlbnhokhhangdaa

/- EpochBatch. -/
namespace Go.Proofs.Ytlbnhokhhangdaa
open Go Go.Am Go.Pk Go.Lib
set_option linter.unusedVariables false
set_option linter.unusedSimpArgs false
set_option maxRecDepth 10000
attribute [local irreducible] AOps AWP DRun ACalls
attribute [local irreducible] etake unpack bput eput rowB rowF itsLarge tcheck

set_option maxHeartbeats 1000000 in
theorem EpochBatch_spec (ts : List Txn) (b : Str) (H : Heap) :
    ACalls Q.prog 8 [.sl (ts.map tn) .no, .sl (encB b) .no] H fun r H' => r = .bool true := by
  have hbl := encB_length b
  refine ACalls.body (N := 91) Try.func8 rfl rfl rfl rfl ?_
  repeat (first
    | refine AOps.op rfl rfl ?_ | refine AOps.load rfl rfl rfl rfl rfl ?_ | refine AOps.nil ?_ | refine AWP.seq ?_ | refine AWP.region ?_ | refine AWP.block ?_ | refine AWP.skip ?_ | refine AWP.exit ?_ | refine AWP.scope ?_ | refine AWP.label ?_)
  refine AOps.call rfl rfl rfl ((awake7_spec H).mono ?_)
  rintro _ H ⟨rfl, rfl⟩
  repeat (first
    | refine AOps.op rfl rfl ?_ | refine AOps.load rfl rfl rfl rfl rfl ?_ | refine AOps.nil ?_ | refine AWP.seq ?_ | refine AWP.region ?_ | refine AWP.block ?_ | refine AWP.skip ?_ | refine AWP.exit ?_ | refine AWP.scope ?_ | refine AWP.label ?_)
  refine AWP.cond rfl (fun h => absurd h (by simp)) (fun _ => ?_)
  repeat (first
    | refine AOps.op rfl rfl ?_ | refine AOps.load rfl rfl rfl rfl rfl ?_ | refine AOps.nil ?_ | refine AWP.seq ?_ | refine AWP.region ?_ | refine AWP.block ?_ | refine AWP.skip ?_ | refine AWP.exit ?_ | refine AWP.scope ?_ | refine AWP.label ?_)
  refine AOps.call rfl rfl rfl ((Large7_spec ts .no H).mono ?_)
  rintro _ H ⟨rfl, rfl⟩
  repeat (first
    | refine AOps.op rfl rfl ?_ | refine AOps.load rfl rfl rfl rfl rfl ?_ | refine AOps.nil ?_ | refine AWP.seq ?_ | refine AWP.region ?_ | refine AWP.block ?_ | refine AWP.skip ?_ | refine AWP.exit ?_ | refine AWP.scope ?_ | refine AWP.label ?_)
  refine AOps.or (j := 2) (y := decide ((((encB b).length : Nat) : Int) > 9000)) [_, _, _] rfl rfl rfl rfl rfl rfl rfl (fun hb => ?_) ?_
  · repeat (first | refine AOps.unguard rfl rfl (by assumption) ?_ | refine AOps.op rfl rfl ?_ | refine AOps.load rfl rfl rfl rfl rfl ?_)
    exact AOps.nil (GuardEnd.of 3 rfl rfl rfl rfl rfl)
  repeat (first
    | refine AOps.op rfl rfl ?_ | refine AOps.load rfl rfl rfl rfl rfl ?_ | refine AOps.nil ?_ | refine AWP.seq ?_ | refine AWP.region ?_ | refine AWP.block ?_ | refine AWP.skip ?_ | refine AWP.exit ?_ | refine AWP.scope ?_ | refine AWP.label ?_)
  refine AWP.cond rfl (fun h => ?_) (fun h => ?_)
  · repeat (first
    | refine AOps.op rfl rfl ?_ | refine AOps.load rfl rfl rfl rfl rfl ?_ | refine AOps.nil ?_ | refine AWP.seq ?_ | refine AWP.region ?_ | refine AWP.block ?_ | refine AWP.skip ?_ | refine AWP.exit ?_ | refine AWP.scope ?_ | refine AWP.label ?_)
    refine AWP.ret ?_
    exact ⟨_, _, rfl, rfl, Heap.le_refl _, rfl⟩
  simp only [Bool.or_eq_false_iff, decide_eq_false_iff_not] at h
  obtain ⟨g1, g3⟩ := h
  have hb : b.length ≤ 9000 := by rw [hbl] at g3; omega
  obtain ⟨t30, tw⟩ := itsLarge_no g1
  have tw' : ∀ t ∈ ts, t.writes.length < 2 ^ 40 := fun t ht => by have := tw t ht; omega
  clear g1 g3 tw
  obtain ⟨u1, u2⟩ := unpack_good b
  have hun := bput_unpack (b := b)
  have p2 := bput_len' ts
  have hback := unpack_bput (l := ts)
  have herr := bput_err (l := ts)
  repeat (first
    | refine AOps.op rfl rfl ?_ | refine AOps.load rfl rfl rfl rfl rfl ?_ | refine AOps.nil ?_ | refine AWP.seq ?_ | refine AWP.region ?_ | refine AWP.block ?_ | refine AWP.skip ?_ | refine AWP.exit ?_ | refine AWP.scope ?_ | refine AWP.label ?_)
  refine AOps.call rfl rfl rfl ((Unpack_spec b .no (by omega) H).mono ?_)
  rintro _ H ⟨rfl, rfl⟩
  generalize unpack b = U at *
  obtain ⟨ul, ue⟩ := U
  simp only at u1 u2 hun
  dsimp only
  repeat (first
    | refine AOps.op rfl rfl ?_ | refine AOps.load rfl rfl rfl rfl rfl ?_ | refine AOps.nil ?_ | refine AWP.seq ?_ | refine AWP.region ?_ | refine AWP.skip ?_ | refine AWP.exit ?_ | refine AWP.scope ?_ | refine AWP.label ?_)
  refine AWP.thnA (α := Unit) (fun _ => True) (fun _ => [(0, .sl (ts.map tn) .no), (1, .sl (encB b) .no)]) (fun _ => []) (fun _ => H) ?_ ?_
  · refine AWP.cond rfl (fun h => ?_) (fun h => ?_)
    · have h : ue = 0 := by simp at h; omega
      obtain ⟨h1, h2⟩ := hun h
      repeat (first
    | refine AOps.op rfl rfl ?_ | refine AOps.load rfl rfl rfl rfl rfl ?_ | refine AOps.nil ?_ | refine AWP.seq ?_ | refine AWP.region ?_ | refine AWP.block ?_ | refine AWP.skip ?_ | refine AWP.exit ?_ | refine AWP.scope ?_ | refine AWP.label ?_)
      refine AOps.call rfl rfl rfl ((Pack_spec ul .no (fun t ht => by have := u2 t ht; omega) (by omega) H).mono ?_)
      rintro _ H ⟨rfl, rfl⟩
      rw [h1]
      dsimp only
      repeat (first
    | refine AOps.op rfl rfl ?_ | refine AOps.load rfl rfl rfl rfl rfl ?_ | refine AOps.nil ?_ | refine AWP.seq ?_ | refine AWP.region ?_ | refine AWP.block ?_ | refine AWP.skip ?_ | refine AWP.exit ?_ | refine AWP.scope ?_ | refine AWP.label ?_)
      refine AOps.or (j := 2) (y := !decide (b = b)) [_, _, _, _] rfl rfl rfl rfl rfl rfl rfl (fun hb => ?_) ?_
      · repeat (first | refine AOps.unguard rfl rfl (by assumption) ?_ | refine AOps.op rfl rfl ?_ | refine AOps.load rfl rfl rfl rfl rfl ?_)
        refine AOps.call (vs := [.sl (encB b) .no, .sl (encB b) .no]) rfl rfl rfl ((R1Same_spec b b .no .no (by omega) (by omega) H).mono ?_)
        rintro _ H ⟨rfl, rfl⟩
        repeat (first | refine AOps.unguard rfl rfl (by assumption) ?_ | refine AOps.op rfl rfl ?_ | refine AOps.load rfl rfl rfl rfl rfl ?_)
        exact AOps.nil (GuardEnd.of 4 rfl rfl rfl rfl rfl)
      repeat (first
    | refine AOps.op rfl rfl ?_ | refine AOps.load rfl rfl rfl rfl rfl ?_ | refine AOps.nil ?_ | refine AWP.seq ?_ | refine AWP.region ?_ | refine AWP.block ?_ | refine AWP.skip ?_ | refine AWP.exit ?_ | refine AWP.scope ?_ | refine AWP.label ?_)
      refine AOps.or (j := 8) (y := decide ((((ul.map tn).length : Nat) : Int) > 4)) [_, _, _] rfl rfl rfl rfl rfl rfl rfl (fun hb => ?_) ?_
      · repeat (first | refine AOps.unguard rfl rfl (by assumption) ?_ | refine AOps.op rfl rfl ?_ | refine AOps.load rfl rfl rfl rfl rfl ?_)
        exact AOps.nil (GuardEnd.of 3 rfl rfl rfl rfl rfl)
      refine AOps.nil ?_
      refine AWP.cond rfl (fun h => ?_) (fun _ => ?_)
      · simp at h; omega
      repeat (first
    | refine AOps.op rfl rfl ?_ | refine AOps.load rfl rfl rfl rfl rfl ?_ | refine AOps.nil ?_ | refine AWP.seq ?_ | refine AWP.region ?_ | refine AWP.block ?_ | refine AWP.skip ?_ | refine AWP.exit ?_ | refine AWP.scope ?_ | refine AWP.label ?_)
      exact ⟨(), trivial, ⟨rfl, rfl, trivial⟩, rfl, Heap.le_refl _⟩
    · repeat (first
    | refine AOps.op rfl rfl ?_ | refine AOps.load rfl rfl rfl rfl rfl ?_ | refine AOps.nil ?_ | refine AWP.seq ?_ | refine AWP.region ?_ | refine AWP.block ?_ | refine AWP.skip ?_ | refine AWP.exit ?_ | refine AWP.scope ?_ | refine AWP.label ?_)
      exact ⟨(), trivial, ⟨rfl, rfl, trivial⟩, rfl, Heap.le_refl _⟩
  clear hun u1 u2
  rintro ⟨⟩ -
  repeat (first
    | refine AOps.op rfl rfl ?_ | refine AOps.load rfl rfl rfl rfl rfl ?_ | refine AOps.nil ?_ | refine AWP.seq ?_ | refine AWP.region ?_ | refine AWP.block ?_ | refine AWP.skip ?_ | refine AWP.exit ?_ | refine AWP.scope ?_ | refine AWP.label ?_)
  refine AOps.call rfl rfl rfl ((Pack_spec ts .no tw' (by omega) H).mono ?_)
  rintro _ H ⟨rfl, rfl⟩
  generalize bput ts = P at *
  obtain ⟨pb, pe⟩ := P
  simp only at p2 hback herr
  dsimp only
  repeat (first
    | refine AOps.op rfl rfl ?_ | refine AOps.load rfl rfl rfl rfl rfl ?_ | refine AOps.nil ?_ | refine AWP.seq ?_ | refine AWP.region ?_ | refine AWP.block ?_ | refine AWP.skip ?_ | refine AWP.exit ?_ | refine AWP.scope ?_ | refine AWP.label ?_)
  refine AWP.cond rfl (fun h => ?_) (fun h => ?_)
  · have h : pe ≠ 0 := by simp at h; omega
    obtain ⟨rfl, hgood⟩ := herr h
    repeat (first
    | refine AOps.op rfl rfl ?_ | refine AOps.load rfl rfl rfl rfl rfl ?_ | refine AOps.nil ?_ | refine AWP.seq ?_ | refine AWP.region ?_ | refine AWP.skip ?_ | refine AWP.exit ?_ | refine AWP.scope ?_ | refine AWP.label ?_)
    have ed : decide ((((ts.map tn).length : Nat) : Int) ≤ 4) = decide (ts.length ≤ 4) := by rw [tn_len, decide_eq_decide]; omega
    rw [ed]
    refine AWP.thnA (α := Unit) (fun _ => True) (fun _ => [(9, .sl (encB []) .no), (10, .bool (decide (ts.length ≤ 4) && ts.all (fun t => decide (tcheck t = 0))))]) (fun _ => []) (fun _ => H) ?_ ?_
    · refine AWP.block ?_
      refine AWP.loopA (α := Nat) (fun i => i ≤ ts.length) (fun i => ts.length - i)
        (fun i => [(9, .sl (encB []) .no), (10, .bool (decide (ts.length ≤ 4) && (ts.take i).all (fun t => decide (tcheck t = 0)))), (59, .sl (ts.map tn) .no), (60, .int .i64 ts.length), (61, .int .i64 i)]) (fun _ => []) (fun _ => H) 0 (by simp)
        ⟨rfl, by simp only [List.take_zero, List.all_nil, Bool.and_true]; rfl, rfl, ?_, rfl, trivial⟩ rfl (Heap.le_refl _) ?_
      · exact congrArg (fun n : Nat => some (AV.int .i64 n)) (tn_len ts)
      rintro i i1
      repeat (first
    | refine AOps.op rfl rfl ?_ | refine AOps.load rfl rfl rfl rfl rfl ?_ | refine AOps.nil ?_ | refine AWP.seq ?_ | refine AWP.region ?_ | refine AWP.block ?_ | refine AWP.skip ?_ | refine AWP.exit ?_ | refine AWP.scope ?_ | refine AWP.label ?_)
      refine AWP.cond rfl (fun h => ?_) (fun h => ?_)
      · have hlt : i < ts.length := by simp at h; omega
        have ei : IntKind.i64.wrap ((i : Int) + 1) = ((i + 1 : Nat) : Int) := wrap_i64 (n := i + 1) (by omega)
        obtain ⟨t, ht⟩ : ∃ t, ts[i]? = some t := ⟨ts[i], List.getElem?_eq_getElem hlt⟩
        have htw := tw' t (List.mem_of_getElem? ht)
        have hnx : (decide (ts.length ≤ 4) && (ts.take i).all (fun t => decide (tcheck t = 0)) && (((tcheck t : Nat) : Int) == 0)) = (decide (ts.length ≤ 4) && (ts.take (i + 1)).all (fun t => decide (tcheck t = 0))) := by
          have e : (((tcheck t : Nat) : Int) == 0) = decide (tcheck t = 0) := by rw [Bool.eq_iff_iff, beq_iff_eq, decide_eq_true_eq]; omega
          rw [List.take_add_one, ht, List.all_append, Bool.and_assoc, e]
          simp
        repeat (first
    | refine AOps.op rfl rfl ?_ | refine AOps.load rfl rfl rfl rfl rfl ?_ | refine AOps.nil ?_ | refine AWP.seq ?_ | refine AWP.region ?_ | refine AWP.block ?_ | refine AWP.skip ?_ | refine AWP.exit ?_ | refine AWP.scope ?_ | refine AWP.label ?_)
        refine AOps.indexSl rfl rfl rfl rfl rfl rfl (by omega) (getD_tn ht) rfl rfl ?_
        repeat (first
    | refine AOps.op rfl rfl ?_ | refine AOps.load rfl rfl rfl rfl rfl ?_ | refine AOps.nil ?_ | refine AWP.seq ?_ | refine AWP.region ?_ | refine AWP.block ?_ | refine AWP.skip ?_ | refine AWP.exit ?_ | refine AWP.scope ?_ | refine AWP.label ?_)
        refine AOps.allocH rfl rfl fun q hq => ?_
        refine AOps.storeH rfl rfl rfl (Heap.set_same _ _ _) rfl rfl ?_
        rw [Heap.set_set]
        have hbx := Heap.set_same H q (tbox t .no)
        have hle := Heap.le_set (x := tbox t .no) hq
        obtain ⟨H4, hH4⟩ : ∃ H4, H.set q (tbox t .no) = H4 := ⟨_, rfl⟩
        rw [hH4] at hbx hle
        rw [show H.set q (.box [.int .i64 t.origin, .int .i64 t.seq, .int .i64 t.deps.a, .int .i64 t.deps.b, .int .i64 t.deps.c, .sl (t.writes.map wr) .no]) = H4 from hH4]
        clear hH4
        repeat (first
    | refine AOps.op rfl rfl ?_ | refine AOps.load rfl rfl rfl rfl rfl ?_ | refine AOps.nil ?_ | refine AWP.seq ?_ | refine AWP.region ?_ | refine AWP.block ?_ | refine AWP.skip ?_ | refine AWP.exit ?_ | refine AWP.scope ?_ | refine AWP.label ?_)
        refine AOps.and (j := 1) (y := (((tcheck t : Nat) : Int) == 0)) [_, _, _] rfl rfl rfl rfl rfl rfl rfl (fun hb => ?_) ?_
        · repeat (first | refine AOps.unguard rfl rfl (by assumption) ?_ | refine AOps.op rfl rfl ?_ | refine AOps.load rfl rfl rfl rfl rfl ?_)
          refine AOps.load rfl (cellsAt_ptr hbx) rfl rfl rfl ?_
          repeat (first | refine AOps.unguard rfl rfl (by assumption) ?_ | refine AOps.op rfl rfl ?_ | refine AOps.load rfl rfl rfl rfl rfl ?_)
          refine AOps.call (vs := [tn t]) rfl rfl rfl ((Check_spec t .no htw H4).mono ?_)
          rintro _ H4 ⟨rfl, rfl⟩
          repeat (first | refine AOps.unguard rfl rfl (by assumption) ?_ | refine AOps.op rfl rfl ?_ | refine AOps.load rfl rfl rfl rfl rfl ?_)
          exact AOps.nil (GuardEnd.of 3 rfl rfl rfl rfl rfl)
        rw [hnx]
        repeat (first
    | refine AOps.op rfl rfl ?_ | refine AOps.load rfl rfl rfl rfl rfl ?_ | refine AOps.nil ?_ | refine AWP.seq ?_ | refine AWP.region ?_ | refine AWP.block ?_ | refine AWP.skip ?_ | refine AWP.exit ?_ | refine AWP.scope ?_ | refine AWP.label ?_)
        exact ⟨i + 1, by omega, hlt, ⟨rfl, rfl, rfl, rfl, congrArg (fun x => some (AV.int .i64 x)) ei, trivial⟩, rfl, hle⟩
      · have h : ts.length ≤ i := by simp at h; omega
        rw [List.take_of_length_le h]
        repeat (first
    | refine AOps.op rfl rfl ?_ | refine AOps.load rfl rfl rfl rfl rfl ?_ | refine AOps.nil ?_ | refine AWP.seq ?_ | refine AWP.region ?_ | refine AWP.block ?_ | refine AWP.skip ?_ | refine AWP.exit ?_ | refine AWP.scope ?_ | refine AWP.label ?_)
        exact ⟨(), trivial, ⟨rfl, rfl, trivial⟩, rfl, Heap.le_refl _⟩
    rintro ⟨⟩ -
    rw [hgood]
    repeat (first
    | refine AOps.op rfl rfl ?_ | refine AOps.load rfl rfl rfl rfl rfl ?_ | refine AOps.nil ?_ | refine AWP.seq ?_ | refine AWP.region ?_ | refine AWP.block ?_ | refine AWP.skip ?_ | refine AWP.exit ?_ | refine AWP.scope ?_ | refine AWP.label ?_)
    refine AOps.and (j := 2) (y := true) [_, _, _] rfl rfl rfl rfl rfl rfl rfl (fun hb => ?_) ?_
    · repeat (first | refine AOps.unguard rfl rfl (by assumption) ?_ | refine AOps.op rfl rfl ?_ | refine AOps.load rfl rfl rfl rfl rfl ?_)
      exact AOps.nil (GuardEnd.of 3 rfl rfl rfl rfl rfl)
    repeat (first
    | refine AOps.op rfl rfl ?_ | refine AOps.load rfl rfl rfl rfl rfl ?_ | refine AOps.nil ?_ | refine AWP.seq ?_ | refine AWP.region ?_ | refine AWP.block ?_ | refine AWP.skip ?_ | refine AWP.exit ?_ | refine AWP.scope ?_ | refine AWP.label ?_)
    refine AWP.ret ?_
    exact ⟨_, _, rfl, rfl, Heap.le_refl _, rfl⟩
  have h : pe = 0 := by simp at h; omega
  subst h
  repeat (first
    | refine AOps.op rfl rfl ?_ | refine AOps.load rfl rfl rfl rfl rfl ?_ | refine AOps.nil ?_ | refine AWP.seq ?_ | refine AWP.region ?_ | refine AWP.block ?_ | refine AWP.skip ?_ | refine AWP.exit ?_ | refine AWP.scope ?_ | refine AWP.label ?_)
  refine AOps.call rfl rfl rfl ((Unpack_spec pb .no (by omega) H).mono ?_)
  rintro _ H ⟨rfl, rfl⟩
  rw [hback rfl]
  dsimp only
  repeat (first
    | refine AOps.op rfl rfl ?_ | refine AOps.load rfl rfl rfl rfl rfl ?_ | refine AOps.nil ?_ | refine AWP.seq ?_ | refine AWP.region ?_ | refine AWP.block ?_ | refine AWP.skip ?_ | refine AWP.exit ?_ | refine AWP.scope ?_ | refine AWP.label ?_)
  rw [show (((0 : Nat) : Int) == 0) = true from rfl]
  repeat (first | refine AOps.unguard rfl rfl rfl ?_ | refine AOps.op rfl rfl ?_ | refine AOps.load rfl rfl rfl rfl rfl ?_)
  refine AOps.call rfl rfl rfl ((Txns_spec ts ts .no .no tw' tw' (by omega) H).mono ?_)
  rintro _ H ⟨rfl, rfl⟩
  rw [show decide (ts = ts) = true by simp]
  repeat (first | refine AOps.unguard rfl rfl rfl ?_ | refine AOps.op rfl rfl ?_ | refine AOps.load rfl rfl rfl rfl rfl ?_)
  repeat (first
    | refine AOps.op rfl rfl ?_ | refine AOps.load rfl rfl rfl rfl rfl ?_ | refine AOps.nil ?_ | refine AWP.seq ?_ | refine AWP.region ?_ | refine AWP.block ?_ | refine AWP.skip ?_ | refine AWP.exit ?_ | refine AWP.scope ?_ | refine AWP.label ?_)
  refine AWP.ret ?_
  exact ⟨_, _, rfl, rfl, Heap.le_refl _, rfl⟩
end Go.Proofs.Ytlbnhokhhangdaa
