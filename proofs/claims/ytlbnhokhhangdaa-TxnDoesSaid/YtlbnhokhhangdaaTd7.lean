/- The texts of this part, one behind the other: what is proved of the model and of the functions that the law reaches. -/
import Derived.Test.YtlbnhokhhangdaaTd6
import Derived.Scope
/- Scopes, labels, max and min, letters of strings, guarded operations in open regions. -/
set_option linter.unusedVariables false
set_option linter.unusedSimpArgs false
set_option linter.unnecessarySimpa false
namespace Go.Am
open Go

section
variable {P : Program} {p : Pr} {N : Nat} {ops : Array Oper} {rest : List Oper} {tab : List (List Nat)} {σ : Frame} {loc : Loc} {H : Heap} {ty : TypeId} {pos : String} {after : Array Edge} {g : Option (Nat × Bool)}
  {dst : Option Tmp} {Q : AV → Loc → Heap → Prop} {i : Nat} {t : List (Nat × DK)} {log : List (Nat × Oper × Frame × AV)} {K : Kont}

theorem AWP.label {l : Nat} {K : Exit → Kont} (h : K .normal σ loc H) : AWP P N (.label l) σ loc H K := fun _ G B _ _ hs he => wp_label ⟨σ, loc, H, G, B, hs, he, h⟩

abbrev noGoto (K : Exit → Kont) : Exit → Kont := fun e σ l H => match e with
  | .goto _ => False
  | e => K e σ l H

theorem AWP.scope {c : Code} {K : Exit → Kont} (h : AWP P N c σ loc H (noGoto K)) : AWP P N (.scope c) σ loc H K := by
  intro b G B a w hs he
  refine wp_scope_straight (wp_mono (h b G B a w hs he) ?_)
  intro e a' w' ⟨σ', l', H', G', B', h1, h2, h3⟩
  cases e with
  | goto => exact h3.elim
  | normal => exact ⟨σ', l', H', G', B', h1, h2, h3⟩
  | exit => exact ⟨σ', l', H', G', B', h1, h2, h3⟩
  | ret => exact ⟨σ', l', H', G', B', h1, h2, h3⟩
  | panic => exact ⟨σ', l', H', G', B', h1, h2, h3⟩
  | outgrown => exact ⟨σ', l', H', G', B', h1, h2, h3⟩

/-- What holds between two pieces of code. -/
theorem AWP.seqI {x y : Code} {K : Exit → Kont} (R : Kont) (h : AWP P N x σ loc H (thn R K)) (hy : ∀ σ l H, R σ l H → AWP P N y σ l H K) : AWP P N (.seq x y) σ loc H K :=
  AWP.seq (h.mono fun e σ l H hk => by cases e <;> first | exact hy _ _ _ hk | exact hk)

/-- The same, named. -/
theorem AWP.seqA {α : Type} {x y : Code} {K : Exit → Kont} (Inv : α → Prop) (F : α → Frame) (L : α → Loc) (HH : α → Heap)
    (h : AWP P N x σ loc H (thn (fun σ l H => ∃ a, Inv a ∧ Has σ (F a) ∧ l = L a ∧ (HH a).le H) K)) (hy : ∀ a, Inv a → AWP P N y (F a) (L a) (HH a) K) : AWP P N (.seq x y) σ loc H K :=
  AWP.seqI _ h fun σ l H ⟨a, h1, h2, h3, h4⟩ => by subst h3; exact AWP.trimH _ _ h2 h4 (hy a h1)

/-- The same, behind the first part of the text. -/
theorem AWP.thnA {α : Type} {x y : Code} {K : Exit → Kont} (Inv : α → Prop) (F : α → Frame) (L : α → Loc) (HH : α → Heap)
    (h : AWP P N x σ loc H (thn (fun σ l H => ∃ a, Inv a ∧ Has σ (F a) ∧ l = L a ∧ (HH a).le H) K)) (hy : ∀ a, Inv a → AWP P N y (F a) (L a) (HH a) K) :
    AWP P N x σ loc H (thn (fun σ l H => AWP P N y σ l H K) K) :=
  h.mono fun e σ l H hk => by
    cases e with
    | normal => obtain ⟨a, h1, h2, h3, h4⟩ := hk; subst h3; exact AWP.trimH _ _ h2 h4 (hy a h1)
    | _ => exact hk

theorem OpT.max2 {x y : Operand} {k : IntKind} {a b : Int} {ts : Array TypeId} (hx : evo σ x = some (.int k a)) (hy : evo σ y = some (.int k b)) (hq : Q (.int k (if b > a then b else a)) loc H) :
    OpT p.prog ⟨dst, .call { callee := .builtin .max, args := #[x, y], argTypes := ts }, ty, pos, after, g⟩ (ev σ) loc H Q := by
  refine OpT.pure _ (fun G B w ρc r1 r2 => ?_) hq
  have e1 := ev_rel r1 _ _ hx
  have e2 := ev_rel r1 _ _ hy
  generalize hcx : ρc x = vx at *
  generalize hcy : ρc y = vy at *
  cases e1; cases e2
  refine ⟨_, ?_, .int _ _ _⟩
  simp only [execOp, resolve, invoke, builtin, Sem.run_bind, Sem.run_pure, Result.andThen_ok, List.map_toArray, List.map_cons, List.map_nil, hcx, hcy]
  simp [Builtin.max_, Builtin.max2]

theorem OpT.indexStr {T : TypeId} {x ix : Operand} {s : List UInt8} {k : IntKind} {n : Int} {ti : TI} (hx : evo σ x = some (.str s)) (hi : evo σ ix = some (.int k n)) (ht : p.ty T = some ti) (hk : ti.kind = .str)
    (h0 : 0 ≤ n) (h1 : n < s.length) {v : Int} (hv : ((s.getD n.toNat 0).toNat : Int) = v) (hq : Q (.int .u8 v) loc H) : OpT p.prog ⟨dst, .index T x ix, ty, pos, after, g⟩ (ev σ) loc H Q := by
  subst hv
  refine OpT.pure _ (fun G B w ρc r1 r2 => ?_) hq
  have e1 := ev_rel r1 _ _ hx
  have e2 := ev_rel r1 _ _ hi
  generalize hcx : ρc x = vx at *
  generalize hci : ρc ix = vi at *
  cases e1; cases e2
  refine ⟨_, ?_, .int _ _ _⟩
  have hlt : n.toNat < s.length := by omega
  have hg : (⟨s.toArray⟩ : ByteArray)[n.toNat]? = some (s.getD n.toNat 0) := by
    have h : n.toNat < (⟨s.toArray⟩ : ByteArray).size := hlt
    rw [getElem?_pos (⟨s.toArray⟩ : ByteArray) n.toNat h]
    have : (⟨s.toArray⟩ : ByteArray)[n.toNat] = s.toArray[n.toNat]'hlt := rfl
    rw [this]
    simp [List.getD_eq_getElem?_getD, hlt]
  simp only [execOp, hcx, hci, Instr.index, asIntOf, Sem.run_bind, Sem.run_pure, run_underlying (str_ok ht hk), Result.andThen_ok, if_pos h0, hg]

theorem Ext.more {w G H H0 B w' G' H' B'} (h : Ext w G H0 B w' G' H' B') (hl : H0.le H) : Ext w G H B w' G' H' B' :=
  { h with
    heap := fun k hk hH hB => h.heap k hk (by
      cases e : H0 k with
      | none => rfl
      | some x => rw [hl k x e] at hH; cases hH) hB
    own := fun k hk => (h.own k hk).imp (fun c => by
      cases e : H0 k with
      | none => exact absurd e c
      | some x => rw [hl k x e]; simp) id }

theorem OpT.less {P : Program} {o : Oper} {ρ : Operand → AV} {H0 : Heap} (hl : H0.le H) (h : OpT P o ρ loc H0 Q) : OpT P o ρ loc H Q :=
  fun G B w ρc h1 h2 h3 => (h G B w ρc h1 (h2.less hl) h3).mono fun v w' ⟨r, l, H', G', B', a, b, c, d⟩ => ⟨r, l, H', G', B', a, b, c.more hl, d⟩

theorem DRun.nil {P : Program} (h : K σ loc H) : DRun P N ops tab [] log σ loc H K := h

theorem DRun.pureT {P : Program} {o : Oper} {v : AV} (ho : ops[i]? = some o) (hd : dstOk N o.dst = true) (hg : o.guard = none)
    (h : ∀ loc H, OpT P o (ev (restr (slotsOf ops o) σ)) loc H fun r l h => r = v ∧ l = loc ∧ h = H) (hk : DRun P N ops tab t log (fput σ o.dst v) loc H K) : DRun P N ops tab ((i, .pure) :: t) log σ loc H K :=
  ⟨o, v, ho, hd, fun loc H => by unfold DetG; rw [hg]; exact h loc H, hk⟩

/-- A guarded operation of an open region, wanted. -/
theorem DRun.opG {op : Op} {d d' : Tmp} {r : AV} {j : Nat} {want : Bool} (ho : ops[i]? = some ⟨some d, op, ty, pos, after, some (j, want)⟩) (hd : Nat.blt d N = true) (hj : (ops[j]?).bind (·.dst) = some d')
    (hb : flook σ d' = some (.bool want)) (h : aop p op (evo (restr (slotsOf ops ⟨some d, op, ty, pos, after, some (j, want)⟩) σ)) = some r) (hk : DRun p.prog N ops tab t log ((d, r) :: σ) loc H K) :
    DRun p.prog N ops tab ((i, .pure) :: t) log σ loc H K :=
  ⟨_, r, ho, hd, fun loc H => ⟨d', hj, .inl ⟨want, hb, fun _ => OpT.aop h ⟨rfl, rfl, rfl⟩, fun e => by cases want <;> simp at e⟩⟩, hk⟩

theorem DRun.skipG {op : Op} {d d' : Tmp} {j : Nat} {want b : Bool} (ho : ops[i]? = some ⟨some d, op, ty, pos, after, some (j, want)⟩) (hd : Nat.blt d N = true) (hj : (ops[j]?).bind (·.dst) = some d')
    (hb : flook σ d' = some (.bool b)) (hw : b = !want) (hk : DRun p.prog N ops tab t log ((d, .tuple []) :: σ) loc H K) :
    DRun p.prog N ops tab ((i, .pure) :: t) log σ loc H K :=
  ⟨_, .tuple [], ho, hd, fun loc H => ⟨d', hj, .inl ⟨b, hb, fun e => by subst e; cases b <;> simp at hw, fun _ => rfl⟩⟩, hk⟩

theorem DRun.skipN {op : Op} {d d' : Tmp} {j : Nat} {want : Bool} (ho : ops[i]? = some ⟨some d, op, ty, pos, after, some (j, want)⟩) (hd : Nat.blt d N = true) (hj : (ops[j]?).bind (·.dst) = some d')
    (hb : flook σ d' = some (.tuple [])) (hk : DRun p.prog N ops tab t log ((d, .tuple []) :: σ) loc H K) :
    DRun p.prog N ops tab ((i, .pure) :: t) log σ loc H K :=
  ⟨_, .tuple [], ho, hd, fun loc H => ⟨d', hj, .inr ⟨hb, rfl⟩⟩, hk⟩

theorem DRun.loadG {T : TypeId} {x : Operand} {d d' : Tmp} {pv v : AV} {cs : List AV} {ti : TI} {j : Nat} {want : Bool} (ho : ops[i]? = some ⟨some d, .load T x, ty, pos, after, some (j, want)⟩) (hd : Nat.blt d N = true)
    (hj : (ops[j]?).bind (·.dst) = some d') (hb : flook σ d' = some (.bool want))
    (hx : evo (restr (slotsOf ops ⟨some d, .load T x, ty, pos, after, some (j, want)⟩) σ) x = some pv) (hc : cellsAt pv loc H = some cs) (ht : p.ty T = some ti) (hv : ofCells ti cs = some v)
    (hk : DRun p.prog N ops tab t ((i, ⟨some d, .load T x, ty, pos, after, some (j, want)⟩, σ, v) :: log) ((d, v) :: σ) loc H K) : DRun p.prog N ops tab ((i, .read) :: t) log σ loc H K :=
  ⟨_, v, ho, hd, ⟨d', hj, .inl ⟨want, hb, fun _ => OpT.load hx hc ht hv ⟨rfl, rfl, rfl⟩, fun e => by cases want <;> simp at e⟩⟩, hk⟩

theorem DRun.skipGr {op : Op} {d d' : Tmp} {j : Nat} {want b : Bool} (ho : ops[i]? = some ⟨some d, op, ty, pos, after, some (j, want)⟩) (hd : Nat.blt d N = true) (hj : (ops[j]?).bind (·.dst) = some d')
    (hb : flook σ d' = some (.bool b)) (hw : b = !want) (hk : DRun p.prog N ops tab t ((i, ⟨some d, op, ty, pos, after, some (j, want)⟩, σ, .tuple []) :: log) ((d, .tuple []) :: σ) loc H K) :
    DRun p.prog N ops tab ((i, .read) :: t) log σ loc H K :=
  ⟨_, .tuple [], ho, hd, ⟨d', hj, .inl ⟨b, hb, fun e => by subst e; cases b <;> simp at hw, fun _ => rfl⟩⟩, hk⟩

end
end Go.Am

/- Calls that need a part of the heap; parts of heaps. -/
set_option linter.unusedVariables false
namespace Go.Am
open Go

theorem Heap.minus_le (H A : Heap) : (H.minus A).le H := fun b x e => by
  simp only [Heap.minus] at e
  cases c : A b with
  | some y => rw [c] at e; cases e
  | none => rw [c] at e; exact e

theorem Heap.disj_minus (H A : Heap) : Disj A (H.minus A) := fun b => by
  cases c : A b with
  | some y => right; simp only [Heap.minus, c]
  | none => exact .inl rfl

theorem Heap.del_mono {H H' : Heap} (h : H.le H') (b : Nat) : (H.del b).le (H'.del b) := fun k x e => by
  simp only [Heap.del] at e ⊢
  split at e
  · cases e
  · rename_i c; rw [if_neg c]; exact h k x e

theorem Heap.del_same (H : Heap) (b : Nat) : H.del b b = none := by simp [Heap.del]
theorem Heap.del_ne (H : Heap) {b k : Nat} (h : k ≠ b) : H.del b k = H k := by simp [Heap.del, h]
theorem Heap.del_set (H : Heap) (b : Nat) (x : AObj) : (H.set b x).del b = H.del b := Heap.set_del H b x
theorem Heap.le_del {A H : Heap} {b : Nat} (h : A.le H) (hb : A b = none) : A.le (H.del b) := fun k x e => by
  have : k ≠ b := by rintro rfl; rw [hb] at e; cases e
  rw [Heap.del_ne _ this]; exact h k x e

/-- One block alone. -/
def Heap.one (b : Nat) (x : AObj) : Heap := Heap.nil.set b x
theorem Heap.one_le {H : Heap} {b : Nat} {x : AObj} : (Heap.one b x).le H ↔ H b = some x := by
  constructor
  · intro h; exact h b x (Heap.set_same _ _ _)
  · intro h k y e
    unfold Heap.one at e
    by_cases c : k = b
    · subst c; rw [Heap.set_same] at e; cases e; exact h
    · rw [Heap.set_ne _ _ c] at e; cases e
theorem Heap.one_disj {A : Heap} {b : Nat} {x : AObj} (h : A b = none) : Disj (Heap.one b x) A := fun k => by
  by_cases c : k = b
  · subst c; exact .inr h
  · left; unfold Heap.one; rw [Heap.set_ne _ _ c]; rfl

theorem Disj.none {A B : Heap} (h : Disj A B) {b : Nat} {x : AObj} (e : A b = some x) : B b = Option.none := by
  rcases h b with c | c
  · rw [e] at c; cases c
  · exact c
theorem Disj.ne {A B : Heap} (h : Disj A B) {a b : Nat} {x y : AObj} (ea : A a = some x) (eb : B b = some y) : a ≠ b := by
  rintro rfl; rw [h.none ea] at eb; cases eb
theorem Disj.nil (A : Heap) : Disj Heap.nil A := fun _ => .inl rfl

section
variable {P : Program} {H : Heap}
/-- What is beside the part that a call needs stays. -/
theorem ACalls.frame {f : FuncId} {args : List AV} {A : Heap} {K1 : AV → Heap → Prop} (hA : A.le H) (h : ACalls P f args A K1) :
    ACalls P f args H fun r H' => ∃ A', K1 r A' ∧ A'.le H' ∧ (H.minus A).le H' ∧ Disj A' (H.minus A) :=
  ACalls.part hA h fun r A' hk hg =>
    have d : Disj A' (H.minus A) := hg.disj (Heap.minus_le H A) (Heap.disj_minus H A)
    ⟨A', hk, Heap.le_over _ _, Heap.le_over' d, d⟩

theorem ACalls.beside {f : FuncId} {args : List AV} {A B : Heap} {K1 : AV → Heap → Prop} (hA : A.le H) (hB : B.le H) (hd : Disj A B) (h : ACalls P f args A K1) :
    ACalls P f args H fun r H' => ∃ A', K1 r A' ∧ A'.le H' ∧ B.le H' ∧ Disj A' B :=
  (ACalls.frame hA h).mono fun r H' ⟨A', hk, h1, h2, h3⟩ => by
    have hB' := Heap.le_minus hB hd
    exact ⟨A', hk, h1, hB'.trans h2, h3.le (Heap.le_refl _) hB'⟩
end
end Go.Am
