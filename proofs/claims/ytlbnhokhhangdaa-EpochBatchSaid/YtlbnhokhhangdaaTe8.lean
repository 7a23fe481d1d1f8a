/- The texts of this part, one behind the other: what is proved of the model and of the functions that the law reaches. -/
import Derived.Test.YtlbnhokhhangdaaTe7
import Derived.Scope
/- Scopes, labels, max and min, letters of strings, guarded operations in open regions. -/
set_option linter.unusedVariables false
set_option linter.unusedSimpArgs false
set_option linter.unnecessarySimpa false
namespace Go.Am
open Go

section
variable {ro : Option Nat} {P : Program} {p : Pr} {N : Nat} {ops : Array Oper} {rest : List Oper} {tab : List (List Nat)} {σ : Frame} {loc : Loc} {H : Heap} {ty : TypeId} {pos : String} {after : Array Edge} {g : Option (Nat × Bool)}
  {dst : Option Tmp} {Q : AV → Loc → Heap → Prop} {i : Nat} {t : List (Nat × DK)} {log : List (Nat × Oper × Frame × AV)} {K : Kont}

theorem AWP.label {l : Nat} {K : Exit → Kont} (h : K .normal σ loc H) : AWP ro P N (.label l) σ loc H K := fun _ G B _ _ hs he => wpIn_label ⟨σ, loc, H, G, B, hs, he, h⟩

abbrev noGoto (K : Exit → Kont) : Exit → Kont := fun e σ l H => match e with
  | .goto _ => False
  | e => K e σ l H

theorem wpIn_scope_straight {F : Fence} {n : Nat} {Q : Exit → Act → World → Prop} {a : Act} {w : World} {c : Code} (h : c.wpIn F n P (Exit.noGoto Q) a w) : (Code.scope c).wpIn F n P Q a w := by
  intro b k cs hro hb hr
  have h0 : (lone (b.atR a (.code (.scope c) :: k)) cs w).fenced P F := fenced_calm hb hr rfl
  obtain ⟨e, a₁, w₁, hq, harr⟩ := h b (.inScope c :: k) cs hro hb hr
  have hs : step P (lone (b.atR a (.code (.scope c) :: k)) cs w) = .next (lone (b.atR a (.code c :: .inScope c :: k)) cs w) := step_lone_go (by simp [stepG, stepG.exec, Frame.atR, GStep.bare_after])
  have hs2 : ∀ a w, step P (lone (b.atR a (.inScope c :: k)) cs w) = .next (lone (b.atR a k) cs w) := fun a w => step_lone_go (by simp [stepG, stepG.exec, Frame.atR, GStep.bare_after])
  cases e with
  | normal => exact ⟨.normal, a₁, w₁, hq, .head h0 hs (StepsIn.trans harr (.one (fenced_calm hb hr rfl) (hs2 _ _)))⟩
  | exit id =>
    have hx : exitTo id (.inScope c :: k) = exitTo id k := by simp [exitTo]
    exact ⟨.exit id, a₁, w₁, hq, fun k' hk => .head h0 hs (harr.1 k' (by rw [hx]; exact hk)), fun hr' hk => let ⟨k₁, h1, h2⟩ := harr.2 hr' (by rw [hx]; exact hk); ⟨k₁, h1, .head h0 hs h2⟩⟩
  | goto l => exact hq.elim
  | ret => exact ⟨_, a₁, w₁, hq, .of_steps (.one h0 hs) harr⟩
  | panic ch => exact ⟨_, a₁, w₁, hq, .of_steps (.one h0 hs) harr⟩
  | outgrown => exact ⟨_, a₁, w₁, hq, .of_steps (.one h0 hs) harr⟩

theorem AWP.scope {c : Code} {K : Exit → Kont} (h : AWP ro P N c σ loc H (noGoto K)) : AWP ro P N (.scope c) σ loc H K := by
  intro b G B a w hs he
  refine wpIn_scope_straight (wpIn_mono (h b G B a w hs he) ?_)
  intro e a' w' ⟨σ', l', H', G', B', h1, h2, h3⟩
  cases e with
  | goto => exact h3.elim
  | normal => exact ⟨σ', l', H', G', B', h1, h2, h3⟩
  | exit => exact ⟨σ', l', H', G', B', h1, h2, h3⟩
  | ret => exact ⟨σ', l', H', G', B', h1, h2, h3⟩
  | panic => exact ⟨σ', l', H', G', B', h1, h2, h3⟩
  | outgrown => exact ⟨σ', l', H', G', B', h1, h2, h3⟩

/-- What holds between two pieces of code. -/
theorem AWP.seqI {x y : Code} {K : Exit → Kont} (R : Kont) (h : AWP ro P N x σ loc H (thn R K)) (hy : ∀ σ l H, R σ l H → AWP ro P N y σ l H K) : AWP ro P N (.seq x y) σ loc H K :=
  AWP.seq (h.mono fun e σ l H hk => by cases e <;> first | exact hy _ _ _ hk | exact hk)

/-- The same, named. -/
theorem AWP.seqA {α : Type} {x y : Code} {K : Exit → Kont} (Inv : α → Prop) (F : α → Frame) (L : α → Loc) (HH : α → Heap)
    (h : AWP ro P N x σ loc H (thn (fun σ l H => ∃ a, Inv a ∧ Has σ (F a) ∧ l = L a ∧ (HH a).le H) K)) (hy : ∀ a, Inv a → AWP ro P N y (F a) (L a) (HH a) K) : AWP ro P N (.seq x y) σ loc H K :=
  AWP.seqI _ h fun σ l H ⟨a, h1, h2, h3, h4⟩ => by subst h3; exact AWP.trimH _ _ h2 h4 (hy a h1)

/-- The same, behind the first part of the text. -/
theorem AWP.thnA {α : Type} {x y : Code} {K : Exit → Kont} (Inv : α → Prop) (F : α → Frame) (L : α → Loc) (HH : α → Heap)
    (h : AWP ro P N x σ loc H (thn (fun σ l H => ∃ a, Inv a ∧ Has σ (F a) ∧ l = L a ∧ (HH a).le H) K)) (hy : ∀ a, Inv a → AWP ro P N y (F a) (L a) (HH a) K) :
    AWP ro P N x σ loc H (thn (fun σ l H => AWP ro P N y σ l H K) K) :=
  h.mono fun e σ l H hk => by
    cases e with
    | normal => obtain ⟨a, h1, h2, h3, h4⟩ := hk; subst h3; exact AWP.trimH _ _ h2 h4 (hy a h1)
    | _ => exact hk

theorem OpT.max2 {x y : Operand} {k : IntKind} {a b : Int} {ts : Array TypeId} (hx : evo σ x = some (.int k a)) (hy : evo σ y = some (.int k b)) (hq : Q (.int k (if b > a then b else a)) loc H) :
    OpT p.prog ⟨dst, .call { callee := .builtin .max, args := #[x, y], argTypes := ts }, ty, pos, after, g⟩ (ev σ) loc H Q := by
  refine OpT.pure _ (fun G B w ρc r1 r2 => ?_) hq
  have e1 := ev_rel r1 _ _ hx
  have e2 := ev_rel r1 _ _ hy
  generalize hcx : ρc x = vx at *
  generalize hcy : ρc y = vy at *
  cases e1; cases e2
  refine ⟨_, ?_, .int _ _ _⟩
  simp only [execOp, resolve, invoke, builtin, Sem.run_bind, Sem.run_pure, Result.andThen_ok, List.map_toArray, List.map_cons, List.map_nil, hcx, hcy]
  simp [Builtin.max_, Builtin.max2]

theorem OpT.indexStr {T : TypeId} {x ix : Operand} {s : List UInt8} {k : IntKind} {n : Int} {ti : TI} (hx : evo σ x = some (.str s)) (hi : evo σ ix = some (.int k n)) (ht : p.ty T = some ti) (hk : ti.kind = .str)
    (h0 : 0 ≤ n) (h1 : n < s.length) {v : Int} (hv : ((s.getD n.toNat 0).toNat : Int) = v) (hq : Q (.int .u8 v) loc H) : OpT p.prog ⟨dst, .index T x ix, ty, pos, after, g⟩ (ev σ) loc H Q := by
  subst hv
  refine OpT.pure _ (fun G B w ρc r1 r2 => ?_) hq
  have e1 := ev_rel r1 _ _ hx
  have e2 := ev_rel r1 _ _ hi
  generalize hcx : ρc x = vx at *
  generalize hci : ρc ix = vi at *
  cases e1; cases e2
  refine ⟨_, ?_, .int _ _ _⟩
  have hlt : n.toNat < s.length := by omega
  have hg : (⟨s.toArray⟩ : ByteArray)[n.toNat]? = some (s.getD n.toNat 0) := by
    have h : n.toNat < (⟨s.toArray⟩ : ByteArray).size := hlt
    rw [getElem?_pos (⟨s.toArray⟩ : ByteArray) n.toNat h]
    have : (⟨s.toArray⟩ : ByteArray)[n.toNat] = s.toArray[n.toNat]'hlt := rfl
    rw [this]
    simp [List.getD_eq_getElem?_getD, hlt]
  simp only [execOp, hcx, hci, Instr.index, asIntOf, Sem.run_bind, Sem.run_pure, run_underlying (str_ok ht hk), Result.andThen_ok, if_pos h0, hg]

theorem Ext.more {w G H H0 B w' G' H' B'} (h : Ext w G H0 B w' G' H' B') (hl : H0.le H) : Ext w G H B w' G' H' B' :=
  { h with
    heap := fun k hk hH hB => h.heap k hk (by
      cases e : H0 k with
      | none => rfl
      | some x => rw [hl k x e] at hH; cases hH) hB
    own := fun k hk => (h.own k hk).imp (fun c => by
      cases e : H0 k with
      | none => exact absurd e c
      | some x => rw [hl k x e]; simp) id }

theorem OpT.less {P : Program} {o : Oper} {ρ : Operand → AV} {H0 : Heap} (hl : H0.le H) (h : OpT P o ρ loc H0 Q) : OpT P o ρ loc H Q :=
  fun G B w ρc h1 h2 h3 => (h G B w ρc h1 (h2.less hl) h3).mono fun v w' ⟨r, l, H', G', B', a, b, c, d⟩ => ⟨r, l, H', G', B', a, b, c.more hl, d⟩

theorem DRun.nil {P : Program} (h : K σ loc H) : DRun P N ops tab [] log σ loc H K := h

theorem DRun.pureT {P : Program} {o : Oper} {v : AV} (ho : ops[i]? = some o) (hd : dstOk N o.dst = true) (hg : o.guard = none)
    (h : ∀ loc H, OpT P o (ev (restr (slotsOf ops o) σ)) loc H fun r l h => r = v ∧ l = loc ∧ h = H) (hk : DRun P N ops tab t log (fput σ o.dst v) loc H K) : DRun P N ops tab ((i, .pure) :: t) log σ loc H K :=
  ⟨o, v, ho, hd, fun loc H => by unfold DetG; rw [hg]; exact h loc H, hk⟩

/-- A guarded operation of an open region, wanted. -/
theorem DRun.opG {op : Op} {d d' : Tmp} {r : AV} {j : Nat} {want : Bool} (ho : ops[i]? = some ⟨some d, op, ty, pos, after, some (j, want)⟩) (hd : Nat.blt d N = true) (hj : (ops[j]?).bind (·.dst) = some d')
    (hb : flook σ d' = some (.bool want)) (h : aop p op (evo (restr (slotsOf ops ⟨some d, op, ty, pos, after, some (j, want)⟩) σ)) = some r) (hk : DRun p.prog N ops tab t log ((d, r) :: σ) loc H K) :
    DRun p.prog N ops tab ((i, .pure) :: t) log σ loc H K :=
  ⟨_, r, ho, hd, fun loc H => ⟨d', hj, .inl ⟨want, hb, fun _ => OpT.aop h ⟨rfl, rfl, rfl⟩, fun e => by cases want <;> simp at e⟩⟩, hk⟩

theorem DRun.skipG {op : Op} {d d' : Tmp} {j : Nat} {want b : Bool} (ho : ops[i]? = some ⟨some d, op, ty, pos, after, some (j, want)⟩) (hd : Nat.blt d N = true) (hj : (ops[j]?).bind (·.dst) = some d')
    (hb : flook σ d' = some (.bool b)) (hw : b = !want) (hk : DRun p.prog N ops tab t log ((d, .tuple []) :: σ) loc H K) :
    DRun p.prog N ops tab ((i, .pure) :: t) log σ loc H K :=
  ⟨_, .tuple [], ho, hd, fun loc H => ⟨d', hj, .inl ⟨b, hb, fun e => by subst e; cases b <;> simp at hw, fun _ => rfl⟩⟩, hk⟩

theorem DRun.skipN {op : Op} {d d' : Tmp} {j : Nat} {want : Bool} (ho : ops[i]? = some ⟨some d, op, ty, pos, after, some (j, want)⟩) (hd : Nat.blt d N = true) (hj : (ops[j]?).bind (·.dst) = some d')
    (hb : flook σ d' = some (.tuple [])) (hk : DRun p.prog N ops tab t log ((d, .tuple []) :: σ) loc H K) :
    DRun p.prog N ops tab ((i, .pure) :: t) log σ loc H K :=
  ⟨_, .tuple [], ho, hd, fun loc H => ⟨d', hj, .inr ⟨hb, rfl⟩⟩, hk⟩

theorem DRun.loadG {T : TypeId} {x : Operand} {d d' : Tmp} {pv v : AV} {cs : List AV} {ti : TI} {j : Nat} {want : Bool} (ho : ops[i]? = some ⟨some d, .load T x, ty, pos, after, some (j, want)⟩) (hd : Nat.blt d N = true)
    (hj : (ops[j]?).bind (·.dst) = some d') (hb : flook σ d' = some (.bool want))
    (hx : evo (restr (slotsOf ops ⟨some d, .load T x, ty, pos, after, some (j, want)⟩) σ) x = some pv) (hc : cellsAt pv loc H = some cs) (ht : p.ty T = some ti) (hv : ofCells ti cs = some v)
    (hk : DRun p.prog N ops tab t ((i, ⟨some d, .load T x, ty, pos, after, some (j, want)⟩, σ, v) :: log) ((d, v) :: σ) loc H K) : DRun p.prog N ops tab ((i, .read) :: t) log σ loc H K :=
  ⟨_, v, ho, hd, ⟨d', hj, .inl ⟨want, hb, fun _ => OpT.load hx hc ht hv ⟨rfl, rfl, rfl⟩, fun e => by cases want <;> simp at e⟩⟩, hk⟩

theorem DRun.skipGr {op : Op} {d d' : Tmp} {j : Nat} {want b : Bool} (ho : ops[i]? = some ⟨some d, op, ty, pos, after, some (j, want)⟩) (hd : Nat.blt d N = true) (hj : (ops[j]?).bind (·.dst) = some d')
    (hb : flook σ d' = some (.bool b)) (hw : b = !want) (hk : DRun p.prog N ops tab t ((i, ⟨some d, op, ty, pos, after, some (j, want)⟩, σ, .tuple []) :: log) ((d, .tuple []) :: σ) loc H K) :
    DRun p.prog N ops tab ((i, .read) :: t) log σ loc H K :=
  ⟨_, .tuple [], ho, hd, ⟨d', hj, .inl ⟨b, hb, fun e => by subst e; cases b <;> simp at hw, fun _ => rfl⟩⟩, hk⟩

end
end Go.Am

/- Calls that need a part of the heap; parts of heaps. -/
set_option linter.unusedVariables false
namespace Go.Am
open Go

theorem Heap.minus_le (H A : Heap) : (H.minus A).le H := fun b x e => by
  simp only [Heap.minus] at e
  cases c : A b with
  | some y => rw [c] at e; cases e
  | none => rw [c] at e; exact e

theorem Heap.disj_minus (H A : Heap) : Disj A (H.minus A) := fun b => by
  cases c : A b with
  | some y => right; simp only [Heap.minus, c]
  | none => exact .inl rfl

theorem Heap.del_mono {H H' : Heap} (h : H.le H') (b : Nat) : (H.del b).le (H'.del b) := fun k x e => by
  simp only [Heap.del] at e ⊢
  split at e
  · cases e
  · rename_i c; rw [if_neg c]; exact h k x e

theorem Heap.del_same (H : Heap) (b : Nat) : H.del b b = none := by simp [Heap.del]
theorem Heap.del_ne (H : Heap) {b k : Nat} (h : k ≠ b) : H.del b k = H k := by simp [Heap.del, h]
theorem Heap.del_set (H : Heap) (b : Nat) (x : AObj) : (H.set b x).del b = H.del b := Heap.set_del H b x
theorem Heap.le_del {A H : Heap} {b : Nat} (h : A.le H) (hb : A b = none) : A.le (H.del b) := fun k x e => by
  have : k ≠ b := by rintro rfl; rw [hb] at e; cases e
  rw [Heap.del_ne _ this]; exact h k x e

/-- One block alone. -/
def Heap.one (b : Nat) (x : AObj) : Heap := Heap.nil.set b x
theorem Heap.one_le {H : Heap} {b : Nat} {x : AObj} : (Heap.one b x).le H ↔ H b = some x := by
  constructor
  · intro h; exact h b x (Heap.set_same _ _ _)
  · intro h k y e
    unfold Heap.one at e
    by_cases c : k = b
    · subst c; rw [Heap.set_same] at e; cases e; exact h
    · rw [Heap.set_ne _ _ c] at e; cases e
theorem Heap.one_disj {A : Heap} {b : Nat} {x : AObj} (h : A b = none) : Disj (Heap.one b x) A := fun k => by
  by_cases c : k = b
  · subst c; exact .inr h
  · left; unfold Heap.one; rw [Heap.set_ne _ _ c]; rfl

theorem Disj.none {A B : Heap} (h : Disj A B) {b : Nat} {x : AObj} (e : A b = some x) : B b = Option.none := by
  rcases h b with c | c
  · rw [e] at c; cases c
  · exact c
theorem Disj.ne {A B : Heap} (h : Disj A B) {a b : Nat} {x y : AObj} (ea : A a = some x) (eb : B b = some y) : a ≠ b := by
  rintro rfl; rw [h.none ea] at eb; cases eb
theorem Disj.nil (A : Heap) : Disj Heap.nil A := fun _ => .inl rfl

section
variable {ro : Option Nat} {P : Program} {H : Heap}
/-- What is beside the part that a call needs stays. -/
theorem ACalls.frame {f : FuncId} {args : List AV} {A : Heap} {K1 : AV → Heap → Prop} (hA : A.le H) (h : ACalls P f args A K1) :
    ACalls P f args H fun r H' => ∃ A', K1 r A' ∧ A'.le H' ∧ (H.minus A).le H' ∧ Disj A' (H.minus A) :=
  ACalls.part hA h fun r A' hk hg =>
    have d : Disj A' (H.minus A) := hg.disj (Heap.minus_le H A) (Heap.disj_minus H A)
    ⟨A', hk, Heap.le_over _ _, Heap.le_over' d, d⟩

theorem ACalls.beside {f : FuncId} {args : List AV} {A B : Heap} {K1 : AV → Heap → Prop} (hA : A.le H) (hB : B.le H) (hd : Disj A B) (h : ACalls P f args A K1) :
    ACalls P f args H fun r H' => ∃ A', K1 r A' ∧ A'.le H' ∧ B.le H' ∧ Disj A' B :=
  (ACalls.frame hA h).mono fun r H' ⟨A', hk, h1, h2, h3⟩ => by
    have hB' := Heap.le_minus hB hd
    exact ⟨A', hk, h1, hB'.trans h2, h3.le (Heap.le_refl _) hB'⟩
end
end Go.Am

/- Ranges over functions: yield, the loop's record, the statement. -/
set_option linter.unusedVariables false
set_option linter.unusedSimpArgs false
set_option linter.unnecessarySimpa false
namespace Go.Am
open Go

theorem MRel.setLoop {G : Gh} {B : List Nat} {loc : Loc} {H : Heap} {w : World} {l : Nat} {r r' : Loop} {x y : AObj} (h : MRel G B loc H w) (hl : H l = some y) (hw : w.heap[l]? = some (.loop r))
    (hx : ObjR G (w.putObj l (.loop r')) l x) : MRel G B loc (H.set l x) (w.putObj l (.loop r')) ∧ Ext w G H B (w.putObj l (.loop r')) G (H.set l x) B := by
  have hB : l ∉ B := fun m => by have := h.apart l m; rw [hl] at this; cases this
  have hlt : l < w.heap.size := (Array.getElem?_eq_some_iff.1 hw).1
  refine ⟨h.touch hB World.putObj_size (fun k hk => ⟨World.putObj_heap_other hk, fun _ => rfl⟩) (fun _ => rfl) (.refl G) (fun o v e => ?_) hx, ?_⟩
  · obtain ⟨c, E, fr, h1, _⟩ := h.im l o v e
    rw [hw] at h1; cases h1
  · refine ⟨rfl, rfl, rfl, by simp, .refl G, List.prefix_refl _, fun k hk h1 h2 => ⟨World.putObj_heap_other (fun q => by rw [q, hl] at h1; cases h1), fun _ => rfl⟩, fun k hk => ?_, fun _ h => .inl h, fun _ _ => rfl⟩
    by_cases c : k = l
    · subst c; left; rw [hl]; simp
    · left; simpa [Heap.set, c] using hk

/-- Called with these arguments, in this heap: what X makes of it. -/
def ARun (X : Array Value → World → (Ending → World → Prop) → Prop) (args : List AV) (H : Heap) (K : AV → Heap → Prop) : Prop :=
  ∀ (G : Gh) (w : World) (vs : Array Value), args.length = vs.size → (∀ i, i < args.length → VR G [] (args.getD i .any) (vs.getD i undef)) → MRel G [] [] H w →
    X vs w fun e w' => ∃ r v G' H', e = .returned v ∧ VR G' [] r v ∧ MRel G' [] [] H' w' ∧ Ext w G H [] w' G' H' [] ∧ K r H'

def MonoX (X : Array Value → World → (Ending → World → Prop) → Prop) : Prop := ∀ vs w R R', (∀ e w, R e w → R' e w) → X vs w R → X vs w R'

theorem ARun.mono {X : Array Value → World → (Ending → World → Prop) → Prop} (hX : MonoX X) {args : List AV} {H : Heap} {K K' : AV → Heap → Prop} (h : ARun X args H K) (hk : ∀ r H, K r H → K' r H) : ARun X args H K' :=
  fun G w vs h0 h1 h2 => hX _ _ _ _ (fun e w' ⟨r, v, G, H, a, b, c, d, k⟩ => ⟨r, v, G, H, a, b, c, d, hk _ _ k⟩) (h G w vs h0 h1 h2)

theorem ARun.part {X : Array Value → World → (Ending → World → Prop) → Prop} (hX : MonoX X) {args : List AV} {H H1 : Heap} {K1 K : AV → Heap → Prop} (hle : H1.le H) (h : ARun X args H1 K1)
    (hk : ∀ r H1', K1 r H1' → Grows H H1 H1' → K r (H1'.over (H.minus H1))) : ARun X args H K := by
  refine fun G w vs h0 h1 h2 => hX _ _ _ _ ?_ (h G w vs h0 h1 (h2.less hle))
  rintro e w' ⟨r, v, G', H1', rfl, hr, hm, he, hK⟩
  have hext : ∀ b, H1 b = none → H b ≠ none → w'.heap[b]? = w.heap[b]? ∧ ∀ o, G'.im b o = G.im b o := fun b hb hn => by
    cases e : H b with
    | none => exact absurd e hn
    | some x => exact he.heap b (h2.obj b x e).lt hb (by simp)
  have hg : Grows H H1 H1' := fun b hb => by
    rcases he.own b hb with c | c
    · exact .inl c
    · right
      cases e : H b with
      | none => rfl
      | some x => have := (h2.obj b x e).lt; omega
  refine ⟨r, v, G', H1'.over (H.minus H1), rfl, hr, ⟨hm.im, fun b x e => ?_, hm.fresh, hm.len, hm.nodup, hm.loc, fun b hb => absurd hb (by simp)⟩, ?_, hk r H1' hK hg⟩
  · cases e1 : H1' b with
    | some y =>
      simp [Heap.over, e1] at e; subst e; exact hm.obj b y e1
    | none =>
      simp only [Heap.over, e1, Heap.minus] at e
      cases e2 : H1 b with
      | some y => simp [e2] at e
      | none =>
        simp [e2] at e
        have ho := h2.obj b x e
        have := hext b e2 (by rw [e]; simp)
        refine ho.kept he.le this.1 this.2 ?_
        exact he.row b ho.lt
  · refine { he with heap := fun k hk hH hB => ?_, own := fun k hk => ?_ }
    · have : H1 k = none := by
        cases e : H1 k with
        | none => rfl
        | some x => rw [hle k x e] at hH; cases hH
      exact he.heap k hk this hB
    · cases e1 : H1' k with
      | some y =>
        rcases he.own k (by rw [e1]; simp) with c | c
        · left
          cases e : H1 k with
          | none => exact absurd e c
          | some x => rw [hle k x e]; simp
        · exact .inr c
      | none =>
        left
        simp only [Heap.over, e1, Heap.minus] at hk
        cases e2 : H1 k with
        | some y => simp [e2] at hk
        | none => simpa [e2] using hk

theorem ARun.beside {X : Array Value → World → (Ending → World → Prop) → Prop} (hX : MonoX X) {args : List AV} {H A B : Heap} {K1 : AV → Heap → Prop} (hA : A.le H) (hB : B.le H) (hd : Disj A B) (h : ARun X args A K1) :
    ARun X args H fun r H' => ∃ A', K1 r A' ∧ A'.le H' ∧ B.le H' ∧ Disj A' B :=
  ARun.part hX hA h fun r A' hk hg => by
    have d : Disj A' (H.minus A) := hg.disj (Heap.minus_le H A) (Heap.disj_minus H A)
    have hB' := Heap.le_minus hB hd
    exact ⟨A', hk, Heap.le_over _ _, hB'.trans (Heap.le_over' d), d.le (Heap.le_refl _) hB'⟩

/-- A round of loop l. -/
def YRun (P : Program) (l : Nat) (vs : Array Value) (w : World) (R : Ending → World → Prop) : Prop :=
  ∃ f tmps assign body, (Instr.yield l vs).run P w = .ok (.round l f tmps assign body) w ∧ RoundIn Fence.wide 0 P l f tmps assign body w R

theorem YRun.mono (P : Program) (l : Nat) : MonoX (YRun P l) := fun vs w R R' hr ⟨f, t, a, b, h1, h2⟩ => ⟨f, t, a, b, h1, h2.mono hr⟩

/-- Called with these arguments, in this heap, loop l's yield answers what K says. -/
def AYield (P : Program) (l : Nat) (args : List AV) (H : Heap) (K : AV → Heap → Prop) : Prop := ARun (YRun P l) args H K

theorem AYield.mono {P : Program} {l : Nat} {args : List AV} {H : Heap} {K K' : AV → Heap → Prop} (h : AYield P l args H K) (hk : ∀ r H, K r H → K' r H) : AYield P l args H K' := ARun.mono (YRun.mono P l) h hk
theorem AYield.beside {P : Program} {l : Nat} {args : List AV} {H A B : Heap} {K1 : AV → Heap → Prop} (hA : A.le H) (hB : B.le H) (hd : Disj A B) (h : AYield P l args A K1) :
    AYield P l args H fun r H' => ∃ A', K1 r A' ∧ A'.le H' ∧ B.le H' ∧ Disj A' B := ARun.beside (YRun.mono P l) hA hB hd h

/-- The slots of a round, yield's arguments in the parameters. -/
def inPars : List (Tmp × AV) → Frame → Frame
  | [], σ => σ
  | (t, v) :: r, σ => inPars r ((t, v) :: σ)

def parsOk (N : Nat) : List Tmp → Bool
  | [] => true
  | t :: r => Nat.blt t N && parsOk N r

theorem inPars_rel {G : Gh} {N : Nat} : ∀ (ps : List Tmp) (vs : List AV) (xs : List Value) (σ : Frame) (tmps : Array Value), ps.length = vs.length → vs.length = xs.length → parsOk N ps = true → tmps.size = N →
    (∀ i, i < vs.length → VR G [] (vs.getD i .any) (xs.getD i undef)) → (∀ t, VR G [] (fget σ t) (tmps.getD t undef)) →
    ((ps.zip xs).foldl (fun tmps (t, a) => tmps.setIfInBounds t a) tmps).size = N ∧
    ∀ t, VR G [] (fget (inPars (ps.zip vs) σ) t) (((ps.zip xs).foldl (fun tmps (t, a) => tmps.setIfInBounds t a) tmps).getD t undef)
  | [], [], [], σ, tmps, _, _, _, hN, _, h => ⟨hN, h⟩
  | p :: ps, v :: vs, x :: xs, σ, tmps, h1, h2, h3, hN, h4, h => by
    simp only [parsOk, Bool.and_eq_true] at h3
    have hp : p < N := by have := h3.1; rwa [Nat.blt_eq] at this
    refine inPars_rel ps vs xs ((p, v) :: σ) (tmps.setIfInBounds p x) (by simpa using h1) (by simpa using h2) h3.2 (by simpa using hN) (fun i hi => by simpa using h4 (i + 1) (by simpa using hi)) (fun t => ?_)
    rw [fget_cons]
    by_cases c : p = t
    · subst c
      rw [if_pos rfl]
      have := h4 0 (by simp)
      simpa [Array.getD_eq_getD_getElem?, hN, hp] using this
    · rw [if_neg c]
      have := h t
      rw [Array.getD_eq_getD_getElem?] at this ⊢
      rw [Array.getElem?_setIfInBounds_ne c]; exact this
  | [], _ :: _, _, _, _, h1, _, _, _, _, _ => by simp at h1
  | _ :: _, [], _, _, _, h1, _, _, _, _, _ => by simp at h1
  | [], [], _ :: _, _, _, _, h2, _, _, _, _ => by simp at h2
  | _ :: _, _ :: _, [], _, _, _, h2, _, _, _, _ => by simp at h2

/-- How a round may end: K's word of what it answers. -/
abbrev RoundEnd (l : Nat) (K : AV → Heap → Prop) : Exit → Kont := fun e _ _ H =>
  match e with
  | .normal => ∃ N σ ps assign body pd H', H l = some (.loop N σ ps assign body .busy pd) ∧ H'.le (H.set l (.loop N σ ps assign body .ready none)) ∧ K (.bool true) H'
  | .ret => ∃ N σ ps assign body pd H', H l = some (.loop N σ ps assign body .busy pd) ∧ H'.le (H.set l (.loop N σ ps assign body .done (some .ret))) ∧ K (.bool false) H'
  | .exit id => ∃ N σ ps assign body pd H', H l = some (.loop N σ ps assign body .busy pd) ∧ H'.le (H.set l (.loop N σ ps assign body .done (some (.exit id)))) ∧ K (.bool false) H'
  | _ => False

section
variable {p : Pr} {N : Nat} {ops : Array Oper} {rest : List Oper} {σ : Frame} {loc : Loc} {H : Heap} {ty : TypeId} {pos : String} {after : Array Edge} {g : Option (Nat × Bool)}
  {dst : Option Tmp} {Q : AV → Loc → Heap → Prop}

theorem endRound_rel {G : Gh} {B : List Nat} {loc : Loc} {H H' : Heap} {w w0 : World} {G0 : Gh} {H0 : Heap} {l : Nat} {N : Nat} {σ : Frame} {ps : Array Tmp} {as body : Code} {pd : Option Code} {jump : Option Code} {st : LoopState}
    {K : AV → Heap → Prop} {P : Program} (hm : MRel G B loc H w) (he : Ext w0 G0 H0 [] w G H B) (hl : H l = some (.loop N σ ps as body .busy pd)) (hst : st = if jump.isNone then .ready else .done)
    (hle : H'.le (H.set l (.loop N σ ps as body st jump))) (hK : K (.bool jump.isNone) H') :
    ∃ v w', (Instr.endRound l jump).run P w = .ok v w' ∧ ∃ r v' G' H', Ending.returned v = .returned v' ∧ VR G' [] r v' ∧ MRel G' [] [] H' w' ∧ Ext w0 G0 H0 [] w' G' H' [] ∧ K r H' := by
  subst hst
  obtain ⟨r, h1, h2, h3, h4, h5, h6, h7, h8⟩ := hm.obj l _ hl
  have hlt : l < w.heap.size := (Array.getElem?_eq_some_iff.1 h1).1
  obtain ⟨k1, k2⟩ := hm.setLoop (r' := { r with state := if jump.isNone then .ready else .done, pending := jump }) (x := .loop N σ ps as body (if jump.isNone then .ready else .done) jump) hl h1
    ⟨_, World.putObj_heap_same hlt, h2, h3, h4, rfl, rfl, h7, h8⟩
  refine ⟨_, _, run_endRound jump h1, .bool jump.isNone, _, G, H', rfl, .bool _ _, ?_, ?_, hK⟩
  · have := k1.less hle
    exact ⟨this.im, this.obj, this.fresh, rfl, List.nodup_nil, fun i hi => absurd hi (by simp), fun b hb => absurd hb (by simp)⟩
  · have := (he.trans k2).less hle
    exact ⟨this.os, this.tape, this.output, this.size, this.le, List.prefix_refl _, this.heap, this.own, fun k hk => absurd hk (by simp), this.row⟩

/-- A round, out of the walks of the assignments and of the body. -/
theorem AYield.intro {l : Nat} {args : List AV} {ps : Array Tmp} {as body : Code} {K : AV → Heap → Prop} (hl : H l = some (.loop N σ ps as body .ready none)) (hn : ps.size = args.length) (hp : parsOk N ps.toList = true)
    (h : AWP (some l) p.prog N as (inPars (ps.toList.zip args) σ) [] H (thn (fun σ1 loc1 H1 => ∃ N1 σ2 ps2 as2 body2 pd, H1 l = some (.loop N1 σ2 ps2 as2 body2 .ready pd) ∧
      AWP (some l) p.prog N body σ1 loc1 (H1.set l (.loop N1 σ2 ps2 as2 body2 .busy pd)) (RoundEnd l K)) (fun _ _ _ _ => False))) : AYield p.prog l args H K := by
  intro G w vs h0 h1 hm
  obtain ⟨r, r1, rfl, rfl, rfl, r5, r6, r7, r8⟩ := hm.obj l _ hl
  refine ⟨_, _, _, _, run_yield r1 (by omega), ?_⟩
  refine roundIn_of_wpIn trivial ?_
  obtain ⟨e1, e2⟩ := inPars_rel r.params.toList args vs.toList σ r.tmps (by simpa using hn) (by simpa using h0) hp r7 (fun i hi => by simpa [Array.getD_eq_getD_getElem?, List.getD_eq_getElem?_getD] using h1 i hi) r8
  have hz : (r.params.zip vs).foldl (fun tmps (x : Tmp × Value) => tmps.setIfInBounds x.1 x.2) r.tmps = (r.params.toList.zip vs.toList).foldl (fun tmps (x : Tmp × Value) => tmps.setIfInBounds x.1 x.2) r.tmps := by
    rw [← Array.foldl_toList, Array.toList_zip]
  have hz' : ((r.params.zip vs).foldl (fun tmps (t, a) => tmps.setIfInBounds t a) r.tmps) = _ := hz
  rw [hz']
  refine wpIn_mono (h ⟨w, G, H, []⟩ G [] _ w ⟨e1, e2, hm⟩ ⟨Ext.refl _ _ _ _, [], rfl, List.nodup_nil, fun D hD => absurd hD (by simp)⟩) ?_
  rintro e a1 w1 ⟨σ1, loc1, H1, G1, B1, hs, he, hk⟩
  cases e with
  | normal =>
    obtain ⟨N1, σ2, ps2, as2, body2, pd, g1, g2⟩ := hk
    obtain ⟨r', q1, q2, q3, q4, q5, q6, q7, q8⟩ := hs.mem.obj l _ g1
    have hlt : l < w1.heap.size := (Array.getElem?_eq_some_iff.1 q1).1
    obtain ⟨k1, k2⟩ := hs.mem.setLoop (r' := { r' with state := .busy }) (x := .loop N1 σ2 ps2 as2 body2 .busy pd) g1 q1 ⟨_, World.putObj_heap_same hlt, q2, q3, q4, rfl, q6, q7, q8⟩
    refine ⟨_, run_beginRound q1 q5, ?_⟩
    refine wpIn_mono (g2 ⟨w, G, H, []⟩ G1 B1 a1 _ ⟨hs.size, hs.fr, k1⟩ (he.step k2 rfl)) ?_
    rintro e a2 w2 ⟨σ3, loc3, H3, G3, B3, hs3, he3, hk3⟩
    cases e with
    | normal => obtain ⟨N, σ, ps, as, body, pd, H', u1, u2, u3⟩ := hk3; exact endRound_rel (jump := none) hs3.mem he3.ext u1 rfl u2 u3
    | ret => obtain ⟨N, σ, ps, as, body, pd, H', u1, u2, u3⟩ := hk3; exact endRound_rel (jump := some .ret) hs3.mem he3.ext u1 rfl u2 u3
    | exit id => obtain ⟨N, σ, ps, as, body, pd, H', u1, u2, u3⟩ := hk3; exact endRound_rel (jump := some (.exit id)) hs3.mem he3.ext u1 rfl u2 u3
    | goto => exact hk3.elim
    | panic => exact hk3.elim
    | outgrown => exact hk3.elim
  | ret => exact hk.elim
  | exit => exact hk.elim
  | goto => exact hk.elim
  | panic => exact hk.elim
  | outgrown => exact hk.elim

/-- A call of yield. -/
theorem OpT.callY {l : Nat} {t0 : Tmp} {as : Array Operand} {ts : Array TypeId} {vs : List AV} (ht : evo σ (.tmp t0) = some (.yield l)) (hv : vals (evo σ) as.toList = some vs)
    (hf : AV.frees vs = true) (h : AYield p.prog l vs H fun r H' => Q r loc H') :
    OpT p.prog ⟨dst, .call { callee := .value (.tmp t0), args := as, argTypes := ts }, ty, pos, after, g⟩ (ev σ) loc H Q := by
  intro G B w ρc h1 h2 hcc
  obtain ⟨l1, v1⟩ := vals_rel_array (ev_rel h1) as vs hv
  have e1 := ev_rel h1 _ _ ht
  have hx : ρc (.tmp t0) = .func (.yield l) #[] #[] := by
    generalize ρc (.tmp t0) = v at *
    cases e1; rfl
  unfold OpRuns
  obtain ⟨f, tmps, assign, body, hy, hr⟩ := h G w (as.map ρc) l1 (fun i hi => (v1 i hi).down (frees_getD _ _ hf)) ⟨h2.im, h2.obj, h2.fresh, rfl, List.nodup_nil, fun i hi => absurd hi (by simp), fun b hb => absurd hb (by simp)⟩
  have hrun : (execOp ρc ⟨dst, .call { callee := .value (.tmp t0), args := as, argTypes := ts }, ty, pos, after, g⟩).run p.prog w = .ok (.round l f tmps assign body) w := by
    simp only [execOp, resolve, hx, Deferred.ofValue, invoke, callFunc, Sem.run_bind, Sem.run_pure, Result.andThen_ok, Array.empty_append, Array.append_empty]
    simpa using hy
  rw [hrun]
  refine hr.mono ?_
  rintro e w' ⟨r, v, G', H', rfl, hr, hm, he, hk⟩
  refine ⟨v, rfl, r, loc, H', G', B, hr.up, ?_, ?_, hk⟩
  · refine ⟨hm.im, hm.obj, hm.fresh, h2.len, h2.nodup, fun i hi => ?_, fun b hb => ?_⟩
    · have hl := h2.loc i hi
      have hm' : B.getD i 0 ∈ B := by simp [List.getD_eq_getElem?_getD, show i < B.length from h2.len ▸ hi]
      have := he.heap _ hl.lt (h2.apart _ hm') (by simp)
      exact hl.kept he.le (List.prefix_refl _) this.1 this.2
    · cases e : H' b with
      | none => rfl
      | some x => rcases he.own b (by simp [e]) with c | c
                  · exact absurd (h2.apart b hb) c
                  · have := h2.blt hb; omega
  · exact ⟨he.os, he.tape, he.output, he.size, he.le, List.prefix_refl _, fun k h1 h2 h3 => he.heap k h1 h2 (by simp), he.own, fun k h => .inl h, he.row⟩

theorem MRel.back {G : Gh} {B : List Nat} {w : World} {G' : Gh} {H' : Heap} {w' : World} (h2 : MRel G B loc H w) (hm : MRel G' [] [] H' w') (he : Ext w G H [] w' G' H' []) :
    MRel G' B loc H' w' ∧ Ext w G H B w' G' H' B := by
  refine ⟨⟨hm.im, hm.obj, hm.fresh, h2.len, h2.nodup, fun i hi => ?_, fun b hb => ?_⟩, ?_⟩
  · have hl := h2.loc i hi
    have hm' : B.getD i 0 ∈ B := by simp [List.getD_eq_getElem?_getD, show i < B.length from h2.len ▸ hi]
    have := he.heap _ hl.lt (h2.apart _ hm') (by simp)
    exact hl.kept he.le (List.prefix_refl _) this.1 this.2
  · cases e : H' b with
    | none => rfl
    | some x => rcases he.own b (by simp [e]) with c | c
                · exact absurd (h2.apart b hb) c
                · have := h2.blt hb; omega
  · exact ⟨he.os, he.tape, he.output, he.size, he.le, List.prefix_refl _, fun k h1 h2 h3 => he.heap k h1 h2 (by simp), he.own, fun k h => .inl h, he.row⟩

def freeF : Frame → Bool
  | [] => true
  | (_, v) :: r => v.free && freeF r

theorem freeF_get : ∀ {σ : Frame}, freeF σ = true → ∀ t, (fget σ t).free = true
  | [], _, t => rfl
  | (k, v) :: r, h, t => by
    simp only [freeF, Bool.and_eq_true] at h
    rw [fget_cons]
    by_cases c : k = t
    · rw [if_pos c]; exact h.1
    · rw [if_neg c]; exact freeF_get h.2 t

/-- What holds of a block for deferred calls stays. -/
theorem mark_step {G G' : Gh} {H H' : Heap} {B B' : List Nat} {w w' : World} {D : Nat} (k : Ext w G H B w' G' H' B') (h : D < w.heap.size ∧ w.heap[D]? = some (.deferred (some [])) ∧ H D = none ∧ D ∉ B) :
    D < w'.heap.size ∧ w'.heap[D]? = some (.deferred (some [])) ∧ H' D = none ∧ D ∉ B' := by
  obtain ⟨a2, a3, a4, a5⟩ := h
  refine ⟨Nat.lt_of_lt_of_le a2 k.size, (k.heap D a2 a4 a5).1.trans a3, ?_, fun m => ?_⟩
  · cases e : H' D with
    | none => rfl
    | some x => rcases k.own D (by simp [e]) with c | c
                · exact absurd a4 c
                · omega
  · rcases k.new D m with c | c
    · exact a5 c
    · omega

/-- The statement 'for .. := range g { .. }' of a function of its own. -/
theorem AWP.rangeFunc {x : Operand} {ps : Array Tmp} {as body : Code} {K : Exit → Kont} {f : FuncId} {first cap : List AV} (σ' : Frame) (hg : evo σ x = some (.func f first cap))
    (hfr : AV.frees (first ++ [AV.yield 0] ++ cap) = true) (hσ : Has σ σ') (hfree : freeF σ' = true)
    (h : ∀ l, H l = none → ACalls p.prog f (first ++ [AV.yield l] ++ cap) (H.set l (.loop N σ' ps as body .ready none)) fun _ H' =>
      ∃ N1 σ1 ps1 as1 body1 st pd, H' l = some (.loop N1 σ1 ps1 as1 body1 st pd) ∧ st ≠ .busy ∧ (match pd with
        | none => K .normal σ loc (H'.del l)
        | some c => AWP none p.prog N c σ loc (H'.del l) K)) : AWP none p.prog N (.rangeFunc x ps as body) σ loc H K := by
  intro b G B a w hs he
  refine wpIn_rangeFunc fun fn _ => ?_
  have hx : ∃ xs ys, a.eval x = .func (.func f) xs ys ∧ first.length = xs.size ∧ cap.length = ys.size ∧ (∀ i, i < first.length → VR G B (first.getD i .any) (xs.getD i undef)) ∧
      (∀ i, i < cap.length → VR G B (cap.getD i .any) (ys.getD i undef)) := by
    have e1 := ev_rel (fun x => hs.fr.ev x) _ _ hg
    generalize a.eval x = v at *
    cases e1 with
    | func _ _ _ _ xs ys a b c d => exact ⟨xs, ys, rfl, a, b, c, d⟩
  obtain ⟨xs, ys, hx, lx, ly, vx, vy⟩ := hx
  let rec0 : Loop := { state := .ready, pending := none, fn, tmps := a.tmps, params := ps, assign := as, body, defers := w.heap.size }
  let w1 : World := (w.alloc (.deferred (some []))).alloc (.loop rec0)
  have hl0 : H (w.heap.size + 1) = none := by
    cases e : H (w.heap.size + 1) with
    | none => rfl
    | some y => have := (hs.mem.obj _ _ e).lt; omega
  obtain ⟨⟨fnc, hfn, hb, hn⟩, hc⟩ := h (w.heap.size + 1) hl0
  have hw1l : w1.heap[w.heap.size + 1]? = some (.loop rec0) := by
    have := World.alloc_heap_new (w.alloc (.deferred (some []))) (.loop rec0)
    rwa [World.size_alloc] at this
  have hm1 : MRel G B loc (H.set (w.heap.size + 1) (.loop N σ' ps as body .ready none)) w1 := by
    refine ((hs.mem.alloc _).alloc _).addObj (fun m => by have := hs.mem.blt m; omega) ⟨rec0, hw1l, rfl, rfl, rfl, rfl, rfl, hs.size, fun t => ?_⟩
    exact ((hs.fr.less (Has.look hσ)) t).down (freeF_get hfree t)
  have he1 : Ext w G H B w1 G (H.set (w.heap.size + 1) (.loop N σ' ps as body .ready none)) B := by
    have := (Ext.alloc (w := w) (G := G) (H := H) (B := B) (.deferred (some []))).trans (Ext.alloc (.loop rec0))
    refine { this with own := fun k hk => ?_ }
    by_cases c : k = w.heap.size + 1
    · right; omega
    · left; simpa [Heap.set, c] using hk
  have hD1 : w.heap.size < w1.heap.size ∧ w1.heap[w.heap.size]? = some (.deferred (some [])) ∧ (H.set (w.heap.size + 1) (.loop N σ' ps as body .ready none)) w.heap.size = none ∧ w.heap.size ∉ B := by
    refine ⟨by simp [w1]; omega, ?_, ?_, nomem hs.mem⟩
    · rw [show w1.heap[w.heap.size]? = (w.alloc (.deferred (some []))).heap[w.heap.size]? from heap_alloc_old _ _ (by simp)]
      exact World.alloc_heap_new _ _
    · rw [Heap.set_ne _ _ (by omega)]; exact Hnone hs.mem
  have hargs : (first ++ [AV.yield (w.heap.size + 1)] ++ cap).length = (xs ++ #[Value.func (.yield (w.heap.size + 1)) #[] #[]] ++ ys).size := by simp; omega
  have hfr' : AV.frees (first ++ [AV.yield (w.heap.size + 1)] ++ cap) = true := by
    have gen : ∀ (l r : List AV) (n m : Nat), AV.frees (l ++ [AV.yield n] ++ r) = true → AV.frees (l ++ [AV.yield m] ++ r) = true := by
      intro l
      induction l with
      | nil => intro r n m h; simpa [AV.frees, AV.free] using h
      | cons v l ih => intro r n m h; simp only [List.cons_append, AV.frees, Bool.and_eq_true] at h ⊢; exact ⟨h.1, ih r n m h.2⟩
    exact gen _ _ _ _ hfr
  have hall : ∀ i, i < (first ++ [AV.yield (w.heap.size + 1)] ++ cap).length →
      VR G B ((first ++ [AV.yield (w.heap.size + 1)] ++ cap).getD i .any) ((xs ++ #[Value.func (.yield (w.heap.size + 1)) #[] #[]] ++ ys).getD i undef) := by
    intro i hi
    simp only [List.getD_eq_getElem?_getD, Array.getD_eq_getD_getElem?] at *
    by_cases c1 : i < first.length
    · have := vx i c1
      rw [List.append_assoc, List.getElem?_append_left c1, Array.append_assoc, Array.getElem?_append_left (by omega)]
      exact this
    · by_cases c2 : i = first.length
      · subst c2
        have e1 : (first ++ [AV.yield (w.heap.size + 1)] ++ cap)[first.length]? = some (.yield (w.heap.size + 1)) := by
          rw [List.append_assoc, List.getElem?_append_right (Nat.le_refl _)]; simp
        have e2 : (xs ++ #[Value.func (.yield (w.heap.size + 1)) #[] #[]] ++ ys)[first.length]? = some (.func (.yield (w.heap.size + 1)) #[] #[]) := by
          rw [Array.append_assoc, Array.getElem?_append_right (by omega), ← lx, Nat.sub_self, Array.getElem?_append_left (by simp)]; rfl
        rw [e1, e2]; exact .yield _ _
      · have := vy (i - (first.length + 1)) (by simp at hi; omega)
        rw [List.getElem?_append_right (by simp; omega), Array.getElem?_append_right (by simp; omega)]
        have e : (xs ++ #[Value.func (.yield (w.heap.size + 1)) #[] #[]]).size = first.length + 1 := by simp; omega
        rw [e]; simpa using this
  refine ⟨w.heap.size + 1, [markOf w.heap.size], w1, { target := .fn (.func f) ys, args := xs ++ #[.func (.yield (w.heap.size + 1)) #[] #[]] }, w1, f, xs ++ #[.func (.yield (w.heap.size + 1)) #[] #[]] ++ ys, w1,
    run_enterLoop_outer fn a.tmps ps as body, ?_, fun _ _ => trivial, ?_, fun c => absurd c (by simp [Fence.wide]), ?_⟩
  · simp only [resolve, rangeCall, hx, Deferred.ofValue, Sem.run_pure, List.map_toArray, List.map_cons, List.map_nil]
    rfl
  · simp only [invoke, callFunc, Sem.run_bind, Sem.run_pure, Result.andThen_ok, run_program, hfn, hn, hb, Bool.false_eq_true, if_false]
  · refine CallsIn.mono ((callsIn_wide (n := 0)).2 (hc G w1 _ hargs (fun i hi => (hall i hi).down (frees_getD _ _ hfr')) ⟨hm1.im, hm1.obj, hm1.fresh, rfl, List.nodup_nil, fun i hi => absurd hi (by simp), fun b hb => absurd hb (by simp)⟩)) ?_
    rintro e w' ⟨r, v, G', H', rfl, hr, hm, hee, N1, σ1, ps1, as1, body1, st, pd, g1, g2, g3⟩
    obtain ⟨hm2, he2⟩ := hm1.back hm hee
    obtain ⟨r', q1, q2, q3, q4, q5, q6, q7, q8⟩ := hm2.obj _ _ g1
    have hlt : w.heap.size + 1 < w'.heap.size := (Array.getElem?_eq_some_iff.1 q1).1
    obtain ⟨k1, k2⟩ := hm2.setLoop (r' := { r' with state := .exhausted }) (x := .loop N1 σ1 ps1 as1 body1 .exhausted pd) g1 q1 ⟨_, World.putObj_heap_same hlt, q2, q3, q4, rfl, q6, q7, q8⟩
    have hdel : (H'.del (w.heap.size + 1)).le (H'.set (w.heap.size + 1) (.loop N1 σ1 ps1 as1 body1 .exhausted pd)) := fun k x e => by
      by_cases c : k = w.heap.size + 1
      · subst c; rw [Heap.del_same] at e; cases e
      · rw [Heap.del_ne _ c] at e; rw [Heap.set_ne _ _ c]; exact e
    have hext : Ext w1 G _ B _ G' _ B := (he2.trans k2).less hdel
    have hs' : SRel N G' B σ loc (H'.del (w.heap.size + 1)) { a with defers := markOf w.heap.size :: a.defers } (w'.putObj (w.heap.size + 1) (.loop { r' with state := .exhausted })) :=
      ⟨hs.size, hs.fr.mono hext.le (List.prefix_refl _), k1.less hdel⟩
    have hS : Since b { a with defers := markOf w.heap.size :: a.defers } (w'.putObj (w.heap.size + 1) (.loop { r' with state := .exhausted })) G' (H'.del (w.heap.size + 1)) B := by
      obtain ⟨l0, m1, m2, m3⟩ := he.marks
      refine ⟨(he.ext.trans he1).trans hext, w.heap.size :: l0, by simp [m1], ?_, ?_⟩
      · rw [List.nodup_cons]
        exact ⟨fun m => by have := (m3 _ m).2.1; omega, m2⟩
      · intro D hD
        rcases List.mem_cons.1 hD with rfl | hD
        · exact ⟨he.ext.size, mark_step hext hD1⟩
        · exact ⟨(m3 D hD).1, mark_step hext (mark_step he1 (m3 D hD).2)⟩
    refine ⟨pd, w'.putObj (w.heap.size + 1) (.loop { r' with state := .exhausted }), (run_endLoop q1 (by rw [q5]; exact g2)).trans (congrArg (fun x => Result.ok x _) q6), ?_⟩
    cases pd with
    | none => exact ⟨σ, loc, _, G', B, hs', hS, g3⟩
    | some c => exact g3 b G' B _ _ hs' hS
end

/-- A guarded operation of an open region, wanted, that changes nothing. -/
theorem DRun.pureG {P : Program} {N : Nat} {ops : Array Oper} {tab : List (List Nat)} {t : List (Nat × DK)} {log : List (Nat × Oper × Frame × AV)} {σ : Frame} {loc : Loc} {H : Heap} {K : Kont} {i j d' : Nat} {want : Bool} {o : Oper} {v : AV}
    (ho : ops[i]? = some o) (hd : dstOk N o.dst = true) (hg : o.guard = some (j, want)) (hj : (ops[j]?).bind (·.dst) = some d') (hb : flook σ d' = some (.bool want))
    (h : ∀ loc H, OpT P o (ev (restr (slotsOf ops o) σ)) loc H fun r l h => r = v ∧ l = loc ∧ h = H) (hk : DRun P N ops tab t log (fput σ o.dst v) loc H K) : DRun P N ops tab ((i, .pure) :: t) log σ loc H K :=
  ⟨o, v, ho, hd, fun loc H => by unfold DetG; rw [hg]; exact ⟨d', hj, .inl ⟨want, hb, fun _ => h loc H, fun e => by cases want <;> simp at e⟩⟩, hk⟩

theorem getD_flatten_rep {α : Type} (l : List α) (d : α) : ∀ (n j : Nat), j < n * l.length → ((List.replicate n l).flatten).getD j d = l.getD (j % l.length) d
  | 0, j, h => by simp at h
  | n + 1, j, h => by
    rw [List.replicate_succ, List.flatten_cons]
    by_cases c : j < l.length
    · rw [Nat.mod_eq_of_lt c]
      simp [List.getD_eq_getElem?_getD, List.getElem?_append_left c]
    · have h' : j - l.length < n * l.length := by rw [Nat.succ_mul] at h; omega
      have := getD_flatten_rep l d n (j - l.length) h'
      rw [Nat.mod_eq_sub_mod (by omega), ← this]
      simp only [List.getD_eq_getElem?_getD]
      rw [List.getElem?_append_right (by omega)]

/-- A slice of n zero values of a type of several cells, which no one writes. -/
theorem OpT.makeSl {p : Pr} {σ : Frame} {loc : Loc} {H : Heap} {ty : TypeId} {pos : String} {after : Array Edge} {g : Option (Nat × Bool)} {dst : Option Tmp} {Q : AV → Loc → Heap → Prop} {T E : TypeId} {x y : Operand} {k1 k2 : IntKind} {n : Nat} {ti ei : TI}
    (hx : evo σ x = some (.int k1 n)) (hy : evo σ y = some (.int k2 n)) (ht : p.ty T = some ti) (hk : ti.kind = .sl E) (hE : p.ty E = some ei) (hones : AV.ones ei.zero = true) (hfr : AV.frees ei.zero = true)
    (hsz : ei.zero.length = ei.size) (hpos : 0 < ei.size) (hb : ei.bytes * n ≤ 2 ^ 40) (hn : n < 2 ^ 31) (hq : Q (.sl (List.replicate n (.agg ei.zero)) .full) loc H) :
    OpT p.prog ⟨dst, .makeSlice T x y, ty, pos, after, g⟩ (ev σ) loc H Q := by
  intro G B w ρc h1 h2 hcc
  have ex := ev_rel h1 _ _ hx
  have ey := ev_rel h1 _ _ hy
  obtain ⟨d, inf, z0, hu, hnf, hkd, hs, hbts, hz0, -⟩ := p.info hE
  obtain ⟨z, hz, hzl, hzr⟩ := run_zeroValue (p := p) (G := G) (B := []) (w := w) hE
  have wn : IntKind.i64.wrap (n : Int) = (n : Int) := by rw [IntKind.wrap_i64]; omega
  have hzs : z.cells.size = ei.size := by omega
  have hbi : ¬ (inf.bytes : Int) * (n : Int) > 2 ^ 48 := by
    have : inf.bytes * n ≤ 2 ^ 40 := by rw [hbts]; exact hb
    have : (inf.bytes : Int) * (n : Int) = ((inf.bytes * n : Nat) : Int) := by simp
    omega
  let za : Array Value := if n * ei.size = 0 then #[] else z.cells
  let cells : Array Value := (Array.range (n * ei.size)).map fun x => za[x % za.size]!
  have hrun : (Instr.makeSlice T (ρc x) (ρc y)).run p.prog w = .ok (.slice (some ⟨w.heap.size, 0, none⟩) n n) (w.alloc (.cells cells E)) := by
    generalize ρc x = vx at *
    generalize ρc y = vy at *
    cases ex; cases ey
    unfold Instr.makeSlice
    have hti : (typeInfo E).run p.prog w = .ok inf w := by simp [typeInfo, hnf]
    simp only [Sem.run_bind, run_underlying (sl_ok ht hk), Result.andThen_ok, asInt, asIntOf, Sem.run_pure, hti, wn]
    rw [if_neg (by simp; omega)]
    simp only [Sem.run_bind, run_askRoom, Result.andThen_ok, run_sizeOf hE, Int.toNat_natCast]
    by_cases c : n * ei.size = 0
    · simp only [if_pos c, Sem.run_bind, Sem.run_pure, Result.andThen_ok, newRow, run_newObj, Sem.run_map, cells, za]
      rfl
    · simp only [if_neg c, Sem.run_bind, Sem.run_pure, hz, Result.andThen_ok, newRow, run_newObj, Sem.run_map, cells, za]
      rfl
  obtain ⟨k1', k2'⟩ := h2.allocIm cells E
  unfold OpRuns
  simp only [execOp, Sem.run_bind, hrun, Result.andThen_ok, Sem.run_pure]
  refine ⟨_, loc, H, _, B, ?_, k1', k2', hq⟩
  have hfl : (List.replicate n (AV.agg ei.zero)).flatMap AV.cells = (List.replicate n ei.zero).flatten := by
    rw [List.flatMap_def, List.map_replicate]; rfl
  have hfll : ((List.replicate n (AV.agg ei.zero)).flatMap AV.cells).length = n * ei.size := by rw [hfl]; simp [hsz]
  have hcs : cells.size = n * ei.size := by simp [cells]
  have := VR.sl (G := G.addIm w.heap.size cells) B (List.replicate n (.agg ei.zero)) .full w.heap.size 0 (List.replicate n (AV.agg ei.zero)).length ei.size (fun j => cells.getD j undef)
    (fun e he => by rw [List.eq_of_mem_replicate he]; exact hsz) rfl (Nat.le_refl _) ?_ ?_
  · rw [List.length_replicate] at this; exact this
  · intro j hj
    rw [hfll] at hj
    simp [Gh.addIm, hcs, hj]
  · intro j hj
    rw [hfll] at hj
    rw [hfl, getD_flatten_rep _ _ _ _ (by rw [hsz]; exact hj), hsz]
    have hm : j % ei.size < ei.size := Nat.mod_lt _ hpos
    have hne : ¬ n * ei.size = 0 := by omega
    have ec : cells.getD j undef = z.cells.getD (j % ei.size) undef := by
      simp only [cells, za, if_neg hne, hzs]
      simp [Array.getD_eq_getD_getElem?, hj, hzs, hm, getElem!_pos]
    rw [ec]
    exact (hzr _ (by omega)).le k2'.le
end Go.Am

