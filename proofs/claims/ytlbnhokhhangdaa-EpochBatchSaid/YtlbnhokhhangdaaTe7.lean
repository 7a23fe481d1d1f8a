/- The texts of this part, one behind the other: what is proved of the model and of the functions that the law reaches. -/
import Derived.Test.YtlbnhokhhangdaaTe6
import Derived.ChangeKeysEq
import Derived.Laws.Externs
/- Structs and arrays held against one another; nil held against slices and maps; a map's copy; a call through a value. -/
set_option linter.unusedVariables false
set_option linter.unusedSimpArgs false
set_option linter.unnecessarySimpa false
namespace Go.Am
open Go MapKept

/-- Are the leaves at these places alike, in this order? -/
def eqFs (p : Pr) (cs ds : List AV) : List (Nat × Nat) → Option Bool
  | [] => some true
  | (o, t) :: r => match p.ty t with
    | some i => if keyOk i.kind (cs.getD o .any) && (!i.kind.isAgg && (Nat.blt o cs.length && Nat.blt o ds.length)) then
        match keyEq (cs.getD o .any) (ds.getD o .any) with
        | some true => eqFs p cs ds r
        | some false => some false
        | none => none
      else none
    | none => none

def aeq (p : Pr) (t : TypeId) (a b : AV) : Option Bool :=
  match p.ty t, a, b with
  | some i, .agg cs, .agg ds => match i.kind with
    | .struct fs => eqFs p cs ds fs
    | .arr n e => match p.ty e with
      | some ei => eqFs p cs ds ((List.range n).map fun j => (j * ei.size, e))
      | none => none
    | _ => none
  | _, _, _ => none

theorem equal_slice_nil {P : Program} (w : World) (t e : TypeId) (a : Option Addr) (l c : Nat) (h : P.underlying t = some (.slice e)) : (Op.equal t (.slice a l c) (.slice none 0 0)).run P w = .ok a.isNone w := by
  have key : ∀ d, (Op.equalIn (d + 1) t (.slice a l c) (.slice none 0 0)).run P w = .ok a.isNone w := fun d => by
    cases a <;> simp [Op.equalIn, run_underlying h]
  exact key 9999
theorem equal_map_nil {P : Program} (w : World) (t k e : TypeId) (m : Option Nat) (h : P.underlying t = some (.map k e)) : (Op.equal t (.map m) (.map none)).run P w = .ok m.isNone w := by
  have key : ∀ d, (Op.equalIn (d + 1) t (.map m) (.map none)).run P w = .ok m.isNone w := fun d => by
    cases m <;> simp [Op.equalIn, run_underlying h]
  exact key 9999

section
variable {ro : Option Nat} {p : Pr} {N : Nat} {ops : Array Oper} {rest : List Oper} {σ : Frame} {loc : Loc} {H : Heap} {K : Kont} {ty : TypeId} {pos : String} {after : Array Edge} {g : Option (Nat × Bool)}
  {dst : Option Tmp} {Q : AV → Loc → Heap → Prop}

theorem leaf_eq {G B} {a b : AV} {x y : Value} {t : TypeId} {i : TI} {r : Bool} (hi : p.ty t = some i) (ho : keyOk i.kind a = true) (ha : VR G B a x) (hb : VR G B b y) (hr : keyEq a b = some r) (w : World) (d : Nat) :
    (Op.equalIn (d + 1) t x y).run p.prog w = .ok r w := by
  obtain ⟨dd, n, z, hu, hn, hkd, -⟩ := p.info hi
  unfold keyEq at hr
  split at hr
  · cases ha; cases hb
    split at hr
    · rename_i e; subst e; cases hr
      cases dd <;> simp [tkOf] at hkd <;> rw [← hkd] at ho <;> simp [keyOk] at ho
      exact run_equalIn_int w d t _ _ _ _ hu
    · cases hr
  · cases ha; cases hb; cases hr
    cases dd <;> simp [tkOf] at hkd <;> rw [← hkd] at ho <;> simp [keyOk] at ho
    rw [run_equalIn_string w d t _ _ hu, ByteArray.toList_eq, ByteArray.toList_eq]
  · cases ha; cases hb; cases hr
    cases dd <;> simp [tkOf] at hkd <;> rw [← hkd] at ho <;> simp [keyOk] at ho
    exact run_equalIn_bool' w d t _ _ hu
  · cases hr

theorem leaf_part {G B} {cs : List AV} {xs : Array Value} {o : Nat} {t : TypeId} {i : TI} (hi : p.ty t = some i) (ha : i.kind.isAgg = false) (hl : cs.length = xs.size)
    (hv : ∀ j, j < cs.length → VR G B (cs.getD j .any) (xs.getD j undef)) (ho : o < cs.length) (w : World) : ∃ v, (part t xs o).run p.prog w = .ok v w ∧ VR G B (cs.getD o .any) v := by
  refine ofCells_part (i := i) hi hl hv ?_
  have : (cs.drop o).head? = some (cs.getD o .any) := by simp [List.getD_eq_getElem?_getD, List.head?_drop, ho]
  simp [ofCells, ha, this]

theorem eqFs_run {G B} {cs ds : List AV} {xs ys : Array Value} (hx : cs.length = xs.size) (hxv : ∀ j, j < cs.length → VR G B (cs.getD j .any) (xs.getD j undef))
    (hy : ds.length = ys.size) (hyv : ∀ j, j < ds.length → VR G B (ds.getD j .any) (ys.getD j undef)) (w : World) (d : Nat) :
    ∀ (fs : List Field), (∀ f ∈ fs, f.name ≠ "_") → ∀ r, eqFs p cs ds (fs.map fun f => (f.offset, f.type)) = some r → (Op.eqFields (d + 1) xs ys fs).run p.prog w = .ok r w
  | [], _, r, h => by simp [eqFs] at h; subst h; rfl
  | f :: fs, hn, r, h => by
    simp only [List.map_cons, eqFs] at h
    split at h
    · rename_i i hi
      split at h
      · rename_i hc
        simp only [Bool.and_eq_true, Bool.not_eq_true'] at hc
        obtain ⟨c1, c2, c3, c4⟩ := hc
        have c3 := Nat.le_of_ble_eq_true c3
        have c4 := Nat.le_of_ble_eq_true c4
        obtain ⟨a, a1, a2⟩ := leaf_part hi c2 hx hxv c3 w
        obtain ⟨b, b1, b2⟩ := leaf_part hi c2 hy hyv c4 w
        have hname := hn f (by simp)
        split at h
        · rename_i he
          have := leaf_eq hi c1 a2 b2 he w d
          simp only [Op.eqFields, hname, ne_eq, not_false_eq_true, if_true, Sem.run_bind, a1, b1, this, Result.andThen_ok]
          simpa using eqFs_run hx hxv hy hyv w d fs (fun f hf => hn f (by simp [hf])) r h
        · rename_i he
          cases h
          have := leaf_eq hi c1 a2 b2 he w d
          simp only [Op.eqFields, hname, ne_eq, not_false_eq_true, if_true, Sem.run_bind, a1, b1, this, Result.andThen_ok]
          simp
        · cases h
      · cases h
    · cases h

theorem eqItems_run {G B} {cs ds : List AV} {xs ys : Array Value} (hx : cs.length = xs.size) (hxv : ∀ j, j < cs.length → VR G B (cs.getD j .any) (xs.getD j undef))
    (hy : ds.length = ys.size) (hyv : ∀ j, j < ds.length → VR G B (ds.getD j .any) (ys.getD j undef)) (w : World) (d c : Nat) (e : TypeId) :
    ∀ (is : List Nat) r, eqFs p cs ds (is.map fun j => (j * c, e)) = some r → (Op.eqItems (d + 1) e c xs ys is).run p.prog w = .ok r w
  | [], r, h => by simp [eqFs] at h; subst h; rfl
  | k :: is, r, h => by
    simp only [List.map_cons, eqFs] at h
    split at h
    · rename_i i hi
      split at h
      · rename_i hc
        simp only [Bool.and_eq_true, Bool.not_eq_true'] at hc
        obtain ⟨c1, c2, c3, c4⟩ := hc
        have c3 := Nat.le_of_ble_eq_true c3
        have c4 := Nat.le_of_ble_eq_true c4
        obtain ⟨a, a1, a2⟩ := leaf_part hi c2 hx hxv c3 w
        obtain ⟨b, b1, b2⟩ := leaf_part hi c2 hy hyv c4 w
        split at h
        · rename_i he
          have := leaf_eq hi c1 a2 b2 he w d
          simp only [Op.eqItems, Sem.run_bind, a1, b1, this, Result.andThen_ok]
          simpa using eqItems_run hx hxv hy hyv w d c e is r h
        · rename_i he
          cases h
          have := leaf_eq hi c1 a2 b2 he w d
          simp only [Op.eqItems, Sem.run_bind, a1, b1, this, Result.andThen_ok]
          simp
        · cases h
      · cases h
    · cases h

/-- What must be seen of a type that is held against itself. -/
def EqTy (p : Pr) (t : TypeId) : Prop :=
  p.prog.stoodInHeld t = false ∧ p.prog.eqGuardType p.prog.depth t = false ∧ ∀ f ∈ (p.prog.fieldsOf t).toList, f.name ≠ "_"

theorem aeq_run {G B} {a b : AV} {x y : Value} {t : TypeId} {r : Bool} (ht : EqTy p t) (ha : VR G B a x) (hb : VR G B b y) (h : aeq p t a b = some r) (w : World) :
    ∃ xs ys, x = .agg xs ∧ y = .agg ys ∧ (Op.equalIn 10000 t (.agg xs) (.agg ys)).run p.prog w = .ok r w := by
  unfold aeq at h
  split at h
  · rename_i i cs ds hi
    cases ha with
    | agg _ _ xs x1 x2 =>
    cases hb with
    | agg _ _ ys y1 y2 =>
    refine ⟨xs, ys, rfl, rfl, ?_⟩
    obtain ⟨dd, n, z, hu, hn, hkd, -⟩ := p.info hi
    split at h
    · rename_i fs hk
      rw [hk] at hkd
      cases dd <;> simp [tkOf] at hkd
      rename_i fs'
      have hf : p.prog.fieldsOf t = fs' := by simp [Program.fieldsOf, hu]
      rw [show (10000 : Nat) = 9999 + 1 from rfl, run_equalIn_struct w 9999 t xs ys (by rw [hf]; exact hu) ht.1]
      refine eqFs_run x1 x2 y1 y2 w 9998 _ ht.2.2 r ?_
      rw [hf, hkd]; exact h
    · rename_i n' e hk
      rw [hk] at hkd
      cases dd <;> simp [tkOf] at hkd
      obtain ⟨rfl, rfl⟩ := hkd
      split at h
      · rename_i ei he
        obtain ⟨d3, n3, z3, hu3, hn3, hkd3, hs3, -⟩ := p.info he
        rw [show (10000 : Nat) = 9999 + 1 from rfl, run_equalIn_array w 9999 xs ys hu hn3]
        rw [show p.prog.cellsOf _ = ei.size by simp [Program.cellsOf, hn3, hs3]]
        exact eqItems_run x1 x2 y1 y2 w 9998 _ _ _ r h
      · cases h
    · cases h
  · cases h

theorem OpT.eqAgg {op : BinOp} {t t' : TypeId} {x y : Operand} {a b : AV} {r : Bool} (ht : EqTy p t) (hx : evo σ x = some a) (hy : evo σ y = some b) (h : aeq p t a b = some r)
    (hop : op = .eql ∨ op = .neq) (hq : Q (.bool (if op = .eql then r else !r)) loc H) : OpT p.prog ⟨dst, .binOp op t x y t', ty, pos, after, g⟩ (ev σ) loc H Q := by
  refine OpT.pure _ (fun G B w ρc r1 r2 => ?_) hq
  obtain ⟨xs, ys, e1, e2, hr⟩ := aeq_run ht (ev_rel r1 _ _ hx) (ev_rel r1 _ _ hy) h w
  refine ⟨_, ?_, .bool _ _⟩
  simp only [execOp, e1, e2, Sem.run_bind, run_eqGuard_agg w _ _ _ _ _ _ ht.2.1, Result.andThen_ok]
  rcases hop with rfl | rfl
  · simp only [run_eql_struct, hr, Result.andThen_ok, Sem.run_pure]; rfl
  · simp only [run_neq_struct, hr, Result.andThen_ok, Sem.run_pure]; rfl

/-- A slice held against nil: whether it is nil is not known, if it may be empty. -/
theorem OpT.nilSl {op : BinOp} {t t' E : TypeId} {x : Operand} {a : AV} {ti : TI} (hx : evo σ x = some a) (ht : p.ty t = some ti) (hk : ti.kind = .sl E) (hop : op = .eql ∨ op = .neq)
    (ha : (∃ els tag, a = .sl els tag) ∨ ∃ b n sz, a = .msl b n sz)
    (hq : ∀ r : Bool, (∀ els tag, a = .sl els tag → els ≠ [] → r = false) → (∀ b n sz, a = .msl b n sz → r = false) → Q (.bool (if op = .eql then r else !r)) loc H) :
    OpT p.prog ⟨dst, .binOp op t x (.const (.slice none 0 0)) t', ty, pos, after, g⟩ (ev σ) loc H Q := by
  intro G B w ρc r1 r2 hcc
  have e1 := ev_rel r1 _ _ hx
  obtain ⟨ao, n, cap, e⟩ : ∃ ao n cap, ρc x = .slice ao n cap := by
    generalize ρc x = v at *
    rcases ha with ⟨els, tag, rfl⟩ | ⟨b, n, sz, rfl⟩ <;> cases e1 <;> exact ⟨_, _, _, rfl⟩
  have hg : (eqGuard op t x (.const (.slice none 0 0)) (ρc x) (.slice none 0 0)).run p.prog w = .ok () w := run_eqGuard_none _ _ _ _ _ _ _ (by rw [e]; simp) (by rw [e]; simp)
  rw [e] at hg e1
  have hr := equal_slice_nil w t E ao n cap (P := p.prog) (sl_ok ht hk)
  unfold OpRuns
  have hrun : (execOp ρc ⟨dst, .binOp op t x (.const (.slice none 0 0)) t', ty, pos, after, g⟩).run p.prog w = .ok (.value (.bool (if op = .eql then ao.isNone else !ao.isNone))) w := by
    rcases hop with rfl | rfl
    · simp [execOp, hcc, e, hg, binOp, hr]
    · simp [execOp, hcc, e, hg, binOp, hr]
  rw [hrun]
  refine ⟨_, loc, H, G, B, .bool _ _, r2, Ext.refl _ _ _ _, hq _ (fun els tag ea hne => ?_) (fun b n sz ea => ?_)⟩
  · subst ea
    cases e1 with
    | slempty => exact absurd rfl hne
    | slfull => exact absurd rfl hne
    | sl => rfl
  · subst ea
    cases e1
    rfl

theorem OpT.nilMap {op : BinOp} {t t' KT ET : TypeId} {x : Operand} {a : AV} {r : Bool} {ti : TI} (hx : evo σ x = some a) (ht : p.ty t = some ti) (hk : ti.kind = .map KT ET) (hop : op = .eql ∨ op = .neq)
    (ha : (r = true ∧ a = .nilmap) ∨ (r = false ∧ ∃ b, a = .map b)) (hq : Q (.bool (if op = .eql then r else !r)) loc H) :
    OpT p.prog ⟨dst, .binOp op t x (.const (.map none)) t', ty, pos, after, g⟩ (ev σ) loc H Q := by
  refine OpT.pure _ (fun G B w ρc r1 r2 => ?_) hq
  have e1 := ev_rel r1 _ _ hx
  have e2 := ev_rel r1 (.const (.map none)) .nilmap rfl
  obtain ⟨m, e, hm⟩ : ∃ m, ρc x = .map m ∧ m.isNone = r := by
    generalize ρc x = v at *
    rcases ha with ⟨rfl, rfl⟩ | ⟨rfl, b, rfl⟩ <;> cases e1 <;> exact ⟨_, rfl, rfl⟩
  have hc : ρc (.const (.map none)) = .map none := by
    generalize ρc (.const (.map none)) = v at *
    cases e2; rfl
  have hg : (eqGuard op t x (.const (.map none)) (.map m) (.map none)).run p.prog w = .ok () w := run_eqGuard_none _ _ _ _ _ _ _ (by simp) (by simp)
  have hr := equal_map_nil w t KT ET m (P := p.prog) (map_ok ht hk)
  refine ⟨_, ?_, .bool _ _⟩
  rcases hop with rfl | rfl
  · simp [execOp, hc, e, hg, binOp, hr, hm]
  · simp [execOp, hc, e, hg, binOp, hr, hm]

theorem OpT.makeInterface {t : TypeId} {x : Operand} {a : AV} (hx : evo σ x = some a) (hc : p.prog.concrete t = true) (hq : Q (.iface t a) loc H) :
    OpT p.prog ⟨dst, .makeInterface t x, ty, pos, after, g⟩ (ev σ) loc H Q := by
  refine OpT.pure _ (fun G B w ρc r1 r2 => ⟨_, ?_, .iface _ _ _ _ (ev_rel r1 _ _ hx)⟩) hq
  simp only [execOp, Sem.run_bind, run_makeInterface w t _ hc, Result.andThen_ok, Sem.run_pure]

theorem OpT.typeAssertMap {t xT KT ET : TypeId} {x : Operand} {a : AV} {ti : TI} (hx : evo σ x = some (.iface t a)) (ht : p.ty t = some ti) (hk : ti.kind = .map KT ET) (hq : Q a loc H) :
    OpT p.prog ⟨dst, .typeAssert x xT t false, ty, pos, after, g⟩ (ev σ) loc H Q := by
  refine OpT.pure _ (fun G B w ρc r1 r2 => ?_) hq
  have e1 := ev_rel r1 _ _ hx
  generalize hcx : ρc x = v at *
  cases e1 with
  | iface _ _ _ y hy =>
  refine ⟨y, ?_, hy⟩
  have : (Instr.typeAssert (.iface t y) xT t false).run p.prog w = .ok y w := by
    simp [Instr.typeAssert, run_underlying (map_ok ht hk), go_sem, Result.andThen]
  simp only [execOp, hcx, Sem.run_bind, this, Result.andThen_ok, Sem.run_pure]

/-- The model's own maps.clone. -/
theorem OpT.mapsClone {f : FuncId} {fn : Func} {x : Operand} {tt u : TypeId} {b : Nat} {es : Ents} {clock : Nat} (hf : p.prog.funcs[f]? = some fn) (hname : (fn.name == "runtime.NumGoroutine") = false)
    (hb : fn.body.isNone = true) (hn : Extern.findNext fn = none) (he : Extern.find fn = some Extern.MapsClone.clone) (hx : evo σ x = some (.iface tt (.map b))) (hH : H b = some (.map es clock))
    (hq : ∀ b', H b' = none → Q (.iface tt (.map b')) loc (H.set b' (.map es clock))) :
    OpT p.prog ⟨dst, .call { callee := .value (.func f), args := #[x], argTypes := #[u] }, ty, pos, after, g⟩ (ev σ) loc H Q := by
  intro G B w ρc h1 h2 hcc
  have hxf : ρc (.func f) = .func (.func f) #[] #[] := by
    have := h1 (.func f)
    rw [show ev σ (.func f) = .func f [] [] from rfl] at this
    generalize ρc (.func f) = z at this
    cases this with
    | func _ _ _ _ xs ys a b =>
      have : xs = #[] := by simpa using a.symm
      have : ys = #[] := by simpa using b.symm
      subst_vars; rfl
  have e1 := ev_rel h1 _ _ hx
  obtain ⟨ents, m1, m2, m3⟩ := h2.obj _ _ hH
  have hxv : ρc x = .iface tt (.map (some b)) := by
    generalize ρc x = v at *
    cases e1 with
    | iface _ _ _ y hy => cases hy; rfl
  have hclone : (Extern.MapsClone.clone #[.iface tt (.map (some b))]).run p.prog w = .ok (.iface tt (.map (some w.heap.size))) (w.alloc (.map ents clock)) := by
    have e : Extern.MapsClone.clone #[.iface tt (.map (some b))] = (getObj b >>= fun o => match o with
        | .map entries clock => (newObj (.map entries clock) >>= fun n => (Pure.pure (Value.iface tt (Value.map (some n))) : Sem Value))
        | _ => stuck "maps.clone: a map expected") := rfl
    rw [e]
    simp [MapKept.run_getObj_map m1, Result.andThen, run_newObj]
  unfold OpRuns
  have hrun : (execOp ρc ⟨dst, .call { callee := .value (.func f), args := #[x], argTypes := #[u] }, ty, pos, after, g⟩).run p.prog w = .ok (.value (.iface tt (.map (some w.heap.size)))) (w.alloc (.map ents clock)) := by
    simp only [execOp, resolve, hxf, Deferred.ofValue, invoke, Sem.run_bind, Sem.run_pure, Result.andThen_ok, Array.empty_append, Array.append_empty, List.map_toArray, List.map_cons, List.map_nil, hxv,
      run_callFunc_extern hf hname hb hn he, hclone]
  rw [hrun]
  refine ⟨_, loc, _, G, B, .iface _ _ _ _ (.map _ _), (h2.alloc _).addObj (x := .map es clock) (nomem h2) ⟨ents, heap_new _ _, m2, m3⟩, ?_, hq _ (Hnone h2)⟩
  exact { Ext.alloc (w := w) (G := G) (H := H) (B := B) (.map ents clock) with
    own := fun k hk => by
      unfold Heap.set at hk
      by_cases c : k = w.heap.size
      · exact .inr (by omega)
      · rw [if_neg c] at hk; exact .inl hk }

/-- A call of a function's value. -/
theorem OpT.callV {f : FuncId} {t0 : Tmp} {first cap : List AV} {as : Array Operand} {ts : Array TypeId} {vs : List AV} (ht : evo σ (.tmp t0) = some (.func f first cap)) (hv : vals (evo σ) as.toList = some vs)
    (hf : AV.frees (first ++ vs ++ cap) = true) (h : ACalls p.prog f (first ++ vs ++ cap) H fun r H' => Q r loc H') :
    OpT p.prog ⟨dst, .call { callee := .value (.tmp t0), args := as, argTypes := ts }, ty, pos, after, g⟩ (ev σ) loc H Q := by
  intro G B w ρc h1 h2 hcc
  obtain ⟨⟨fn, hfn, hb, hn⟩, hc⟩ := h
  obtain ⟨l1, v1⟩ := vals_rel_array (ev_rel h1) as vs hv
  have e1 := ev_rel h1 _ _ ht
  obtain ⟨xs, ys, hx, lx, ly, vx, vy⟩ : ∃ xs ys, ρc (.tmp t0) = .func (.func f) xs ys ∧ first.length = xs.size ∧ cap.length = ys.size ∧ (∀ i, i < first.length → VR G B (first.getD i .any) (xs.getD i undef)) ∧
      (∀ i, i < cap.length → VR G B (cap.getD i .any) (ys.getD i undef)) := by
    generalize ρc (.tmp t0) = v at *
    cases e1 with
    | func _ _ _ _ xs ys a b c d => exact ⟨xs, ys, rfl, a, b, c, d⟩
  unfold OpRuns
  have hrun : (execOp ρc ⟨dst, .call { callee := .value (.tmp t0), args := as, argTypes := ts }, ty, pos, after, g⟩).run p.prog w = .ok (.enter f (xs ++ as.map ρc ++ ys)) w := by
    simp only [execOp, resolve, hx, Deferred.ofValue, invoke, callFunc, Sem.run_bind, Sem.run_pure, Result.andThen_ok, run_program, hfn, hn, hb, Bool.false_eq_true, if_false]
  rw [hrun]
  have hall : ∀ i, i < (first ++ vs ++ cap).length → VR G B ((first ++ vs ++ cap).getD i .any) ((xs ++ as.map ρc ++ ys).getD i undef) := by
    intro i hi
    simp only [List.getD_eq_getElem?_getD, Array.getD_eq_getD_getElem?] at *
    by_cases c1 : i < first.length
    · have := vx i c1
      rw [List.append_assoc, List.getElem?_append_left c1, Array.append_assoc, Array.getElem?_append_left (by omega)]
      exact this
    · by_cases c2 : i < first.length + vs.length
      · have := v1 (i - first.length) (by omega)
        rw [List.getElem?_append_left (by simp; omega), List.getElem?_append_right (by omega), Array.getElem?_append_left (by simp; simp at l1; omega), Array.getElem?_append_right (by omega), ← lx]
        exact this
      · have := vy (i - (first.length + vs.length)) (by simp at hi; omega)
        rw [List.getElem?_append_right (by simp; omega), Array.getElem?_append_right (by simp; simp at l1; omega)]
        have e : (xs ++ as.map ρc).size = first.length + vs.length := by simp; simp at l1; omega
        rw [e]; simpa using this
  refine (hc G w (xs ++ as.map ρc ++ ys) (by simp; simp at l1; omega) (fun i hi => (hall i hi).down (frees_getD _ _ hf)) ⟨h2.im, h2.obj, h2.fresh, rfl, List.nodup_nil, fun i hi => absurd hi (by simp), fun b hb => absurd hb (by simp)⟩).mono ?_
  rintro e w' ⟨r, v, G', H', rfl, hr, hm, he, hk⟩
  refine ⟨v, rfl, r, loc, H', G', B, hr.up, ?_, ?_, hk⟩
  · refine ⟨hm.im, hm.obj, hm.fresh, h2.len, h2.nodup, fun i hi => ?_, fun b hb => ?_⟩
    · have hl := h2.loc i hi
      have hm' : B.getD i 0 ∈ B := by simp [List.getD_eq_getElem?_getD, show i < B.length from h2.len ▸ hi]
      have := he.heap _ hl.lt (h2.apart _ hm') (by simp)
      exact hl.kept he.le (List.prefix_refl _) this.1 this.2
    · cases e : H' b with
      | none => rfl
      | some x => rcases he.own b (by simp [e]) with c | c
                  · exact absurd (h2.apart b hb) c
                  · have := h2.blt hb; omega
  · exact ⟨he.os, he.tape, he.output, he.size, he.le, List.prefix_refl _, fun k h1 h2 h3 => he.heap k h1 h2 (by simp), he.own, fun k h => .inl h, he.row⟩

end
end Go.Am

/- Trimming, loops with a named state, parts of a heap, guarded operations in open regions. -/
set_option linter.unusedVariables false
set_option linter.unusedSimpArgs false
set_option linter.unnecessarySimpa false
namespace Go.Am
open Go

/-- The frame says all that l says. -/
def Has (σ : Frame) : Frame → Prop
  | [] => True
  | (k, v) :: r => flook σ k = some v ∧ Has σ r

theorem Has.look {σ : Frame} : ∀ {l : Frame}, Has σ l → ∀ t v, flook l t = some v → flook σ t = some v
  | [], _, t, v, h => by simp [flook] at h
  | (k, u) :: r, hs, t, v, h => by
    simp only [flook] at h
    by_cases c : k = t
    · subst c
      simp at h; subst h; exact hs.1
    · rw [nbeq_ne c] at h
      exact Has.look hs.2 t v h

section
variable {ro : Option Nat} {P : Program} {p : Pr} {N : Nat} {ops : Array Oper} {rest : List Oper} {σ : Frame} {loc : Loc} {H : Heap}

theorem AWP.trim {c : Code} {K : Exit → Kont} (l : Frame) (h : Has σ l) (hk : AWP ro P N c l loc H K) : AWP ro P N c σ loc H K := AWP.less (Has.look h) (Heap.le_refl H) hk
theorem AWP.trimH {c : Code} {K : Exit → Kont} (l : Frame) (H' : Heap) (h : Has σ l) (hH : H'.le H) (hk : AWP ro P N c l loc H' K) : AWP ro P N c σ loc H K := AWP.less (Has.look h) hH hk
theorem AOps.trim {K : Kont} (l : Frame) (h : Has σ l) (hk : AOps ro P N ops rest l loc H K) : AOps ro P N ops rest σ loc H K := AOps.less (Has.look h) hk

/-- A loop whose state at each round's head is named by a. -/
theorem AWP.loopA {α : Type} {c : Code} {K : Exit → Kont} (Inv : α → Prop) (μ : α → Nat) (F : α → Frame) (L : α → Loc) (HH : α → Heap) (a0 : α) (h0 : Inv a0) (hF : Has σ (F a0)) (hL : loc = L a0) (hH : (HH a0).le H)
    (round : ∀ a, Inv a → AWP ro P N c (F a) (L a) (HH a) (thn (fun σ l H => ∃ a', μ a' < μ a ∧ Inv a' ∧ Has σ (F a') ∧ l = L a' ∧ (HH a').le H) K)) : AWP ro P N (.loop c) σ loc H K := by
  refine AWP.loop (fun n σ l H => ∃ a, n = μ a ∧ Inv a ∧ Has σ (F a) ∧ l = L a ∧ (HH a).le H) (μ a0) ⟨a0, rfl, h0, hF, hL, hH⟩ ?_
  rintro n σ l H ⟨a, rfl, hi, hf, rfl, hh⟩
  refine (AWP.trimH (F a) (HH a) hf hh (round a hi)).mono fun e σ l H h => ?_
  cases e with
  | normal => obtain ⟨a', h1, h2, h3, h4, h5⟩ := h; exact ⟨μ a', h1, a', rfl, h2, h3, h4, h5⟩
  | _ => exact h

/-- A block whose code leaves it. -/
theorem AWP.seqBlock {id : Nat} {c d : Code} {K : Exit → Kont} (h : AWP ro P N c σ loc H (blk id (thn (fun σ l H => AWP ro P N d σ l H K) K))) : AWP ro P N (.seq (.block id c) d) σ loc H K := AWP.seq (AWP.block h)

def Disj (A B : Heap) : Prop := ∀ b, A b = none ∨ B b = none

/-- What A says, and else B. -/
def Heap.over (A B : Heap) : Heap := fun b => match A b with
  | some x => some x
  | none => B b

/-- B without what A speaks of. -/
def Heap.minus (B A : Heap) : Heap := fun b => match A b with
  | some _ => none
  | none => B b

def Heap.nil : Heap := fun _ => none

theorem Heap.nil_le (H : Heap) : Heap.nil.le H := fun b x h => by cases h
theorem Heap.nil_over (H : Heap) : Heap.nil.over H = H := rfl
theorem Heap.minus_nil (H : Heap) : H.minus Heap.nil = H := rfl
theorem Heap.le_over (A B : Heap) : A.le (A.over B) := fun b x h => by simp [Heap.over, h]
theorem Disj.symm {A B : Heap} (h : Disj A B) : Disj B A := fun b => (h b).symm
theorem Heap.le_over' {A B : Heap} (h : Disj A B) : B.le (A.over B) := fun b x e => by
  rcases h b with c | c
  · simp [Heap.over, c, e]
  · rw [c] at e; cases e
theorem Heap.le_minus {A B C : Heap} (h : C.le B) (d : Disj A C) : C.le (B.minus A) := fun b x e => by
  rcases d b with c | c
  · simp [Heap.minus, c, h b x e]
  · rw [c] at e; cases e
theorem Disj.le {A B A' B' : Heap} (h : Disj A B) (ha : A'.le A) (hb : B'.le B) : Disj A' B' := fun b => by
  rcases h b with c | c
  · left; cases e : A' b with
    | none => rfl
    | some x => rw [ha b x e] at c; cases c
  · right; cases e : B' b with
    | none => rfl
    | some x => rw [hb b x e] at c; cases c
theorem Heap.over_le {A B C : Heap} (ha : A.le C) (hb : B.le C) : (A.over B).le C := fun b x e => by
  unfold Heap.over at e
  split at e
  · rename_i y h; cases e; exact ha b _ h
  · exact hb b x e

/-- Only where A is, or where H is not. -/
def Grows (H A A' : Heap) : Prop := ∀ b, A' b ≠ none → A b ≠ none ∨ H b = none

theorem Grows.disj {H A A' B : Heap} (h : Grows H A A') (hb : B.le H) (d : Disj A B) : Disj A' B := fun b => by
  cases e : A' b with
  | none => exact .inl rfl
  | some x =>
    right
    rcases h b (by rw [e]; simp) with c | c
    · rcases d b with k | k
      · exact absurd k c
      · exact k
    · cases e2 : B b with
      | none => rfl
      | some y => rw [hb b y e2] at c; cases c

/-- A call that needs a part of the heap alone leaves the rest. -/
theorem ACalls.part {f : FuncId} {args : List AV} {H1 : Heap} {K1 K : AV → Heap → Prop} (hle : H1.le H) (h : ACalls P f args H1 K1)
    (hk : ∀ r H1', K1 r H1' → Grows H H1 H1' → K r (H1'.over (H.minus H1))) : ACalls P f args H K := by
  refine ⟨h.1, fun G w vs h0 h1 h2 => (h.2 G w vs h0 h1 (h2.less hle)).mono ?_⟩
  rintro e w' ⟨r, v, G', H1', rfl, hr, hm, he, hK⟩
  have hext : ∀ b, H1 b = none → H b ≠ none → w'.heap[b]? = w.heap[b]? ∧ ∀ o, G'.im b o = G.im b o := fun b hb hn => by
    cases e : H b with
    | none => exact absurd e hn
    | some x => exact he.heap b (h2.obj b x e).lt hb (by simp)
  have hg : Grows H H1 H1' := fun b hb => by
    rcases he.own b hb with c | c
    · exact .inl c
    · right
      cases e : H b with
      | none => rfl
      | some x => have := (h2.obj b x e).lt; omega
  refine ⟨r, v, G', H1'.over (H.minus H1), rfl, hr, ⟨hm.im, fun b x e => ?_, hm.fresh, hm.len, hm.nodup, hm.loc, fun b hb => absurd hb (by simp)⟩, ?_, hk r H1' hK hg⟩
  · cases e1 : H1' b with
    | some y =>
      simp [Heap.over, e1] at e; subst e; exact hm.obj b y e1
    | none =>
      simp only [Heap.over, e1, Heap.minus] at e
      cases e2 : H1 b with
      | some y => simp [e2] at e
      | none =>
        simp [e2] at e
        have ho := h2.obj b x e
        have := hext b e2 (by rw [e]; simp)
        refine ho.kept he.le this.1 this.2 ?_
        exact he.row b ho.lt
  · refine { he with heap := fun k hk hH hB => ?_, own := fun k hk => ?_ }
    · have : H1 k = none := by
        cases e : H1 k with
        | none => rfl
        | some x => rw [hle k x e] at hH; cases hH
      exact he.heap k hk this hB
    · cases e1 : H1' k with
      | some y =>
        rcases he.own k (by rw [e1]; simp) with c | c
        · left
          cases e : H1 k with
          | none => exact absurd e c
          | some x => rw [hle k x e]; simp
        · exact .inr c
      | none =>
        left
        simp only [Heap.over, e1, Heap.minus] at hk
        cases e2 : H1 k with
        | some y => simp [e2] at hk
        | none => simpa [e2] using hk

end
end Go.Am
