/- The texts of this part, one behind the other: what is proved of the model and of the functions that the law reaches. -/
import Derived.Test.YtlbnhokhhangdaaTe8
import Derived.ProofKit
import Derived.OpenShut
import Derived.Carry
/- What comes in: data that are read, as values with contents. -/
set_option linter.unusedVariables false
set_option linter.unusedSimpArgs false
namespace Go.Am
open Go

/-- Where a call begins: all that lies in memory is written by no one. -/
def Gh.start (W : World) : Gh := { im := fun b o => W.cell? ⟨b, o, none⟩, row := fun _ => none }

theorem MRel.start (W : World) : MRel (Gh.start W) [] [] Heap.nil W where
  im := fun b o v h => by
    simp only [Gh.start, World.cell?] at h
    split at h
    · rename_i c E fr e; exact ⟨c, E, fr, e, by simpa using h⟩
    · cases h
  obj := fun b x h => by cases h
  fresh := fun b _ => rfl
  len := rfl
  nodup := List.nodup_nil
  loc := fun i h => by simp at h
  apart := fun b h => by simp at h

section
variable {H : Type} {enc : TypeId × Value → H} {P : Program} {W : World}

def RdRow (W : World) (avs : List AV) (cs : List Value) : Prop := avs.length = cs.length ∧ ∀ i, i < avs.length → VR (Gh.start W) [] (avs.getD i .any) (cs.getD i undef)

theorem RdRow.append {a b : List AV} {x y : List Value} (h : RdRow W a x) (k : RdRow W b y) : RdRow W (a ++ b) (x ++ y) := by
  refine ⟨by simp [h.1, k.1], fun i hi => ?_⟩
  have h1 := h.1
  have k1 := k.1
  by_cases c : i < a.length
  · have e1 : (a ++ b).getD i .any = a.getD i .any := by simp [List.getD_eq_getElem?_getD, List.getElem?_append_left c]
    have e2 : (x ++ y).getD i undef = x.getD i undef := by simp [List.getD_eq_getElem?_getD, List.getElem?_append_left (show i < x.length by omega)]
    rw [e1, e2]; exact h.2 i c
  · have e1 : (a ++ b).getD i .any = b.getD (i - a.length) .any := by simp [List.getD_eq_getElem?_getD, List.getElem?_append_right (show a.length ≤ i by omega)]
    have e2 : (x ++ y).getD i undef = y.getD (i - a.length) undef := by rw [h1]; simp [List.getD_eq_getElem?_getD, List.getElem?_append_right (show x.length ≤ i by omega)]
    rw [e1, e2]
    simp only [List.length_append] at hi
    exact k.2 _ (by omega)

theorem RdRow.one {a : AV} {x : Value} (h : VR (Gh.start W) [] a x) : RdRow W [a] [x] := ⟨rfl, fun i hi => by
  have : i = 0 := by simpa using hi
  subst this; exact h⟩

/-- What is read as this type is what p says. -/
def Dec (enc : TypeId × Value → H) (P : Program) (W : World) (t : TypeId) (p : List AV → Prop) : Prop :=
  ∀ (fuel : Nat) (cs : List Value) (d : DataW H) (ps : List MemPlace), DataW.trod enc P W 0 (fun _ => true) true fuel t cs = some (d, ps) → ∃ avs, p avs ∧ RdRow W avs cs

theorem Dec.mono {t : TypeId} {p q : List AV → Prop} (h : Dec enc P W t p) (k : ∀ l, p l → q l) : Dec enc P W t q := fun fuel cs d ps e => by
  obtain ⟨a, b, c⟩ := h fuel cs d ps e
  exact ⟨a, k a b, c⟩

theorem Dec.int {t : TypeId} {k : IntKind} (hu : P.underlying t = some (.int k)) : Dec enc P W t (fun l => ∃ n, l = [.int k n] ∧ k.min ≤ n ∧ n ≤ k.max) := by
  intro fuel cs d ps h
  cases fuel with
  | zero => simp [DataW.trod] at h
  | succ fuel =>
    match cs, h with
    | [], h => simp [DataW.trod, hu] at h
    | [v], h =>
      cases v <;> simp [DataW.trod, hu] at h
      rename_i k' n
      obtain ⟨⟨rfl, hw⟩, -⟩ := h
      simp only [Lit.wf, Bool.and_eq_true, decide_eq_true_eq] at hw
      exact ⟨_, ⟨n, rfl, hw⟩, RdRow.one (.int _ _ _)⟩
    | _ :: _ :: _, h => simp [DataW.trod, hu] at h

theorem Dec.u8 {t : TypeId} (hu : P.underlying t = some (.int .u8)) : Dec enc P W t (fun l => ∃ b : UInt8, l = (AV.int .u8 b.toNat).cells ∧ True) :=
  (Dec.int hu).mono fun l ⟨n, h1, h2, h3⟩ => by
    have h2 : 0 ≤ n := h2
    have h3 : n ≤ 255 := h3
    refine ⟨n.toNat.toUInt8, ?_, trivial⟩
    rw [h1]
    have : ((n.toNat.toUInt8).toNat : Int) = n := by simp; omega
    rw [this]; rfl

theorem Dec.bool {t : TypeId} (hu : P.underlying t = some .bool) : Dec enc P W t (fun l => ∃ b, l = [.bool b]) := by
  intro fuel cs d ps h
  cases fuel with
  | zero => simp [DataW.trod] at h
  | succ fuel =>
    match cs, h with
    | [], h => simp [DataW.trod, hu] at h
    | [v], h =>
      cases v <;> simp [DataW.trod, hu] at h
      exact ⟨_, ⟨_, rfl⟩, RdRow.one (.bool _ _)⟩
    | _ :: _ :: _, h => simp [DataW.trod, hu] at h

theorem Dec.str {t : TypeId} (hu : P.underlying t = some .string) : Dec enc P W t (fun l => ∃ s : List UInt8, l = [.str s] ∧ s.length ≤ maxLen) := by
  intro fuel cs d ps h
  cases fuel with
  | zero => simp [DataW.trod] at h
  | succ fuel =>
    match cs, h with
    | [], h => simp [DataW.trod, hu] at h
    | [v], h =>
      cases v <;> simp [DataW.trod, hu] at h
      rename_i s
      exact ⟨[.str s.data.toList], ⟨_, rfl, by simpa using h.1⟩, RdRow.one (.str [] s.data.toList)⟩
    | _ :: _ :: _, h => simp [DataW.trod, hu] at h

theorem flat_getD {sz : Nat} : ∀ (l : List AV) (h : ∀ e ∈ l, e.cells.length = sz) (i r : Nat), i < l.length → r < sz → (l.flatMap AV.cells).getD (i * sz + r) .any = (l.getD i .any).cells.getD r .any
  | [], h, i, r, hi, hr => by simp at hi
  | e :: l, h, 0, r, hi, hr => by
    have := h e (by simp)
    simp [List.flatMap_cons, List.getD_eq_getElem?_getD, List.getElem?_append_left (show r < e.cells.length by omega)]
  | e :: l, h, i + 1, r, hi, hr => by
    have he := h e (by simp)
    have ih := flat_getD l (fun x hx => h x (by simp [hx])) i r (by simpa using hi) hr
    have : (i + 1) * sz + r = e.cells.length + (i * sz + r) := by rw [he, Nat.add_mul]; omega
    rw [this]
    simp only [List.flatMap_cons, List.getD_eq_getElem?_getD, List.getElem?_append_right (Nat.le_add_right _ _), Nat.add_sub_cancel_left]
    simpa [List.getD_eq_getElem?_getD] using ih

theorem cells_row {a : Addr} {n : Nat} {cs : List Value} (h : W.cells? 0 a n = some cs) : cs.length = n ∧ ∀ r, r < n → W.cell? (a.add r) = some (cs.getD r undef) := by
  unfold World.cells? at h
  rw [if_pos (Nat.zero_le _)] at h
  have hl := mapM_some_length h
  rw [List.length_range] at hl
  refine ⟨hl, fun r hr => ?_⟩
  have := mapM_some_get h r r (by simp [hr])
  rw [this, List.getElem?_eq_getElem (by omega)]
  simp [List.getD_eq_getElem?_getD, List.getElem?_eq_getElem (show r < cs.length by omega)]

theorem cell_add {a : Addr} (ha : a.spot = none) (n r : Nat) : ((a.add n).add r) = ⟨a.block, a.off + (n + r), none⟩ := by
  obtain ⟨b, o, s⟩ := a
  simp only at ha
  subst ha
  simp only [Addr.add]
  by_cases h1 : n = 0
  · subst h1
    by_cases h2 : r = 0
    · subst h2; simp
    · simp [h2]
  · by_cases h2 : r = 0
    · subst h2; simp [h1]
    · simp [h1, h2]; omega

theorem Dec.slice {β : Type} {t e sz : Nat} (g : β → AV) (Q : β → Prop) (hu : P.underlying t = some (.slice e)) (hc : P.cellsOf e = sz) (hsz : 0 < sz) (hg : ∀ b, (g b).cells.length = sz)
    (he : Dec enc P W e (fun l => ∃ b, l = (g b).cells ∧ Q b)) : Dec enc P W t (fun l => ∃ bs : List β, l = [.sl (bs.map g) .no] ∧ bs.length ≤ maxLen ∧ ∀ b ∈ bs, Q b) := by
  intro fuel cs d ps h
  cases fuel with
  | zero => simp [DataW.trod] at h
  | succ fuel =>
    match cs, h with
    | [], h => simp [DataW.trod, hu] at h
    | _ :: _ :: _, h => simp [DataW.trod, hu] at h
    | [v], h =>
      cases v <;> simp only [DataW.trod, hu] at h <;> try (cases h)
      rename_i ao len cap
      cases ao with
      | none =>
        have hz : len = 0 ∧ cap = 0 := by
          cases len <;> cases cap <;> simp at h ⊢
        obtain ⟨rfl, rfl⟩ := hz
        exact ⟨[.sl [] .no], ⟨[], rfl, by simp, fun b hb => by simp at hb⟩, RdRow.one (.slempty _ _ _)⟩
      | some a =>
        simp only at h
        split at h
        · rename_i hcond
          obtain ⟨-, hlc, hcm⟩ := hcond
          cases hm : (List.range len).mapM (fun i => (W.cells? 0 (a.add (i * P.cellsOf e)) (P.cellsOf e)).bind (DataW.trod enc P W 0 (fun _ => true) true fuel e)) with
          | none => rw [hm] at h; cases h
          | some xs =>
            have hxl := mapM_some_length hm
            rw [List.length_range] at hxl
            have row : ∀ i, i < len → ∃ cs, W.cells? 0 (a.add (i * sz)) sz = some cs ∧ ∃ b, Q b ∧ RdRow W (g b).cells cs := by
              intro i hi
              have h1 := mapM_some_get hm i i (by simp [hi])
              rw [List.getElem?_eq_getElem (by omega), hc] at h1
              cases hr : W.cells? 0 (a.add (i * sz)) sz with
              | none => rw [hr] at h1; cases h1
              | some cs =>
                rw [hr] at h1
                obtain ⟨avs, ⟨b, rfl, hb⟩, hrow⟩ := he fuel cs (xs[i]'(by omega)).1 (xs[i]'(by omega)).2 (by simpa using h1)
                exact ⟨cs, rfl, b, hb, hrow⟩
            have hspot : 0 < len → a.spot = none := by
              intro h0
              obtain ⟨cs, hr, -⟩ := row 0 h0
              have := (cells_row hr).2 0 hsz
              rw [show ((a.add (0 * sz)).add 0) = a by simp [Addr.add]] at this
              unfold World.cell? at this
              split at this
              · split at this
                · cases this
                · rename_i hs; simpa using hs
              · cases this
            by_cases h0 : len = 0
            · subst h0
              exact ⟨[.sl [] .no], ⟨[], rfl, by simp, fun b hb => by simp at hb⟩, RdRow.one (.slempty _ _ _)⟩
            have hs := hspot (by omega)
            obtain ⟨cs0, -, b0, -⟩ := row 0 (by omega)
            have hch : ∃ f : Nat → β, ∀ i, i < len → Q (f i) ∧ ∀ r, r < sz → ∃ u, W.cell? ⟨a.block, a.off + (i * sz + r), none⟩ = some u ∧ VR (Gh.start W) [] ((g (f i)).cells.getD r .any) u := by
              refine ⟨fun i => if hi : i < len then Classical.choose (Classical.choose_spec (row i hi)).2 else b0, fun i hi => ?_⟩
              simp only [hi, dif_pos]
              obtain ⟨h1, h2⟩ := Classical.choose_spec (Classical.choose_spec (row i hi)).2
              refine ⟨h1, fun r hr => ⟨_, ?_, h2.2 r (by rw [hg]; exact hr)⟩⟩
              rw [← cell_add hs]
              exact (cells_row (Classical.choose_spec (row i hi)).1).2 r hr
            obtain ⟨f, hf⟩ := hch
            have hcells : ∀ e ∈ ((List.range len).map f).map g, e.cells.length = sz := by
              intro e he
              simp only [List.mem_map] at he
              obtain ⟨b, -, rfl⟩ := he
              exact hg b
            have hflat : ((((List.range len).map f).map g).flatMap AV.cells).length = len * sz := by rw [flat_length hcells]; simp
            have cell : ∀ j, j < len * sz → ∃ u, W.cell? ⟨a.block, a.off + j, none⟩ = some u ∧ VR (Gh.start W) [] (((((List.range len).map f).map g).flatMap AV.cells).getD j .any) u := by
              intro j hj
              have hd : j / sz < len := Nat.div_lt_of_lt_mul (by rw [Nat.mul_comm]; exact hj)
              have hr : j % sz < sz := Nat.mod_lt _ hsz
              have hj2 : j = j / sz * sz + j % sz := by rw [Nat.mul_comm]; exact (Nat.div_add_mod j sz).symm
              obtain ⟨u, h1, h2⟩ := (hf _ hd).2 _ hr
              refine ⟨u, by rw [← hj2] at h1; exact h1, ?_⟩
              rw [hj2, flat_getD _ hcells _ _ (by simpa using hd) hr]
              have e1 : (((List.range len).map f).map g).getD (j / sz) .any = g (f (j / sz)) := by simp [List.getD_eq_getElem?_getD, hd]
              rw [e1]; exact h2
            refine ⟨[.sl (((List.range len).map f).map g) .no], ⟨(List.range len).map f, rfl, by simp; omega, fun b hb => ?_⟩, RdRow.one ?_⟩
            · simp only [List.mem_map, List.mem_range] at hb
              obtain ⟨i, hi, rfl⟩ := hb
              exact (hf i hi).1
            · obtain ⟨bl, off, sp⟩ := a
              simp only at hs
              subst hs
              have e2 : len = (((List.range len).map f).map g).length := by simp
              have := VR.sl (G := Gh.start W) [] (((List.range len).map f).map g) .no bl off cap sz (fun j => (W.cell? ⟨bl, off + j, none⟩).getD undef) hcells trivial (by simp; exact hlc)
                (fun j hj => by
                  rw [hflat] at hj
                  obtain ⟨u, h1, -⟩ := cell j hj
                  show W.cell? _ = _
                  simp only at h1
                  rw [h1]; rfl)
                (fun j hj => by
                  rw [hflat] at hj
                  obtain ⟨u, h1, h2⟩ := cell j hj
                  simp only at h1
                  rw [h1]; exact h2)
              rw [← e2] at this
              exact this
        · cases h
/-- One part behind the other. -/
def FieldsP : List (List AV → Prop) → List AV → Prop
  | [], l => l = []
  | p :: ps, l => ∃ x y, l = x ++ y ∧ p x ∧ FieldsP ps y

def Lay (enc : TypeId × Value → H) (P : Program) (W : World) : Nat → List (Nat × TypeId) → List (List AV → Prop) → Prop
  | _, [], [] => True
  | acc, (o, t) :: r, p :: ps => o = acc ∧ Dec enc P W t p ∧ Lay enc P W (acc + P.cellsOf t) r ps
  | _, _, _ => False

theorem lay_rows {cs : List Value} : ∀ (fl : List (Nat × TypeId)) (ps : List (List AV → Prop)) (acc : Nat), Lay enc P W acc fl ps → (fl = [] → cs.drop acc = []) → (∀ o t, fl.getLast? = some (o, t) → cs.length = o + P.cellsOf t) →
    (∀ f ∈ fl, ∃ (fuel : Nat) (d : DataW H) (q : List MemPlace), DataW.trod enc P W 0 (fun _ => true) true fuel f.2 ((cs.drop f.1).take (P.cellsOf f.2)) = some (d, q)) → ∃ avs, FieldsP ps avs ∧ RdRow W avs (cs.drop acc)
  | [], [], acc, _, hn, _, _ => ⟨[], rfl, by rw [hn rfl]; exact ⟨rfl, fun i hi => by simp at hi⟩⟩
  | (o, t) :: r, p :: ps, acc, ⟨ho, hd, hl⟩, hn, hlast, hf => by
    subst ho
    obtain ⟨fuel, d, q, h1⟩ := hf (o, t) (by simp)
    obtain ⟨x, hx, hx2⟩ := hd fuel _ _ _ h1
    obtain ⟨y, hy, hy2⟩ := lay_rows (cs := cs) r ps (o + P.cellsOf t) hl
      (fun e => by
        subst e
        have := hlast o t rfl
        exact List.drop_of_length_le (by omega))
      (fun o' t' e => hlast o' t' (by cases r with
        | nil => cases e
        | cons a r => simpa [List.getLast?_cons_cons] using e))
      (fun f h => hf f (by simp [h]))
    refine ⟨x ++ y, ⟨x, y, rfl, hx, hy⟩, ?_⟩
    have := hx2.append hy2
    rwa [← List.drop_drop, List.take_append_drop] at this
  | [], _ :: _, acc, h, _, _, _ => h.elim
  | (_, _) :: _, [], acc, h, _, _, _ => h.elim

theorem Dec.struct {t : TypeId} {fs : Array Field} (ps : List (List AV → Prop)) (hu : P.underlying t = some (.struct fs)) (hl : Lay enc P W 0 (fs.toList.map fun f => (f.offset, f.type)) ps)
    (hlast : ∀ o u, (fs.toList.map fun f => (f.offset, f.type)).getLast? = some (o, u) → P.cellsOf t = o + P.cellsOf u) (hne : fs.toList ≠ []) : Dec enc P W t (FieldsP ps) := by
  intro fuel cs d qs h
  cases fuel with
  | zero => simp [DataW.trod] at h
  | succ fuel =>
    simp only [DataW.trod, hu] at h
    split at h
    · rename_i hlen
      cases hm : (fs.toList.mapM fun f => DataW.trod enc P W 0 (fun _ => true) true fuel f.type ((cs.drop f.offset).take (P.cellsOf f.type))) with
      | none => rw [hm] at h; cases h
      | some xs =>
        obtain ⟨avs, h1, h2⟩ := lay_rows (cs := cs) _ ps 0 hl (fun e => absurd (List.map_eq_nil_iff.1 e) hne) (fun o u e => by rw [hlen]; exact hlast o u e) (fun f hf => by
          simp only [List.mem_map] at hf
          obtain ⟨g, hg, rfl⟩ := hf
          obtain ⟨i, hi, rfl⟩ := List.getElem_of_mem hg
          have h1 := mapM_some_get hm i _ (List.getElem?_eq_getElem hi)
          have hx := mapM_some_length hm
          rw [List.getElem?_eq_getElem (by omega)] at h1
          exact ⟨fuel, _, _, h1⟩)
        exact ⟨avs, h1, by simpa using h2⟩
    · cases h

theorem Dec.arr {t e : TypeId} {n : Nat} (ps : List (List AV → Prop)) (hu : P.underlying t = some (.array n e)) (hl : Lay enc P W 0 ((List.range n).map fun i => (i * P.cellsOf e, e)) ps)
    (hlast : P.cellsOf t = n * P.cellsOf e) (hn : 0 < n) : Dec enc P W t (FieldsP ps) := by
  intro fuel cs d qs h
  cases fuel with
  | zero => simp [DataW.trod] at h
  | succ fuel =>
    simp only [DataW.trod, hu] at h
    split at h
    · rename_i hlen
      cases hm : ((List.range n).mapM fun i => DataW.trod enc P W 0 (fun _ => true) true fuel e ((cs.drop (i * P.cellsOf e)).take (P.cellsOf e))) with
      | none => rw [hm] at h; cases h
      | some xs =>
        obtain ⟨avs, h1, h2⟩ := lay_rows (cs := cs) _ ps 0 hl (fun e => by
            have := List.map_eq_nil_iff.1 e
            rw [List.range_eq_nil] at this; omega)
          (fun o u e => by
            obtain ⟨m, rfl⟩ : ∃ m, n = m + 1 := ⟨n - 1, by omega⟩
            rw [List.range_succ, List.map_append, List.map_cons, List.map_nil, List.getLast?_append] at e
            simp at e
            obtain ⟨rfl, rfl⟩ := e
            rw [hlen, hlast, Nat.add_mul]; omega)
          (fun f hf => by
            simp only [List.mem_map, List.mem_range] at hf
            obtain ⟨i, hi, rfl⟩ := hf
            have h1 := mapM_some_get hm i i (by simp [hi])
            have hx := mapM_some_length hm
            rw [List.length_range] at hx
            rw [List.getElem?_eq_getElem (by omega)] at h1
            exact ⟨fuel, _, _, h1⟩)
        exact ⟨avs, h1, by simpa using h2⟩
    · cases h

/-- An argument that is a slice. -/
theorem Dec.argSl {t e base : TypeId} {v : Value} {d : DataW H} {ps : List MemPlace} {β : Type} {g : β → AV} {Q : β → Prop} (h : Dec enc P W t (fun l => ∃ bs : List β, l = [.sl (bs.map g) .no] ∧ bs.length ≤ maxLen ∧ ∀ b ∈ bs, Q b))
    (hu : P.underlying t = some (.slice e)) (hok : Value.okWide P W .any base t v) (ht : DataW.Trod enc P W 0 (fun _ => true) true t v d ps) : ∃ bs : List β, VR (Gh.start W) [] (.sl (bs.map g) .no) v ∧ bs.length ≤ maxLen ∧ ∀ b ∈ bs, Q b := by
  obtain ⟨fuel, hf⟩ := ht
  obtain ⟨avs, ⟨bs, rfl, h1, h2⟩, h3⟩ := h fuel _ _ _ hf
  refine ⟨bs, ?_, h1, h2⟩
  have hv : ∃ a l c, v = .slice a l c := by
    simp only [Value.okWide, hu, Cell.okWide, Cell.ok] at hok
    split at hok <;> simp_all
  obtain ⟨a, l, c, rfl⟩ := hv
  have := h3.2 0 (by simp)
  simpa [Value.cells] using this
end

/-- A law's answer: true, and what came in reads as it did. -/
theorem post_of_law {H : Type} {enc : TypeId × Value → H} {P : Program} {f : Func} {s : ChangeSpec} {W W' : World} {args : Array Value} {ds gs : List (DataW H)} {before : List MemPlace} {tb : TypeId}
    (hl : laidOutB P = true) (hr : ∀ t ∈ f.params.toList, P.readableRec t = true ∧ t < P.types.size) (hvars : s.vars = []) (hspec : s.fn H (ds ++ gs) = { results := [.lit (.bool true)], args := ds })
    (hres : f.resultTypes = #[tb]) (hb : P.underlying tb = some .bool) (hW : DataW.Whole enc P f.params.toList s.vars false W args.toList ds gs before)
    (hbl : RowKit.Below W.heap.size W W') : s.post enc P f false true false false W args (.bool true) W' := by
  have hold : ∀ p ∈ before, p.block < W.heap.size := fun p hp => hW.lt p hp
  obtain ⟨p, q, hA, hV, hpq, hfz, hnd⟩ := id hW
  rw [hvars] at hV
  obtain ⟨rfl, rfl⟩ := ChangeShapes.trodVars_none hV
  rw [List.append_nil] at hpq hspec
  subst hpq
  have stays : ∀ (sp : Nat → Bool), (∀ x ∈ before, sp x.block = true) → DataW.TrodAll enc P W' 0 sp true f.params.toList args.toList ds before := by
    intro sp hsp
    have key : ∀ (ts : List TypeId) (vs : List Value) (ds : List (DataW H)) (ps : List MemPlace), (∀ t ∈ ts, P.readableRec t = true ∧ t < P.types.size) → (∀ x ∈ ps, x.block < W.heap.size) → (∀ x ∈ ps, sp x.block = true) →
        DataW.TrodAll enc P W 0 (fun _ => true) true ts vs ds ps → DataW.TrodAll enc P W' 0 sp true ts vs ds ps := by
      intro ts
      induction ts with
      | nil =>
        intro vs ds ps _ _ _ h
        obtain ⟨rfl, rfl, rfl⟩ := ChangeShapes.trodAll_nil h
        exact rfl
      | cons t ts ih =>
        intro vs ds ps h1 h2 h3 h
        obtain ⟨v, vs', d, ds', p, q, rfl, rfl, rfl, h4, h5⟩ := ChangeShapes.trodAll_cons h
        refine ⟨p, q, WideElems.Trod_stays hl (h1 t (by simp)).1 (h1 t (by simp)).2 h4 (fun x hx => hbl.same (h2 x (by simp [hx]))) (fun x hx => h3 x (by simp [hx])), ih vs' ds' q (fun x hx => h1 x (by simp [hx])) (fun x hx => h2 x (by simp [hx])) (fun x hx => h3 x (by simp [hx])) h5, rfl⟩
    exact key _ _ _ _ hr hold hsp hA
  refine ⟨ds, [], before, [], before, [], hW, ?_, ?_, ?_, World.keptBut_mono (fun p hp => ⟨hp, .inr (.inl hp)⟩) (show W.keptBut W' (· ∈ before) from ?_), fun h => by cases h⟩
  · rw [List.append_nil, hspec, hres]
    exact ChangeShapes.trodAll_mk1 (RowKit.shut_bool hb true)
  · rw [List.append_nil, hspec]
    exact stays _ (fun x hx => by simpa using hold x hx)
  · rw [List.append_nil, hspec, hvars]; exact rfl
  · refine ⟨hbl.os, hbl.output, fun i hi => ?_⟩
    rw [hbl.block i hi]
    cases h : W.heap[i]? with
    | none => trivial
    | some o => cases o <;> simp

theorem Ext.below {W W' : World} {G G' : Gh} {H' : Heap} (h : Ext W G Heap.nil [] W' G' H' []) : RowKit.Below W.heap.size W W' :=
  ⟨h.os, h.tape, h.output, h.size, fun k hk => (h.heap k hk rfl (by simp)).1⟩

/-- A contract, at a call from outside. -/
theorem ACalls.outside {P : Program} {f : FuncId} {vs : List AV} {K : AV → Heap → Prop} {W : World} {args : Array Value} (h : ACalls P f vs Heap.nil K) (hl : vs.length = args.size)
    (hv : ∀ i, i < vs.length → VR (Gh.start W) [] (vs.getD i .any) (args.getD i undef)) (hk : ∀ r H', K r H' → r = .bool true) :
    Calls P f args W fun e W' => e = .returned (.bool true) ∧ RowKit.Below W.heap.size W W' :=
  (h.2 (Gh.start W) W args hl hv (MRel.start W)).mono fun e W' ⟨r, v, G', H', he, hr, hm, hx, hK⟩ => by
    have := hk r H' hK
    subst this
    cases hr
    exact ⟨he, hx.below⟩
end Go.Am
