/- The texts of this part, one behind the other: what is proved of the model and of the functions that the law reaches. -/
import Derived.WalkKit
/- Values that carry their contents, an abstract heap of owned blocks, and how they lie in the machine's memory. -/
namespace Go.Am
open Go

/-- What is known of a slice's room: nothing; that there is none beyond its length; that it owns all of a block behind its end. -/
inductive Tag where
  | no | full | own (g : Nat)
  deriving DecidableEq, Inhabited

inductive AV where
  | any
  | int (k : IntKind) (n : Int)
  | bool (b : Bool)
  | str (s : List UInt8)
  | nilp
  | ptr (b off : Nat)
  | lptr (i off : Nat)
  | iptr (cs : List AV)
  | sl (els : List AV) (tag : Tag)
  | msl (g n sz : Nat)
  | nilmap
  | map (b : Nat)
  | nilf
  | func (f : FuncId) (first cap : List AV)
  | yield (l : Nat)
  | agg (cs : List AV)
  | tuple (vs : List AV)
  | niface
  | iface (t : TypeId) (v : AV)
  deriving Inhabited

def AV.cells : AV → List AV
  | .agg cs => cs
  | v => [v]

/-- What is fixed for ever: cells that no one writes any more; of a row that was made here: its elements' type, its capacity, cells an element. -/
structure Gh where
  im : Nat → Nat → Option Value
  row : Nat → Option (TypeId × Nat × Nat)

structure Gh.le (G G' : Gh) : Prop where
  im : ∀ b o v, G.im b o = some v → G'.im b o = some v
  row : ∀ g x, G.row g = some x → G'.row g = some x

theorem Gh.le.refl (G : Gh) : G.le G := ⟨fun _ _ _ h => h, fun _ _ h => h⟩
theorem Gh.le.trans {a b c : Gh} (h : a.le b) (k : b.le c) : a.le c := ⟨fun x y v e => k.im _ _ _ (h.im x y v e), fun g x e => k.row _ _ (h.row g x e)⟩

def Tag.fits (G : Gh) (b off n cap : Nat) : Tag → Prop
  | .no => True
  | .full => cap = n
  | .own g => b = g ∧ off = 0 ∧ ∃ E sz, G.row g = some (E, cap, sz)

inductive VR (G : Gh) : List Nat → AV → Value → Prop where
  | any (B v) : VR G B .any v
  | int (B k n) : VR G B (.int k n) (.int k n)
  | bool (B b) : VR G B (.bool b) (.bool b)
  | str (B s) : VR G B (.str s) (.string ⟨s.toArray⟩)
  | nilp (B) : VR G B .nilp (.pointer none)
  | ptr (B b off) : VR G B (.ptr b off) (.pointer (some ⟨b, off, none⟩))
  | lptr (B i off b) : B[i]? = some b → VR G B (.lptr i off) (.pointer (some ⟨b, off, none⟩))
  | iptr (B cs b off) (cv : Nat → Value) : (∀ j, j < cs.length → G.im b (off + j) = some (cv j)) → (∀ j, j < cs.length → VR G [] (cs.getD j .any) (cv j)) →
      VR G B (.iptr cs) (.pointer (some ⟨b, off, none⟩))
  | slempty (B a cap) : VR G B (.sl [] .no) (.slice a 0 cap)
  | slfull (B a) : VR G B (.sl [] .full) (.slice a 0 0)
  | sl (B els tag b off cap sz) (cv : Nat → Value) : (∀ e ∈ els, e.cells.length = sz) → tag.fits G b off els.length cap → els.length ≤ cap →
      (∀ j, j < (els.flatMap AV.cells).length → G.im b (off + j) = some (cv j)) →
      (∀ j, j < (els.flatMap AV.cells).length → VR G [] ((els.flatMap AV.cells).getD j .any) (cv j)) →
      VR G B (.sl els tag) (.slice (some ⟨b, off, none⟩) els.length cap)
  | msl (B g n E cap sz) : G.row g = some (E, cap, sz) → n ≤ cap → VR G B (.msl g n sz) (.slice (some ⟨g, 0, none⟩) n cap)
  | nilmap (B) : VR G B .nilmap (.map none)
  | map (B b) : VR G B (.map b) (.map (some b))
  | nilf (B) : VR G B .nilf .nilFunc
  | func (B f fs cs) (xs ys : Array Value) : fs.length = xs.size → cs.length = ys.size → (∀ i, i < fs.length → VR G B (fs.getD i .any) (xs.getD i undef)) →
      (∀ i, i < cs.length → VR G B (cs.getD i .any) (ys.getD i undef)) → VR G B (.func f fs cs) (.func (.func f) xs ys)
  | yield (B l) : VR G B (.yield l) (.func (.yield l) #[] #[])
  | agg (B cs) (xs : Array Value) : cs.length = xs.size → (∀ i, i < cs.length → VR G B (cs.getD i .any) (xs.getD i undef)) → VR G B (.agg cs) (.agg xs)
  | tuple (B cs) (xs : Array Value) : cs.length = xs.size → (∀ i, i < cs.length → VR G B (cs.getD i .any) (xs.getD i undef)) → VR G B (.tuple cs) (.tuple xs)
  | niface (B) : VR G B .niface .nilIface
  | iface (B t v x) : VR G B v x → VR G B (.iface t v) (.iface t x)

theorem VR.mono {G G' : Gh} {B B' : List Nat} {v : AV} {x : Value} (h : VR G B v x) (hg : G.le G') (hb : B <+: B') : VR G' B' v x := by
  induction h generalizing B' with
  | any => exact .any _ _
  | int => exact .int _ _ _
  | bool => exact .bool _ _
  | str => exact .str _ _
  | nilp => exact .nilp _
  | ptr => exact .ptr _ _ _
  | lptr B i off b h =>
    refine .lptr _ _ _ _ ?_
    obtain ⟨t, rfl⟩ := hb
    rw [List.getElem?_append_left (List.getElem?_eq_some_iff.1 h).1]; exact h
  | iptr B cs b off cv h1 _ ih => exact .iptr _ _ _ _ cv (fun j hj => hg.im _ _ _ (h1 j hj)) (fun j hj => ih j hj (List.prefix_refl _))
  | slempty => exact .slempty _ _ _
  | slfull => exact .slfull _ _
  | sl B els tag b off cap sz cv h1 h2 h3 h4 _ ih =>
    refine .sl _ _ _ _ _ _ sz cv h1 ?_ h3 (fun j hj => hg.im _ _ _ (h4 j hj)) (fun j hj => ih j hj (List.prefix_refl _))
    cases tag with
    | no => exact h2
    | full => exact h2
    | own g => obtain ⟨p, q, E, s, r⟩ := h2; exact ⟨p, q, E, s, hg.row _ _ r⟩
  | msl B g n E cap sz h1 h2 => exact .msl _ _ _ E cap sz (hg.row _ _ h1) h2
  | nilmap => exact .nilmap _
  | map => exact .map _ _
  | nilf => exact .nilf _
  | func B f fs cs xs ys h1 h2 _ _ ih1 ih2 => exact .func _ _ _ _ _ _ h1 h2 (fun i hi => ih1 i hi hb) (fun i hi => ih2 i hi hb)
  | yield => exact .yield _ _
  | agg B cs xs h1 _ ih => exact .agg _ _ _ h1 (fun i hi => ih i hi hb)
  | tuple B cs xs h1 _ ih => exact .tuple _ _ _ h1 (fun i hi => ih i hi hb)
  | niface => exact .niface _
  | iface B t v x _ ih => exact .iface _ _ _ _ (ih hb)

theorem VR.up {G : Gh} {B : List Nat} {v : AV} {x : Value} (h : VR G [] v x) : VR G B v x := h.mono (.refl G) (List.nil_prefix)
theorem VR.le {G G' : Gh} {B : List Nat} {v : AV} {x : Value} (h : VR G B v x) (hg : G.le G') : VR G' B v x := h.mono hg (List.prefix_refl _)

-- A value that names no local box.
mutual
def AV.free : AV → Bool
  | .lptr _ _ => false
  | .func _ fs cs => AV.frees fs && AV.frees cs
  | .agg cs => AV.frees cs
  | .tuple cs => AV.frees cs
  | .iface _ v => AV.free v
  | _ => true
def AV.frees : List AV → Bool
  | [] => true
  | v :: r => AV.free v && AV.frees r
end

theorem frees_getD : ∀ (l : List AV) (i : Nat), AV.frees l = true → (l.getD i .any).free = true
  | [], i, _ => by simp [AV.free]
  | v :: r, 0, h => by simp [AV.frees] at h; simpa using h.1
  | v :: r, i + 1, h => by simp [AV.frees] at h; simpa using frees_getD r i h.2

theorem VR.down {G : Gh} {B : List Nat} {v : AV} {x : Value} (h : VR G B v x) (hv : v.free = true) : VR G [] v x := by
  induction h with
  | any => exact .any _ _
  | int => exact .int _ _ _
  | bool => exact .bool _ _
  | str => exact .str _ _
  | nilp => exact .nilp _
  | ptr => exact .ptr _ _ _
  | lptr B i off b h => simp [AV.free] at hv
  | iptr B cs b off cv h1 h2 ih => exact .iptr _ _ _ _ cv h1 h2
  | slempty => exact .slempty _ _ _
  | slfull => exact .slfull _ _
  | sl B els tag b off cap sz cv h1 h2 h3 h4 h5 ih => exact .sl _ _ _ _ _ _ sz cv h1 h2 h3 h4 h5
  | msl B g n E cap sz h1 h2 => exact .msl _ _ _ E cap sz h1 h2
  | nilmap => exact .nilmap _
  | map => exact .map _ _
  | nilf => exact .nilf _
  | func B f fs cs xs ys h1 h2 _ _ ih1 ih2 =>
    simp [AV.free] at hv
    exact .func _ _ _ _ _ _ h1 h2 (fun i hi => ih1 i hi (frees_getD _ _ hv.1)) (fun i hi => ih2 i hi (frees_getD _ _ hv.2))
  | yield => exact .yield _ _
  | agg B cs xs h1 _ ih => simp [AV.free] at hv; exact .agg _ _ _ h1 (fun i hi => ih i hi (frees_getD _ _ hv))
  | tuple B cs xs h1 _ ih => simp [AV.free] at hv; exact .tuple _ _ _ h1 (fun i hi => ih i hi (frees_getD _ _ hv))
  | niface => exact .niface _
  | iface B t v x _ ih => simp [AV.free] at hv; exact .iface _ _ _ _ (ih hv)

/-- What is known of a frame's slots. -/
abbrev Frame := List (Nat × AV)

def flook : Frame → Nat → Option AV
  | [], _ => none
  | (k, v) :: r, t => bif Nat.beq k t then some v else flook r t

def fget (σ : Frame) (t : Nat) : AV := (flook σ t).getD .any

/-- What the call owns: a row of cells (a variable, a struct, a slice that is written); a map; all that lies behind the n-th element of a row; the record of a range over a function (its frame's slots, its parameters, its codes, its state). -/
inductive AObj where
  | box (cs : List AV)
  | map (es : List (AV × AV × Nat)) (clock : Nat)
  | tail (sz n : Nat)
  | loop (N : Nat) (σ : Frame) (ps : Array Tmp) (assign body : Code) (st : LoopState) (pending : Option Code)

abbrev Heap := Nat → Option AObj

def Heap.set (H : Heap) (b : Nat) (x : AObj) : Heap := fun k => if k = b then some x else H k
def Heap.del (H : Heap) (b : Nat) : Heap := fun k => if k = b then none else H k
def Heap.le (H H' : Heap) : Prop := ∀ b x, H b = some x → H' b = some x

def ObjR (G : Gh) (w : World) (b : Nat) : AObj → Prop
  | .box cs => ∃ cells E, w.heap[b]? = some (.cells cells E (0, 0)) ∧ cs.length ≤ cells.size ∧ (∀ i, i < cs.length → VR G [] (cs.getD i .any) (cells.getD i undef)) ∧
      (∀ o, G.im b o = none) ∧ (∀ E' cap sz, G.row b = some (E', cap, sz) → E' = E ∧ cells.size = cap * sz ∧ cap ≤ maxLen)
  | .map es clock => ∃ ents, w.heap[b]? = some (.map ents clock) ∧ es.length = ents.size ∧
      (∀ i, i < es.length → VR G [] (es.getD i (.any, .any, 0)).1 (ents.getD i default).key ∧ VR G [] (es.getD i (.any, .any, 0)).2.1 (ents.getD i default).val ∧
        (es.getD i (.any, .any, 0)).2.2 = (ents.getD i default).born)
  | .tail sz n => ∃ cells E cap, w.heap[b]? = some (.cells cells E (0, 0)) ∧ G.row b = some (E, cap, sz) ∧ cells.size = cap * sz ∧ n ≤ cap ∧ cap ≤ maxLen ∧ ∀ o, n * sz ≤ o → G.im b o = none
  | .loop N σ ps assign body st pending => ∃ r : Loop, w.heap[b]? = some (.loop r) ∧ r.params = ps ∧ r.assign = assign ∧ r.body = body ∧ r.state = st ∧ r.pending = pending ∧ r.tmps.size = N ∧
      ∀ t, VR G [] (fget σ t) (r.tmps.getD t undef)

def LocR (G : Gh) (B : List Nat) (w : World) (b : Nat) (cs : List AV) : Prop :=
  ∃ cells E, w.heap[b]? = some (.cells cells E (0, 0)) ∧ cs.length = cells.size ∧ (∀ i, i < cs.length → VR G B (cs.getD i .any) (cells.getD i undef)) ∧ (∀ o, G.im b o = none)

abbrev Loc := List (List AV)

structure MRel (G : Gh) (B : List Nat) (loc : Loc) (H : Heap) (w : World) : Prop where
  im : ∀ b o v, G.im b o = some v → ∃ cells E fr, w.heap[b]? = some (.cells cells E fr) ∧ cells[o]? = some v
  obj : ∀ b x, H b = some x → ObjR G w b x
  fresh : ∀ b, w.heap.size ≤ b → G.row b = none
  len : B.length = loc.length
  nodup : B.Nodup
  loc : ∀ i, i < loc.length → LocR G B w (B.getD i 0) (loc.getD i [])
  apart : ∀ b, b ∈ B → H b = none

/-- From one state of memory to a later one: what was not owned is as it was. -/
structure Ext (w : World) (G : Gh) (H : Heap) (B : List Nat) (w' : World) (G' : Gh) (H' : Heap) (B' : List Nat) : Prop where
  os : w'.os = w.os
  tape : w'.tape = w.tape
  output : w'.output = w.output
  size : w.heap.size ≤ w'.heap.size
  le : G.le G'
  pre : B <+: B'
  heap : ∀ k, k < w.heap.size → H k = none → k ∉ B → w'.heap[k]? = w.heap[k]? ∧ ∀ o, G'.im k o = G.im k o
  own : ∀ k, H' k ≠ none → H k ≠ none ∨ w.heap.size ≤ k
  new : ∀ k, k ∈ B' → k ∈ B ∨ w.heap.size ≤ k
  row : ∀ k, k < w.heap.size → G'.row k = G.row k

theorem Ext.refl (w : World) (G : Gh) (H : Heap) (B : List Nat) : Ext w G H B w G H B :=
  ⟨rfl, rfl, rfl, Nat.le_refl _, .refl G, List.prefix_refl _, fun _ _ _ _ => ⟨rfl, fun _ => rfl⟩, fun _ h => .inl h, fun _ h => .inl h, fun _ _ => rfl⟩

theorem Ext.trans {w G H B w1 G1 H1 B1 w2 G2 H2 B2} (h : Ext w G H B w1 G1 H1 B1) (k : Ext w1 G1 H1 B1 w2 G2 H2 B2) : Ext w G H B w2 G2 H2 B2 where
  os := k.os.trans h.os
  tape := k.tape.trans h.tape
  output := k.output.trans h.output
  size := Nat.le_trans h.size k.size
  le := h.le.trans k.le
  pre := h.pre.trans k.pre
  heap := fun b hb hH hB => by
    have a := h.heap b hb hH hB
    have h1 : H1 b = none := by
      cases e : H1 b with
      | none => rfl
      | some x => rcases h.own b (by simp [e]) with c | c
                  · exact absurd hH c
                  · omega
    have h2 : b ∉ B1 := fun m => by
      rcases h.new b m with c | c
      · exact hB c
      · omega
    have c := k.heap b (Nat.lt_of_lt_of_le hb h.size) h1 h2
    exact ⟨c.1.trans a.1, fun o => (c.2 o).trans (a.2 o)⟩
  own := fun b hb => by
    rcases k.own b hb with c | c
    · exact h.own b c
    · exact .inr (Nat.le_trans h.size c)
  new := fun b hb => by
    rcases k.new b hb with c | c
    · exact h.new b c
    · exact .inr (Nat.le_trans h.size c)
  row := fun b hb => (k.row b (Nat.lt_of_lt_of_le hb h.size)).trans (h.row b hb)

theorem ObjR.kept {G G' : Gh} {w w' : World} {b : Nat} {x : AObj} (h : ObjR G w b x) (hg : G.le G') (hw : w'.heap[b]? = w.heap[b]?) (hi : ∀ o, G'.im b o = G.im b o)
    (hr : G'.row b = G.row b) : ObjR G' w' b x := by
  cases x with
  | box cs =>
    obtain ⟨cells, E, h1, h2, h3, h4, h5⟩ := h
    exact ⟨cells, E, hw.trans h1, h2, fun i hi => (h3 i hi).le hg, fun o => (hi o).trans (h4 o), fun E' cap sz e => h5 E' cap sz (hr ▸ e)⟩
  | map es clock =>
    obtain ⟨ents, h1, h2, h3⟩ := h
    exact ⟨ents, hw.trans h1, h2, fun i hi => ⟨(h3 i hi).1.le hg, (h3 i hi).2.1.le hg, (h3 i hi).2.2⟩⟩
  | tail sz n =>
    obtain ⟨cells, E, cap, h1, h2, h3, h4, h5, h6⟩ := h
    exact ⟨cells, E, cap, hw.trans h1, hr.trans h2, h3, h4, h5, fun o ho => (hi o).trans (h6 o ho)⟩
  | loop =>
    obtain ⟨r, h1, h2, h3, h4, h5, h6, h7, h8⟩ := h
    exact ⟨r, hw.trans h1, h2, h3, h4, h5, h6, h7, fun t => (h8 t).le hg⟩

theorem LocR.kept {G G' : Gh} {B B' : List Nat} {w w' : World} {b : Nat} {cs : List AV} (h : LocR G B w b cs) (hg : G.le G') (hb : B <+: B') (hw : w'.heap[b]? = w.heap[b]?)
    (hi : ∀ o, G'.im b o = G.im b o) : LocR G' B' w' b cs := by
  obtain ⟨cells, E, h1, h2, h3, h4⟩ := h
  exact ⟨cells, E, hw.trans h1, h2, fun i hi => (h3 i hi).mono hg hb, fun o => (hi o).trans (h4 o)⟩

theorem ObjR.lt {G : Gh} {w : World} {b : Nat} {x : AObj} (h : ObjR G w b x) : b < w.heap.size := by
  have : ∃ o, w.heap[b]? = some o := by
    cases x with
    | box => obtain ⟨c, E, h, _⟩ := h; exact ⟨_, h⟩
    | map => obtain ⟨c, h, _⟩ := h; exact ⟨_, h⟩
    | tail => obtain ⟨c, E, _, h, _⟩ := h; exact ⟨_, h⟩
    | loop => obtain ⟨r, h, _⟩ := h; exact ⟨_, h⟩
  obtain ⟨o, ho⟩ := this
  exact (Array.getElem?_eq_some_iff.1 ho).1

theorem LocR.lt {G : Gh} {B : List Nat} {w : World} {b : Nat} {cs : List AV} (h : LocR G B w b cs) : b < w.heap.size := by
  obtain ⟨c, E, h, _⟩ := h
  exact (Array.getElem?_eq_some_iff.1 h).1

theorem MRel.blt {G B loc H w} (h : MRel G B loc H w) {b : Nat} (hb : b ∈ B) : b < w.heap.size := by
  obtain ⟨i, hi, rfl⟩ := List.getElem_of_mem hb
  have := (h.loc i (h.len ▸ hi)).lt
  simpa [List.getD_eq_getElem?_getD, hi] using this

theorem MRel.imlt {G B loc H w} (h : MRel G B loc H w) {b o : Nat} {v : Value} (e : G.im b o = some v) : b < w.heap.size := by
  obtain ⟨c, E, fr, h, _⟩ := h.im b o v e
  exact (Array.getElem?_eq_some_iff.1 h).1

/-- A smaller heap is one, too. -/
theorem MRel.less {G B loc H H' w} (h : MRel G B loc H w) (hl : H'.le H) : MRel G B loc H' w :=
  ⟨h.im, fun b x e => h.obj b x (hl b x e), h.fresh, h.len, h.nodup, h.loc, fun b hb => by
    cases e : H' b with
    | none => rfl
    | some x => have := hl b x e; rw [h.apart b hb] at this; cases this⟩

theorem Ext.less {w G H B w' G' H' H'' B'} (h : Ext w G H B w' G' H' B') (hl : H''.le H') : Ext w G H B w' G' H'' B' :=
  { h with own := fun k hk => h.own k (by
      cases e : H'' k with
      | none => exact absurd e hk
      | some x => rw [hl k x e]; simp) }

end Go.Am
