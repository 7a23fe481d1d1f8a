/- The texts of this part, one behind the other: what is proved of the model and of the functions that the law reaches. -/
import Derived.Test.YtlbnhokhhangdaaTe3
import Derived.Lib.AppendStr
/- Slices: appended to, written out, indexed, cut; bytes and strings. -/
set_option linter.unusedVariables false
set_option linter.unusedSimpArgs false
namespace Go.Am
open Go

def encB (l : List UInt8) : List AV := l.map fun b => .int .u8 b.toNat

/-- Elements that have so many cells each, all of one kind that may be stored. -/
def Els (sz : Nat) (l : List AV) : Prop := ∀ e ∈ l, e.cells.length = sz ∧ AV.ones e.cells = true

theorem Els.nil (sz : Nat) : Els sz [] := fun _ h => absurd h (by simp)
theorem Els.append {sz l m} (h : Els sz l) (k : Els sz m) : Els sz (l ++ m) := fun e he => (List.mem_append.1 he).elim (h e) (k e)
theorem Els.one {sz e} (h : e.cells.length = sz) (k : AV.ones e.cells = true) : Els sz [e] := fun x hx => by simp at hx; subst hx; exact ⟨h, k⟩
theorem Els.take {sz l} (h : Els sz l) (n : Nat) : Els sz (l.take n) := fun e he => h e (List.mem_of_mem_take he)
theorem Els.drop {sz l} (h : Els sz l) (n : Nat) : Els sz (l.drop n) := fun e he => h e (List.mem_of_mem_drop he)
theorem Els.map {α : Type} {sz : Nat} {f : α → AV} (h : ∀ a, (f a).cells.length = sz ∧ AV.ones (f a).cells = true) (l : List α) : Els sz (l.map f) := fun e he => by
  obtain ⟨a, _, rfl⟩ := List.mem_map.1 he; exact h a
theorem Els.encB (l : List UInt8) : Els 1 (encB l) := fun e he => by
  obtain ⟨a, _, rfl⟩ := List.mem_map.1 he; exact ⟨rfl, rfl⟩

/-- May a slice of n elements with this mark be appended to? -/
def App (H : Heap) (sz n : Nat) : Tag → Prop
  | .no => False
  | .full => True
  | .own g => H g = some (.tail sz n)

/-- The heap without what the mark owns. -/
def hbase (H : Heap) : Tag → Heap
  | .own g => H.del g
  | _ => H

theorem hbase_le (H : Heap) (tag : Tag) : (hbase H tag).le H := by
  intro b x h
  cases tag with
  | own g => simp only [hbase, Heap.del] at h; split at h; cases h; exact h
  | _ => exact h

theorem flat_length {sz : Nat} : ∀ {l : List AV}, (∀ e ∈ l, e.cells.length = sz) → (l.flatMap AV.cells).length = l.length * sz
  | [], _ => by simp
  | e :: r, h => by
    have := flat_length (l := r) (fun x hx => h x (by simp [hx]))
    simp only [List.flatMap_cons, List.length_append, this, h e (by simp), List.length_cons, Nat.add_mul]
    omega

theorem flat_ones {sz : Nat} : ∀ {l : List AV}, Els sz l → AV.ones (l.flatMap AV.cells) = true
  | [], _ => rfl
  | e :: r, h => by
    have h1 := flat_ones (l := r) (fun x hx => h x (by simp [hx]))
    have h2 := (h e (by simp)).2
    have ap : ∀ a b : List AV, AV.ones a = true → AV.ones b = true → AV.ones (a ++ b) = true := by
      intro a b ha hb
      induction a with
      | nil => exact hb
      | cons x a ih => simp [AV.ones] at ha ⊢; exact ⟨ha.1, ih ha.2⟩
    simpa using ap _ _ h2 h1

section
variable {ro : Option Nat} {P : Program} {w : World}

theorem append_room {t u ty e : TypeId} {i : TypeInfo} {d : TypeDesc} {x : Value} {m n cap : Nat} {ao : Option Addr} {news : List Value} (ht : P.underlying t = some (.slice e)) (hu : P.underlying u = some d) (hd : (∀ k, d ≠ .int k))
    (hi : P.info? e = some i) (hl : ∀ w', (Builtin.lenOf x).run P w' = .ok m w') (hf : (Builtin.firstCells i.size m x).run P w = .ok news.toArray w) (hr : n + m ≤ cap) :
    (Builtin.append_ #[t, u] ty #[.slice ao n cap, x]).run P w =
      match ao with
      | some a => ((storeCells (a.add (n * i.size)) news).run P w).andThen fun _ w' => .ok (.slice ao (n + m) cap) w'
      | none => .ok (.slice none (n + m) cap) w := by
  have hz : (match d with | .int _ => true | _ => false) = false := by cases d <;> first | rfl | exact (hd _ rfl).elim
  cases ao <;> simp [Builtin.append_, run_underlying ht, run_underlying hu, sizeOf, typeInfo, hi, hl, hr, hf, hz]

theorem append_grow {t u ty e : TypeId} {i : TypeInfo} {d : TypeDesc} {x z : Value} {m n cap : Nat} {ao : Option Addr} {olds news : List Value} (ht : P.underlying t = some (.slice e)) (hu : P.underlying u = some d) (hd : (∀ k, d ≠ .int k))
    (hi : P.info? e = some i) (hz0 : i.zero = some z) (hl : ∀ w', (Builtin.lenOf x).run P w' = .ok m w') (hf : (Builtin.firstCells i.size m x).run P w.drew = .ok news.toArray w.drew)
    (ho : (Builtin.firstCells i.size n (.slice ao n cap)).run P w.drew = .ok olds.toArray w.drew) (hr : cap < n + m) (h63 : n + m ≤ maxLen) (hb : (n + m) * i.bytes ≤ 140737488355328) :
    (Builtin.append_ #[t, u] ty #[.slice ao n cap, x]).run P w =
      .ok (.slice (some ⟨w.heap.size, 0, none⟩) (n + m) (grownCap w (n + m) cap e)) (w.drew.alloc (.cells (olds.toArray ++ news.toArray ++ Builtin.zeroCells z.cells (grownCap w (n + m) cap e - (n + m))) e)) := by
  have hz : (match d with | .int _ => true | _ => false) = false := by cases d <;> first | rfl | exact (hd _ rfl).elim
  have hn : ¬ (n + m ≤ cap) := by omega
  have h48 := growslice_fits (old := cap) hr hb
  have h63' : ¬ (9223372036854775807 < ((n : Int) + (m : Int))) := by simp only [maxLen] at h63; omega
  have h48' : ¬ (281474976710656 < Builtin.nextslicecap (n + m) cap * i.bytes) := by omega
  simp [Builtin.append_, run_underlying ht, run_underlying hu, sizeOf, typeInfo, zeroValue, hi, hz0, hl, hn, h63', h48', Question.forced, hf, ho, hz, newRow, grownCap]
  simp only [← List.append_toArray, Array.append_assoc]

end

def srcOf : Option AV → Option (List AV)
  | some (.sl new _) => some new
  | some (.str s) => some (encB s)
  | _ => none

def isSrc : TK → Bool
  | .sl _ | .str => true
  | _ => false

theorem flat_encB (s : List UInt8) : (encB s).flatMap AV.cells = encB s := by
  induction s with
  | nil => rfl
  | cons a s ih => simpa [encB, AV.cells] using ih

theorem getD_encB (s : List UInt8) (j : Nat) (h : j < s.length) : (encB s).getD j .any = .int .u8 (s.getD j 0).toNat := by
  simp [encB, List.getD_eq_getElem?_getD, h]

section
variable {ro : Option Nat} {p : Pr} {N : Nat} {ops : Array Oper} {rest : List Oper} {σ : Frame} {loc : Loc} {H : Heap} {K : Kont} {ty : TypeId} {pos : String} {after : Array Edge} {g : Option (Nat × Bool)}
  {dst : Option Tmp} {Q : AV → Loc → Heap → Prop} {G : Gh} {B : List Nat} {w : World}

theorem slice_cells {els : List AV} {tag : Tag} {ao : Option Addr} {n cap : Nat} {sz : Nat} (hm : MRel G B loc H w) (h : VR G B (.sl els tag) (.slice ao n cap)) (he : Els sz els) :
    n = els.length ∧ ∃ olds : List Value, (∀ w' : World, w'.heap = w.heap → (Builtin.firstCells sz n (.slice ao n cap)).run p.prog w' = .ok olds.toArray w') ∧ olds.length = n * sz ∧
      (∀ j, j < olds.length → VR G [] ((els.flatMap AV.cells).getD j .any) (olds.getD j undef)) ∧ (∀ u ∈ olds, u.oneCell' = true) ∧
      (∀ b off, els ≠ [] → ao = some ⟨b, off, none⟩ → ∀ j, j < olds.length → G.im b (off + j) = olds[j]?) := by
  have empty : ∀ (ao : Option Addr) (cap : Nat) (w' : World), (Builtin.firstCells sz 0 (.slice ao 0 cap)).run p.prog w' = .ok #[] w' := by
    intro ao cap w'
    cases ao <;> simp [Builtin.firstCells, loadCells, loadCellsFrom]
  cases h with
  | slempty _ a cap => exact ⟨rfl, [], fun w' _ => empty _ _ _, by simp, fun j hj => absurd hj (by simp), fun u hu => absurd hu (by simp), fun _ _ h => absurd rfl h⟩
  | slfull _ a => exact ⟨rfl, [], fun w' _ => empty _ _ _, by simp, fun j hj => absurd hj (by simp), fun u hu => absurd hu (by simp), fun _ _ h => absurd rfl h⟩
  | sl _ els tag b off cap sz' cv h1 h2 h3 h4 h5 =>
    have hfl : (els.flatMap AV.cells).length = els.length * sz := flat_length fun e x => (he e x).1
    have hlen : ((List.range (els.length * sz)).map cv).length = els.length * sz := by simp
    refine ⟨rfl, (List.range (els.length * sz)).map cv, ?_, hlen, ?_, ?_, ?_⟩
    · intro w' hw
      have hl : ∀ j v, ((List.range (els.length * sz)).map cv)[j]? = some v → w'.cell? ((⟨b, off, none⟩ : Addr).add j) = some v := by
        intro j v e
        simp only [List.getElem?_map, List.getElem?_range] at e
        by_cases hj : j < els.length * sz
        · simp [hj] at e
          subst e
          obtain ⟨c, E, fr, m1, m2⟩ := hm.im _ _ _ (h4 j (by omega))
          rw [Addr.add_lit, cell_of_row w' b (off + j) c E fr (by rw [hw]; exact m1)]
          exact m2
        · simp [hj] at e
      have := run_loadCells_list (P := p.prog) (w := w') ⟨b, off, none⟩ _ hl
      rw [hlen] at this
      simp only [Builtin.firstCells]
      exact this
    · intro j hj
      have := h5 j (by simpa [hfl] using hj)
      simpa [List.getD_eq_getElem?_getD, show j < els.length * sz by simpa using hj] using this
    · intro u hu
      obtain ⟨j, hj, rfl⟩ := List.mem_map.1 hu
      have hj : j < els.length * sz := by simpa using hj
      exact (h5 j (by omega)).one (ones_getD _ _ (flat_ones he) (by omega))
    · intro b' off' _ e j hj
      cases e
      have hj : j < els.length * sz := by simpa using hj
      rw [h4 j (by omega)]
      simp [hj]

theorem src_ok {av : AV} {x : Value} {new : List AV} {sz : Nat} (hm : MRel G B loc H w) (h : VR G B av x) (hs : srcOf (some av) = some new) (he : Els sz new) :
    ∃ news : List Value, (∀ w', (Builtin.lenOf x).run p.prog w' = .ok new.length w') ∧ (∀ w' : World, w'.heap = w.heap → (Builtin.firstCells sz new.length x).run p.prog w' = .ok news.toArray w') ∧
      news.length = new.length * sz ∧ (∀ j, j < news.length → VR G [] ((new.flatMap AV.cells).getD j .any) (news.getD j undef)) ∧ (∀ u ∈ news, u.oneCell' = true) := by
  unfold srcOf at hs
  split at hs
  · rename_i new' tag e
    cases hs; cases e
    obtain ⟨ao, n, cap, rfl⟩ : ∃ ao n cap, x = .slice ao n cap := by cases h <;> exact ⟨_, _, _, rfl⟩
    obtain ⟨rfl, olds, a, b, c, d, -⟩ := slice_cells (p := p) hm h he
    exact ⟨olds, fun w' => rfl, a, b, c, d⟩
  · rename_i s e
    cases hs; cases e
    cases h
    have hsz : s ≠ [] → sz = 1 := by
      intro hne
      cases s with
      | nil => exact absurd rfl hne
      | cons a s => exact ((he _ (by simp [encB]; exact .inl rfl)).1).symm
    have hlen : (encB s).length = s.length := by simp [encB]
    refine ⟨s.map fun b => .int .u8 b.toNat, fun w' => ?_, fun w' _ => ?_, ?_, ?_, ?_⟩
    · rw [hlen]; rfl
    · rw [hlen]
      have := Lib.run_firstCells_string (P := p.prog) (w := w') sz ⟨s.toArray⟩
      simpa [Lib.strCells, ByteArray.size] using this
    · by_cases c : s = []
      · subst c; simp [encB]
      · simp [hsz c, hlen]
    · intro j hj
      rw [flat_encB, getD_encB _ _ (by simpa using hj)]
      have hj : j < s.length := by simpa using hj
      simp [List.getD_eq_getElem?_getD, hj]
      exact .int _ _ _
    · intro u hu
      obtain ⟨a, _, rfl⟩ := List.mem_map.1 hu
      rfl
  · cases hs

def Gh.addAt (G : Gh) (b o : Nat) (news : List Value) : Gh := { G with im := fun k j => if k = b ∧ o ≤ j ∧ j < o + news.length then news[j - o]? else G.im k j }

def Gh.addRow (G : Gh) (b k : Nat) (cells : Array Value) (r : TypeId × Nat × Nat) : Gh :=
  { im := fun b' o => if b' = b then (if o < k then cells[o]? else none) else G.im b' o, row := fun b' => if b' = b then some r else G.row b' }

/-- A new row, of which the first k cells are written for ever and the rest is owned. -/
theorem MRel.allocRow (h : MRel G B loc H w) (cells : Array Value) (E : TypeId) (cap sz n : Nat) (hc : cells.size = cap * sz) (hn : n ≤ cap) (hm : cap ≤ maxLen) :
    MRel (G.addRow w.heap.size (n * sz) cells (E, cap, sz)) B loc (H.set w.heap.size (.tail sz n)) (w.drew.alloc (.cells cells E)) ∧
    Ext w G H B (w.drew.alloc (.cells cells E)) (G.addRow w.heap.size (n * sz) cells (E, cap, sz)) (H.set w.heap.size (.tail sz n)) B := by
  have hk : ∀ k, k < w.heap.size → (∀ o, (G.addRow w.heap.size (n * sz) cells (E, cap, sz)).im k o = G.im k o) ∧ (G.addRow w.heap.size (n * sz) cells (E, cap, sz)).row k = G.row k := fun k hk => by
    have : k ≠ w.heap.size := by omega
    simp [Gh.addRow, this]
  have key := h.later (G' := G.addRow w.heap.size (n * sz) cells (E, cap, sz)) (w' := w.drew.alloc (.cells cells E)) (by simp) (fun k hk' => ⟨heap_alloc_old w.drew _ hk', hk k hk'⟩)
    (fun b o v hb e => by
      simp only [Gh.addRow] at e
      by_cases c : b = w.heap.size
      · subst c
        rw [if_pos rfl] at e
        split at e
        · exact ⟨cells, E, (0, 0), heap_alloc_new w.drew _, e⟩
        · cases e
      · rw [if_neg c] at e; have := h.imlt e; omega)
    (fun b hb => by
      have hb : w.heap.size + 1 ≤ b := by simpa using hb
      simp only [Gh.addRow]
      rw [if_neg (by omega)]
      exact h.fresh b (by omega))
  refine ⟨key.2.addObj (nomem h) ⟨cells, E, cap, heap_alloc_new w.drew _, by simp [Gh.addRow], hc, hn, hm, fun o ho => ?_⟩, ?_⟩
  · simp only [Gh.addRow, if_true]
    rw [if_neg (by omega)]
  · exact ⟨rfl, rfl, rfl, by simp, key.1, List.prefix_refl _, fun k hk' _ _ => ⟨heap_alloc_old w.drew _ hk', (hk k hk').1⟩, fun k hk' => by
      unfold Heap.set at hk'
      by_cases c : k = w.heap.size
      · exact .inr (by omega)
      · rw [if_neg c] at hk'; exact .inl hk', fun k h => .inl h, fun k hk' => (hk k hk').2⟩

theorem flat_append_getD (a b : List AV) (j : Nat) : ((a ++ b).flatMap AV.cells).getD j .any = if j < (a.flatMap AV.cells).length then (a.flatMap AV.cells).getD j .any else (b.flatMap AV.cells).getD (j - (a.flatMap AV.cells).length) .any := by
  rw [List.flatMap_append]
  simp only [List.getD_eq_getElem?_getD]
  split
  · rename_i h; rw [List.getElem?_append_left h]
  · rename_i h; rw [List.getElem?_append_right (by omega)]

theorem Heap.set_set (H : Heap) (b : Nat) (x y : AObj) : (H.set b x).set b y = H.set b y := by
  funext k; by_cases c : k = b <;> simp [Heap.set, c]
theorem Heap.set_del (H : Heap) (b : Nat) (x : AObj) : (H.set b x).del b = H.del b := by
  funext k; by_cases c : k = b <;> simp [Heap.set, Heap.del, c]
theorem Heap.del_of_none {H : Heap} {b : Nat} (h : H b = none) : H.del b = H := by
  funext k; unfold Heap.del; split
  · rename_i e; rw [e, h]
  · rfl
theorem Heap.set_same (H : Heap) (b : Nat) (x : AObj) : H.set b x b = some x := by simp [Heap.set]
theorem Heap.set_ne (H : Heap) {b k : Nat} (x : AObj) (h : k ≠ b) : H.set b x k = H k := by simp [Heap.set, h]
theorem Heap.del_le (H : Heap) (b : Nat) : (H.del b).le H := hbase_le H (.own b)
theorem Heap.le_refl (H : Heap) : H.le H := fun _ _ h => h
theorem Heap.le.trans {a b c : Heap} (h : a.le b) (k : b.le c) : a.le c := fun x y e => k x y (h x y e)
theorem Heap.le_set {H : Heap} {b : Nat} {x : AObj} (h : H b = none) : H.le (H.set b x) := fun k y e => by
  unfold Heap.set
  by_cases c : k = b
  · subst c; rw [h] at e; cases e
  · rw [if_neg c]; exact e

set_option maxHeartbeats 1000000 in
theorem OpT.append {s x : Operand} {t u E : TypeId} {els new : List AV} {tag : Tag} {ti ei ui : TI} (hs : evo σ s = some (.sl els tag)) (hx : srcOf (evo σ x) = some new)
    (ht : p.ty t = some ti) (hk : ti.kind = .sl E) (he : p.ty E = some ei) (hu : p.ty u = some ui) (huk : isSrc ui.kind = true) (hzs : Nat.beq ei.zero.length ei.size = true) (h1 : Els ei.size els) (h2 : Els ei.size new)
    (happ : App H ei.size els.length tag) (hlen : els.length + new.length ≤ maxLen) (hby : (els.length + new.length) * ei.bytes ≤ 140737488355328)
    (hq : ∀ tag' H', App H' ei.size (els.length + new.length) tag' → hbase H' tag' = hbase H tag → Q (.sl (els ++ new) tag') loc H') :
    OpT p.prog ⟨dst, .call { callee := .builtin .append, args := #[s, x], argTypes := #[t, u] }, ty, pos, after, g⟩ (ev σ) loc H Q := by
  intro G B w ρc hr hm hcc
  obtain ⟨d, ni, z, hu', hni, hkd, hsz, hbt, hz, hz2⟩ := p.info he
  obtain ⟨d2, n2, z2, hu2, hn2, hkd2, -⟩ := p.info hu
  have hd2 : ∀ k, d2 ≠ .int k := fun k e => by subst e; rw [← hkd2] at huk; simp [tkOf, isSrc] at huk
  have htu := sl_ok ht hk
  have hres : ∀ r v w' loc' H' G' B', (Builtin.append_ #[t, u] ty #[ρc s, ρc x]).run p.prog w = .ok v w' → VR G' B' r v → MRel G' B' loc' H' w' → Ext w G H B w' G' H' B' → Q r loc' H' →
      OpRuns p.prog ⟨dst, .call { callee := .builtin .append, args := #[s, x], argTypes := #[t, u] }, ty, pos, after, g⟩ ρc w fun v w' => ∃ r loc' H' G' B', VR G' B' r v ∧ MRel G' B' loc' H' w' ∧ Ext w G H B w' G' H' B' ∧ Q r loc' H' := by
    intro r v w' loc' H' G' B' e a b c d
    unfold OpRuns
    simp only [execOp, resolve, invoke, builtin, Sem.run_bind, Sem.run_pure, Result.andThen_ok, List.map_toArray, List.map_cons, List.map_nil, e]
    exact ⟨r, loc', H', G', B', a, b, c, d⟩
  have v1 := ev_rel hr _ _ hs
  obtain ⟨av, hav⟩ : ∃ av, evo σ x = some av := by cases e : evo σ x with
    | none => rw [e] at hx; cases hx
    | some av => exact ⟨av, rfl⟩
  have v2 := ev_rel hr _ _ hav
  rw [hav] at hx
  obtain ⟨news, n1, n3, n4, n5, n6⟩ := src_ok (p := p) hm v2 hx h2
  generalize hvs : ρc s = vs at *
  obtain ⟨ao, n, cap, rfl⟩ : ∃ ao n cap, vs = .slice ao n cap := by cases v1 <;> exact ⟨_, _, _, rfl⟩
  obtain ⟨rfl, olds, o1, o2, o3, o4, o5⟩ := slice_cells (p := p) hm v1 h1
  rw [← hsz] at n3 o1
  by_cases hroom : els.length + new.length ≤ cap
  · have hrun := append_room (ty := ty) (ao := ao) htu hu2 hd2 hni n1 (n3 w rfl) hroom
    cases tag with
    | no => exact happ.elim
    | full =>
      have hcap : cap = els.length := by
        cases v1 with
        | slfull => rfl
        | sl _ _ _ b off cap sz cv h1' h2' h3' => exact h2'
      have hm0 : new = [] := List.eq_nil_of_length_eq_zero (by omega)
      subst hm0
      have hn0 : news = [] := List.eq_nil_of_length_eq_zero (by simpa using n4)
      subst hn0
      have e2 : (Builtin.append_ #[t, u] ty #[.slice ao els.length cap, ρc x]).run p.prog w = .ok (.slice ao els.length cap) w := by
        rw [hrun]
        cases ao <;> simp [storeCells]
      exact hres _ _ w loc H G B e2 v1 hm (Ext.refl _ _ _ _) (by have := hq .full H trivial rfl; simpa using this)
    | own g =>
      obtain ⟨cells, E', cap', m1, m2, m3, m4, m5, m6⟩ := hm.obj _ _ happ
      cases v1 with
      | sl _ _ _ b off _ sz' cv q1 q2 q3 q4 q5 =>
      obtain ⟨rfl, rfl, E2, sz2, q6⟩ := q2
      rw [m2] at q6
      cases q6
      have hgB : b ∉ B := fun m => by have := hm.apart b m; simp only [App] at happ; rw [happ] at this; cases this
      have hfit : els.length * ei.size + news.length ≤ cells.size := by
        rw [n4, m3, ← Nat.add_mul]; exact Nat.mul_le_mul_right _ hroom
      have hst := run_storeCells_at p.prog b (els.length * ei.size) E' news 0 cells w m1 (by omega) n6
      have e2 : (Builtin.append_ #[t, u] ty #[.slice (some ⟨b, 0, none⟩) els.length cap, ρc x]).run p.prog w = .ok (.slice (some ⟨b, 0, none⟩) (els.length + new.length) cap) (w.setRow b (spliceV cells news.toArray (els.length * ei.size))) := by
        rw [hrun]
        simp only [hsz, Addr.add_lit, Nat.zero_add, hst, Result.andThen_ok]
        rfl
      have hsb := sameBut_setRow w b (spliceV cells news.toArray (els.length * ei.size))
      have hfe : (els.flatMap AV.cells).length = els.length * ei.size := flat_length fun e x => (h1 e x).1
      have hfn : (new.flatMap AV.cells).length = new.length * ei.size := flat_length fun e x => (h2 e x).1
      have hle1 : ∀ k o v, G.im k o = some v → (G.addAt b (els.length * ei.size) news).im k o = some v := by
        intro k o v e
        simp only [Gh.addAt]
        rw [if_neg]
        · exact e
        · rintro ⟨rfl, c, _⟩
          rw [m6 o c] at e; cases e
      have hle : G.le (G.addAt b (els.length * ei.size) news) := ⟨hle1, fun _ _ e => e⟩
      have himold : ∀ j, j < els.length * ei.size → ∀ v, (G.addAt b (els.length * ei.size) news).im b j = some v ↔ G.im b j = some v := by
        intro j hj v
        simp only [Gh.addAt, true_and]
        rw [if_neg (by omega)]
      have himnew : ∀ j, j < news.length → (G.addAt b (els.length * ei.size) news).im b (els.length * ei.size + j) = news[j]? := by
        intro j hj
        simp only [Gh.addAt, true_and]
        rw [if_pos ⟨by omega, by omega⟩]
        congr 1; omega
      refine hres (.sl (els ++ new) (.own b)) _ _ loc (H.set b (.tail ei.size (els.length + new.length))) (G.addAt b (els.length * ei.size) news) B e2 ?_ ?_ ?_ (hq (.own b) _ (Heap.set_same _ _ _) (by simp only [hbase, Heap.set_del]))
      · have := VR.sl (G := G.addAt b (els.length * ei.size) news) B (els ++ new) (.own b) b 0 cap ei.size (fun j => if j < els.length * ei.size then cv j else news.getD (j - els.length * ei.size) undef)
          (fun e x => (h1.append h2 e x).1) ⟨rfl, rfl, E', ei.size, m2⟩ (by simpa using hroom) ?_ ?_
        · simpa using this
        · intro j hj
          rw [List.flatMap_append, List.length_append, hfe, hfn] at hj
          rw [Nat.zero_add]
          by_cases c : j < els.length * ei.size
          · rw [if_pos c]
            exact (himold j c _).2 (by have := q4 j (by omega); rwa [Nat.zero_add] at this)
          · rw [if_neg c]
            have := himnew (j - els.length * ei.size) (by omega)
            rw [show els.length * ei.size + (j - els.length * ei.size) = j by omega] at this
            rw [this]
            simp [show j - els.length * ei.size < news.length by omega]
        · intro j hj
          rw [List.flatMap_append, List.length_append, hfe, hfn] at hj
          rw [flat_append_getD, hfe]
          by_cases c : j < els.length * ei.size
          · rw [if_pos c, if_pos c]; exact (q5 j (by omega)).le hle
          · rw [if_neg c, if_neg c]; exact (n5 _ (by omega)).le hle
      · refine hm.touch hgB hsb.2.2.2.1 (fun k hk => ⟨hsb.2.2.2.2 k hk, fun o => ?_⟩) (fun _ => rfl) hle ?_ ?_
        · simp only [Gh.addAt]; rw [if_neg (fun c => hk c.1)]
        · intro o v e
          refine ⟨_, E', _, setRow_heap w b cells _ E' (0, 0) m1, ?_⟩
          have hsv : ∀ o, o < cells.size → (spliceV cells news.toArray (els.length * ei.size))[o]? = some ((spliceV cells news.toArray (els.length * ei.size)).getD o undef) := fun o ho => by
            have : o < (spliceV cells news.toArray (els.length * ei.size)).size := by rw [spliceV_size _ _ _ (by simpa using hfit)]; exact ho
            simp [this]
          simp only [Gh.addAt] at e
          split at e
          · rename_i c
            rw [hsv o (by omega), spliceV_getD _ _ _ _ (by simpa using hfit), if_pos (by simp; omega)]
            have : news.toArray.getD (o - els.length * ei.size) undef = v := by simp [e]
            rw [this]
          · rename_i c
            obtain ⟨c', E3, fr, k1, k2⟩ := hm.im _ _ _ e
            rw [m1] at k1
            cases k1
            have ho : o < els.length * ei.size := Nat.lt_of_not_le fun hle' => by rw [m6 o hle'] at e; cases e
            rw [hsv o (by omega), spliceV_getD _ _ _ _ (by simpa using hfit), if_neg (by omega)]
            simpa [show o < cells.size by omega] using k2
        · refine ⟨_, E', cap, setRow_heap w b cells _ E' (0, 0) m1, m2, ?_, hroom, m5, fun o ho => ?_⟩
          · rw [spliceV_size _ _ _ (by simpa using hfit)]; exact m3
          · simp only [Gh.addAt]
            rw [Nat.add_mul, ← n4] at ho
            rw [if_neg (by omega)]
            exact m6 o (by omega)
      · have := hsb.extH (G := G) (H := H) (B := B) (x := .tail ei.size (els.length + new.length)) (by simp only [App] at happ; rw [happ]; simp)
        refine { this with le := hle, heap := fun k a b' c => ⟨(this.heap k a b' c).1, fun o => ?_⟩ }
        simp only [Gh.addAt]
        rw [if_neg]
        rintro ⟨rfl, -⟩
        simp only [App] at happ; rw [happ] at b'; cases b'
  · have hby' : (els.length + new.length) * ni.bytes ≤ 140737488355328 := by rw [hbt]; exact hby
    have hrun := append_grow (ty := ty) (ao := ao) htu hu2 hd2 hni hz n1 (n3 w.drew rfl) (o1 w.drew rfl) (by omega) hlen hby'
    have hcapge := grownCap_ge w (els.length + new.length) cap E
    have hcaple := grownCap_le_maxLen w (els.length + new.length) cap E hlen
    have hsize : (olds.toArray ++ news.toArray ++ Builtin.zeroCells z.cells (grownCap w (els.length + new.length) cap E - (els.length + new.length))).size = grownCap w (els.length + new.length) cap E * ei.size := by
      have hzs : z.cells.size = ei.size := by
        have := Nat.eq_of_beq_eq_true hzs
        rw [hz2] at this
        simpa using this
      simp only [Array.size_append, List.size_toArray, size_zeroCells, hzs, o2, n4, ← Nat.add_mul]
      congr 1
      omega
    generalize hcells : (olds.toArray ++ news.toArray ++ Builtin.zeroCells z.cells (grownCap w (els.length + new.length) cap E - (els.length + new.length))) = cells at *
    generalize grownCap w (els.length + new.length) cap E = cap' at *
    obtain ⟨r1, r2⟩ := hm.allocRow cells E cap' ei.size (els.length + new.length) hsize hcapge hcaple
    have hfe : (els.flatMap AV.cells).length = els.length * ei.size := flat_length fun e x => (h1 e x).1
    have hfn : (new.flatMap AV.cells).length = new.length * ei.size := flat_length fun e x => (h2 e x).1
    have hcell : ∀ j, j < (els.length + new.length) * ei.size → cells[j]? = some (if j < els.length * ei.size then olds.getD j undef else news.getD (j - els.length * ei.size) undef) := by
      intro j hj
      rw [Nat.add_mul] at hj
      rw [← hcells, Array.append_assoc]
      by_cases c : j < els.length * ei.size
      · rw [if_pos c, Array.getElem?_append_left (by simpa [o2] using c)]
        simp [show j < olds.length by omega]
      · rw [if_neg c, Array.getElem?_append_right (by simp; omega), Array.getElem?_append_left (by simp; omega)]
        simp [o2, show j - els.length * ei.size < news.length by omega]
    have hvr : VR (G.addRow w.heap.size ((els.length + new.length) * ei.size) cells (E, cap', ei.size)) B (.sl (els ++ new) (.own w.heap.size)) (.slice (some ⟨w.heap.size, 0, none⟩) (els.length + new.length) cap') := by
      have := VR.sl (G := G.addRow w.heap.size ((els.length + new.length) * ei.size) cells (E, cap', ei.size)) B (els ++ new) (.own w.heap.size) w.heap.size 0 cap' ei.size
        (fun j => if j < els.length * ei.size then olds.getD j undef else news.getD (j - els.length * ei.size) undef)
        (fun e x => (h1.append h2 e x).1) ⟨rfl, rfl, E, ei.size, by simp [Gh.addRow]⟩ (by simpa using hcapge) ?_ ?_
      · simpa using this
      · intro j hj
        rw [List.flatMap_append, List.length_append, hfe, hfn, ← Nat.add_mul] at hj
        simp only [Gh.addRow, if_true, Nat.zero_add]
        rw [if_pos hj, hcell j hj]
      · intro j hj
        rw [List.flatMap_append, List.length_append, hfe, hfn] at hj
        rw [flat_append_getD, hfe]
        by_cases c : j < els.length * ei.size
        · rw [if_pos c, if_pos c]; exact (o3 j (by omega)).le r2.le
        · rw [if_neg c, if_neg c]; exact (n5 _ (by omega)).le r2.le
    have hb0 := Hnone hm
    cases tag with
    | no => exact happ.elim
    | full => exact hres _ _ _ _ _ _ B hrun hvr r1 r2 (hq (.own w.heap.size) _ (Heap.set_same _ _ _) (by simp only [hbase, Heap.set_del, Heap.del_of_none hb0]))
    | own g =>
      simp only [App] at happ
      have hlt := (hm.obj _ _ happ).lt
      have hl : ((H.del g).set w.heap.size (.tail ei.size (els.length + new.length))).le (H.set w.heap.size (.tail ei.size (els.length + new.length))) := by
        intro k x e
        by_cases c : k = w.heap.size
        · subst c; rw [Heap.set_same] at e ⊢; exact e
        · rw [Heap.set_ne _ _ c] at e ⊢; exact Heap.del_le _ _ _ _ e
      refine hres _ _ _ _ _ _ B hrun hvr (r1.less hl) (r2.less hl) (hq (.own w.heap.size) _ (Heap.set_same _ _ _) ?_)
      have hd : (H.del g) w.heap.size = none := by simp [Heap.del, hb0]
      simp only [hbase, Heap.set_del, Heap.del_of_none hd]

theorem AOps.append {s x : Operand} {t u E : TypeId} {els new : List AV} {tag : Tag} {ti ei ui : TI} {d : Tmp} (hs : evo σ s = some (.sl els tag)) (hx : srcOf (evo σ x) = some new)
    (ht : p.ty t = some ti) (hk : ti.kind = .sl E) (he : p.ty E = some ei) (hu : p.ty u = some ui) (huk : isSrc ui.kind = true) (hzs : Nat.beq ei.zero.length ei.size = true) (hd : Nat.blt d N = true)
    (h1 : Els ei.size els) (h2 : Els ei.size new)
    (happ : App H ei.size els.length tag) (hlen : els.length + new.length ≤ maxLen) (hby : (els.length + new.length) * ei.bytes ≤ 140737488355328)
    (hq : ∀ tag' H', App H' ei.size (els.length + new.length) tag' → hbase H' tag' = hbase H tag → AOps ro p.prog N ops rest ((d, .sl (els ++ new) tag') :: σ) loc H' K) :
    AOps ro p.prog N ops (⟨some d, .call { callee := .builtin .append, args := #[s, x], argTypes := #[t, u] }, ty, pos, after, none⟩ :: rest) σ loc H K :=
  AOps.step rfl hd (OpT.append hs hx ht hk he hu huk hzs h1 h2 happ hlen hby hq)

/-- The same, in a smaller heap. -/
theorem AOps.append' {s x : Operand} {t u E : TypeId} {els new : List AV} {tag : Tag} {ti ei ui : TI} {d : Tmp} (H0 : Heap) (hH : H0.le H) (hs : evo σ s = some (.sl els tag)) (hx : srcOf (evo σ x) = some new)
    (ht : p.ty t = some ti) (hk : ti.kind = .sl E) (he : p.ty E = some ei) (hu : p.ty u = some ui) (huk : isSrc ui.kind = true) (hzs : Nat.beq ei.zero.length ei.size = true) (hd : Nat.blt d N = true)
    (h1 : Els ei.size els) (h2 : Els ei.size new)
    (happ : App H0 ei.size els.length tag) (hlen : els.length + new.length ≤ maxLen) (hby : (els.length + new.length) * ei.bytes ≤ 140737488355328)
    (hq : ∀ tag' H', App H' ei.size (els.length + new.length) tag' → hbase H' tag' = hbase H0 tag → AOps ro p.prog N ops rest ((d, .sl (els ++ new) tag') :: σ) loc H' K) :
    AOps ro p.prog N ops (⟨some d, .call { callee := .builtin .append, args := #[s, x], argTypes := #[t, u] }, ty, pos, after, none⟩ :: rest) σ loc H K :=
  fun b Q G B a w hs' he' => AOps.append hs hx ht hk he hu huk hzs hd h1 h2 happ hlen hby hq b Q G B a w ⟨hs'.size, hs'.fr, hs'.mem.less hH⟩ (he'.less hH)

end

end Go.Am

/- Slices written out, indexed and cut; bytes and strings. -/
set_option linter.unusedVariables false
set_option linter.unusedSimpArgs false
namespace Go.Am
open Go

def chunks (ag : Bool) (sz : Nat) : Nat → List AV → List AV
  | 0, _ => []
  | n + 1, l => (bif ag then .agg (l.take sz) else l.headD .any) :: chunks ag sz n (l.drop sz)

theorem chunks_length (ag : Bool) (sz : Nat) : ∀ (n : Nat) (l : List AV), (chunks ag sz n l).length = n
  | 0, _ => rfl
  | n + 1, l => by simp [chunks, chunks_length ag sz n]

theorem one_self {v : AV} (h : v.one = true) : v.cells = [v] := by cases v <;> first | rfl | simp [AV.one] at h

theorem ones_take : ∀ (l : List AV) (n : Nat), AV.ones l = true → AV.ones (l.take n) = true
  | _, 0, _ => rfl
  | [], n + 1, _ => rfl
  | v :: r, n + 1, h => by simp [AV.ones] at h ⊢; exact ⟨h.1, ones_take r n h.2⟩
theorem ones_drop : ∀ (l : List AV) (n : Nat), AV.ones l = true → AV.ones (l.drop n) = true
  | _, 0, h => h
  | [], n + 1, _ => rfl
  | v :: r, n + 1, h => by simp [AV.ones] at h ⊢; exact ones_drop r n h.2

theorem chunks_ok (ag : Bool) (sz : Nat) (hs : ag = true ∨ sz = 1) : ∀ (n : Nat) (l : List AV), l.length = n * sz → AV.ones l = true →
    (chunks ag sz n l).flatMap AV.cells = l ∧ Els sz (chunks ag sz n l)
  | 0, l, h, _ => by
    have : l = [] := List.eq_nil_of_length_eq_zero (by simpa using h)
    subst this; exact ⟨rfl, Els.nil _⟩
  | n + 1, l, h, ho => by
    have hd : (l.drop sz).length = n * sz := by rw [List.length_drop, h, Nat.add_mul]; omega
    obtain ⟨a, b⟩ := chunks_ok ag sz hs n (l.drop sz) hd (ones_drop _ _ ho)
    have hl : sz ≤ l.length := by rw [h, Nat.add_mul]; omega
    have hc : (bif ag then AV.agg (l.take sz) else l.headD .any).cells = l.take sz := by
      cases ag with
      | true => rfl
      | false =>
        obtain rfl : sz = 1 := by simpa using hs
        match l, hl, ho with
        | v :: r, _, ho =>
          simp [AV.ones] at ho
          simp [one_self ho.1]
    refine ⟨?_, fun e he => ?_⟩
    · simp only [chunks, List.flatMap_cons, hc, a, List.take_append_drop]
    · simp only [chunks, List.mem_cons] at he
      rcases he with rfl | he
      · rw [hc]; exact ⟨by simp; omega, ones_take _ _ ho⟩
      · exact b e he

def aslice (p : Pr) (T : TypeId) (n : Nat) (vs : List (Nat × AV)) : Option (List AV) :=
  match p.ty T with
  | some ti => match ti.kind with
    | .sl e => match p.ty e with
      | some ei =>
        if Nat.ble (n * ei.size) 16777216 && (ei.kind.isAgg || Nat.beq ei.size 1) then
          match fillA (fun k => some (k * ei.size, ei.size)) (List.replicate (n * ei.size) .any) vs with
          | some flat => if AV.ones flat && AV.frees flat then forceL (chunks ei.kind.isAgg ei.size n flat) some else none
          | none => none
        else none
      | none => none
    | _ => none
  | none => none

section
variable {ro : Option Nat} {p : Pr} {N : Nat} {ops : Array Oper} {rest : List Oper} {σ : Frame} {loc : Loc} {H : Heap} {K : Kont} {ty : TypeId} {pos : String} {after : Array Edge} {g : Option (Nat × Bool)}
  {dst : Option Tmp} {Q : AV → Loc → Heap → Prop}

theorem OpT.buildSlice {T : TypeId} {n : Nat} {ps : Array (Nat × Operand)} {vs : List (Nat × AV)} {els : List AV} (hv : parts (evo σ) ps.toList = some vs) (hs : aslice p T n vs = some els)
    (hq : Q (.sl els .full) loc H) : OpT p.prog ⟨dst, .buildSlice T n ps, ty, pos, after, g⟩ (ev σ) loc H Q := by
  intro G B w ρc h1 h2 hcc
  unfold aslice at hs
  split at hs
  · rename_i ti ht
    split at hs
    · rename_i e hk
      split at hs
      · rename_i ei he
        split at hs
        · rename_i hb
          simp only [Bool.and_eq_true, Bool.or_eq_true] at hb
          have hb1 := Nat.le_of_ble_eq_true hb.1
          have hb2 : ei.kind.isAgg = true ∨ ei.size = 1 := hb.2.imp id Nat.eq_of_beq_eq_true
          split at hs
          · rename_i flat hf
            split at hs
            · rename_i hc
              simp only [Bool.and_eq_true] at hc
              rw [forceL_eq] at hs
              cases hs
              obtain ⟨a, b⟩ := parts_rel (ev_rel h1) ps.toList vs hv
              obtain ⟨z, hz, hzl, hzr⟩ := run_zeroValue (p := p) (G := G) (B := B) (w := w) he
              obtain ⟨za, hza⟩ : ∃ za : Array Value, za = (if n * ei.size = 0 then #[] else z.cells) := ⟨_, rfl⟩
              obtain ⟨cells', g1, g2, g3, g4⟩ := fill_run (G := G) (B := B) (place' := fun k => some (k * ei.size, ei.size)) (fun k x e => e) vs (ps.map fun (i, x) => (i, ρc x)).toList (List.replicate (n * ei.size) .any)
                ((Array.range (n * ei.size)).map (za[· % za.size]!)) flat (by simpa using a) (fun i hi => by have := b i hi; simpa using this) (by simp) (fun k hk => by
                  have : (List.replicate (n * ei.size) AV.any).getD k .any = .any := by simp [List.getD_eq_getElem?_getD, List.getElem?_replicate]; split <;> rfl
                  rw [this]; exact .any _ _) hf
              have hrun : (Instr.buildSlice T n (ps.map fun (i, x) => (i, ρc x))).run p.prog w = .ok (.slice (some ⟨w.heap.size, 0, none⟩) n n) (w.alloc (.cells cells' e)) := by
                unfold Instr.buildSlice
                simp only [Sem.run_bind, run_underlying (sl_ok ht hk), Result.andThen_ok, run_sizeOf he]
                rw [if_neg (show ¬ n * ei.size > 2 ^ 24 by omega)]
                by_cases c : n * ei.size = 0
                · rw [if_pos c] at hza
                  subst hza
                  rw [if_pos c]
                  simp only [Sem.run_bind, Result.andThen_ok, g1, newRow, run_newObj, Sem.run_pure, Sem.run_map]
                  rfl
                · rw [if_neg c] at hza
                  subst hza
                  rw [if_neg c]
                  simp only [Sem.run_bind, hz, Result.andThen_ok, g1, newRow, run_newObj, Sem.run_pure, Sem.run_map]
                  rfl
              obtain ⟨k1, k2⟩ := h2.allocIm cells' e
              have hfl : flat.length = n * ei.size := by rw [g2, g3]; simp
              obtain ⟨c1, c2⟩ := chunks_ok ei.kind.isAgg ei.size hb2 n flat hfl hc.1
              unfold OpRuns
              simp only [execOp, Sem.run_bind, hrun, Result.andThen_ok, Sem.run_pure]
              refine ⟨_, loc, H, _, B, ?_, k1, k2, hq⟩
              have hn : n = (chunks ei.kind.isAgg ei.size n flat).length := (chunks_length _ _ _ _).symm
              have := VR.sl (G := G.addIm w.heap.size cells') B (chunks ei.kind.isAgg ei.size n flat) .full w.heap.size 0 (chunks ei.kind.isAgg ei.size n flat).length ei.size (fun j => cells'.getD j undef)
                (fun e x => (c2 e x).1) rfl (Nat.le_refl _) ?_ ?_
              · rw [← hn] at this; exact this
              · intro j hj
                rw [c1, g2] at hj
                simp [Gh.addIm, hj]
              · intro j hj
                rw [c1] at hj ⊢
                exact ((g4 j hj).down (frees_getD _ _ hc.2)).le k2.le
            · cases hs
          · cases hs
        · cases hs
      · cases hs
    · cases hs
  · cases hs

theorem AOps.buildSlice {T : TypeId} {n : Nat} {ps : Array (Nat × Operand)} {vs : List (Nat × AV)} {els : List AV} {d : Tmp} (hv : parts (evo σ) ps.toList = some vs) (hs : aslice p T n vs = some els)
    (hd : Nat.blt d N = true) (hk : AOps ro p.prog N ops rest ((d, .sl els .full) :: σ) loc H K) : AOps ro p.prog N ops (⟨some d, .buildSlice T n ps, ty, pos, after, none⟩ :: rest) σ loc H K :=
  AOps.step rfl hd (OpT.buildSlice hv hs hk)

/-- The address of a slice's element. -/
theorem OpT.indexSl {T E : TypeId} {x ix : Operand} {els cs : List AV} {tag : Tag} {k : IntKind} {i : Int} {e : AV} {ti ei : TI} (hx : evo σ x = some (.sl els tag)) (hi : evo σ ix = some (.int k i))
    (ht : p.ty T = some ti) (hk : ti.kind = .sl E) (hE : p.ty E = some ei) (h0 : 0 ≤ i) (he : els[i.toNat]? = some e) (hc : forceL e.cells some = some cs) (hs : cs.length = ei.size)
    (hq : Q (.iptr cs) loc H) : OpT p.prog ⟨dst, .indexAddr T x ix, ty, pos, after, g⟩ (ev σ) loc H Q := by
  rw [forceL_eq] at hc
  cases hc
  refine OpT.pure _ (fun G B w ρc h1 h2 => ?_) hq
  have e1 := ev_rel h1 _ _ hx
  have e2 := ev_rel h1 _ _ hi
  generalize hcx : ρc x = vx at *
  generalize hci : ρc ix = vi at *
  cases e2
  have hlt : i.toNat < els.length := (List.getElem?_eq_some_iff.1 he).1
  cases e1 with
  | slempty => simp at hlt
  | slfull => simp at hlt
  | sl _ _ _ b off cap sz cv q1 q2 q3 q4 q5 =>
  have hmem : e ∈ els := List.mem_of_getElem? he
  have hsz : sz = ei.size := (q1 e hmem).symm.trans hs
  subst hsz
  refine ⟨.pointer (some ⟨b, off + i.toNat * ei.size, none⟩), ?_, ?_⟩
  · simp only [execOp, hcx, hci, Instr.indexAt, asIntOf, Sem.run_bind, Sem.run_pure, run_underlying (sl_ok ht hk), Result.andThen_ok]
    rw [if_pos ⟨h0, by omega⟩]
    simp only [Sem.run_bind, run_sizeOf hE, Result.andThen_ok, Sem.run_pure, Addr.add_lit]
  · have hfl : ∀ j, j < e.cells.length → (els.flatMap AV.cells)[i.toNat * ei.size + j]? = e.cells[j]? := by
      have gen : ∀ (l : List AV) (n : Nat), (∀ x ∈ l, x.cells.length = ei.size) → l[n]? = some e → ∀ j, j < e.cells.length → (l.flatMap AV.cells)[n * ei.size + j]? = e.cells[j]? := by
        intro l
        induction l with
        | nil => intro n _ h; simp at h
        | cons a l ih =>
          intro n hl h j hj
          cases n with
          | zero =>
            simp at h; subst h
            simp [List.getElem?_append_left hj]
          | succ n =>
            have := ih n (fun x hx => hl x (by simp [hx])) (by simpa using h) j hj
            rw [List.flatMap_cons, List.getElem?_append_right (by rw [hl a (by simp), Nat.add_mul]; omega), hl a (by simp)]
            rw [← this]; congr 1; rw [Nat.add_mul]; omega
      exact gen els i.toNat q1 he
    have hlen : (els.flatMap AV.cells).length = els.length * ei.size := flat_length q1
    have hbd : ∀ j, j < e.cells.length → i.toNat * ei.size + j < (els.flatMap AV.cells).length := fun j hj => by
      have := hfl j hj
      rw [List.getElem?_eq_getElem hj] at this
      exact (List.getElem?_eq_some_iff.1 this).1
    refine .iptr _ _ _ _ (fun j => cv (i.toNat * ei.size + j)) (fun j hj => ?_) (fun j hj => ?_)
    · have := q4 _ (hbd j hj)
      rwa [← Nat.add_assoc] at this
    · have := q5 _ (hbd j hj)
      have e3 : (els.flatMap AV.cells).getD (i.toNat * ei.size + j) .any = e.cells.getD j .any := by simp [List.getD_eq_getElem?_getD, hfl j hj]
      rwa [e3] at this

theorem AOps.indexSl {T E : TypeId} {x ix : Operand} {els cs : List AV} {tag : Tag} {k : IntKind} {i : Int} {e : AV} {ti ei : TI} {d : Tmp} (hx : evo σ x = some (.sl els tag)) (hi : evo σ ix = some (.int k i))
    (ht : p.ty T = some ti) (hk : ti.kind = .sl E) (hE : p.ty E = some ei) (hd : Nat.blt d N = true) (h0 : 0 ≤ i) (he : els[i.toNat]? = some e) (hc : forceL e.cells some = some cs) (hs : cs.length = ei.size)
    (hq : AOps ro p.prog N ops rest ((d, .iptr cs) :: σ) loc H K) : AOps ro p.prog N ops (⟨some d, .indexAddr T x ix, ty, pos, after, none⟩ :: rest) σ loc H K :=
  AOps.step rfl hd (OpT.indexSl hx hi ht hk hE h0 he hc hs hq)

end
end Go.Am

/- Guarded operations: a && b, a || b. -/
set_option linter.unusedVariables false
set_option linter.unusedSimpArgs false
namespace Go.Am
open Go

def dsts : List Oper → List Nat
  | [] => []
  | o :: r => match o.dst with
    | some d => d :: dsts r
    | none => dsts r

def memN (l : List Nat) (k : Nat) : Bool :=
  match l with
  | [] => false
  | a :: r => bif Nat.beq a k then true else memN r k

theorem memN_iff (l : List Nat) (k : Nat) : memN l k = true ↔ k ∈ l := by
  induction l with
  | nil => simp [memN]
  | cons a r ih =>
    simp only [memN]
    by_cases h : a = k
    · subst h; simp
    · simp [nbeq_ne h, ih, Ne.symm h]

/-- Are all of these guarded by operation j's answer, or by one that is passed over with them? -/
def skipOk (ops : Array Oper) (j : Nat) (want : Bool) : List Oper → List Nat → Bool
  | [], _ => true
  | o :: r, acc => match o.guard with
    | some (i, w) => (bif Nat.beq i j then (w == want) else (match (ops[i]?).bind (·.dst) with | some d => memN acc d | none => false)) &&
      skipOk ops j want r (match o.dst with | some d => d :: acc | none => acc)
    | none => false

/-- None of these slots is in the frame. -/
def cleanOf (σ : Frame) (ds : List Nat) : Bool :=
  match σ with
  | [] => true
  | (k, _) :: r => !(memN ds k) && cleanOf r ds

theorem cleanOf_look {ds : List Nat} : ∀ {σ : Frame} {t : Nat} {v : AV}, cleanOf σ ds = true → flook σ t = some v → t ∉ ds
  | (k, u) :: r, t, v, h, e => by
    simp only [cleanOf, Bool.and_eq_true, Bool.not_eq_true'] at h
    simp only [flook] at e
    by_cases c : k = t
    · subst c
      intro m
      rw [(memN_iff ds k).2 m] at h
      cases h.1
    · rw [nbeq_ne c] at e
      exact cleanOf_look h.2 e

def keysIn (ds : List Nat) : Frame → Bool
  | [] => true
  | (k, _) :: r => memN ds k && keysIn ds r

theorem keysIn_look {ds : List Nat} : ∀ {σ : Frame} {t : Nat} {v : AV}, keysIn ds σ = true → flook σ t = some v → t ∈ ds
  | (k, u) :: r, t, v, h, e => by
    simp only [keysIn, Bool.and_eq_true] at h
    simp only [flook] at e
    by_cases c : k = t
    · subst c; exact (memN_iff ds k).1 h.1
    · rw [nbeq_ne c] at e
      exact keysIn_look h.2 e

theorem flook_append : ∀ (a b : Frame) (t : Nat), flook (a ++ b) t = (flook a t).or (flook b t)
  | [], b, t => by simp [flook]
  | (k, v) :: a, b, t => by
    simp only [List.cons_append, flook]
    cases Nat.beq k t
    · simpa using flook_append a b t
    · simp

section
variable {ro : Option Nat} {P : Program} {p : Pr} {N : Nat} {ops : Array Oper} {rest : List Oper} {σ : Frame} {loc : Loc} {H : Heap} {K : Kont} {ty : TypeId} {pos : String} {after : Array Edge}

theorem yields {G B a w} (hs : SRel N G B σ loc H a w) {j d : Nat} {b : Bool} (hj : (ops[j]?).bind (·.dst) = some d) (hb : flook σ d = some (.bool b)) : yielded ops a.tmps j = some b := by
  have hv := hs.fr d
  have hd' : fget σ d = .bool b := by simp [fget, hb]
  rw [hd'] at hv
  have hd2 : a.tmps[d]? = some (.bool b) := by
    rw [Array.getD_eq_getD_getElem?] at hv
    cases e : a.tmps[d]? with
    | none => rw [e] at hv; simp [undef] at hv; cases hv
    | some v => rw [e] at hv; simp at hv; cases hv; rfl
  simp [yielded, hj, hd2]

theorem yields_undef {G B a w} (hs : SRel N G B σ loc H a w) {j d : Nat} (hj : (ops[j]?).bind (·.dst) = some d) (hb : flook σ d = some (.tuple [])) : yielded ops a.tmps j = none := by
  have hv := hs.fr d
  have hd' : fget σ d = .tuple [] := by simp [fget, hb]
  rw [hd', Array.getD_eq_getD_getElem?] at hv
  cases e : a.tmps[d]? with
  | none => simp [yielded, hj, e]
  | some v =>
    rw [e] at hv
    simp at hv
    cases hv
    simp [yielded, hj, e]

/-- A guarded operation that is wanted goes as any other. -/
theorem AOps.unguard {dst : Option Tmp} {op : Op} {j d : Nat} {want b : Bool} (hj : (ops[j]?).bind (·.dst) = some d) (hb : flook σ d = some (.bool b)) (e : b = want)
    (h : AOps ro P N ops (⟨dst, op, ty, pos, after, none⟩ :: rest) σ loc H K) : AOps ro P N ops (⟨dst, op, ty, pos, after, some (j, want)⟩ :: rest) σ loc H K := by
  intro bb Q G B a w hs he hq
  have := h bb Q G B a w hs he hq
  have hy := yields (ops := ops) hs hj hb
  unfold wpListIn at this ⊢
  rw [if_pos (by simp [Region.wanted])] at this
  rw [if_pos (by simp [Region.wanted, hy, e])]
  exact this

/-- A guarded operation that is not wanted. -/
theorem AOps.skip {dst : Option Tmp} {op : Op} {j d : Nat} {want b : Bool} (hj : (ops[j]?).bind (·.dst) = some d) (hb : flook σ d = some (.bool b)) (e : b = !want) (hd : dstOk N dst = true)
    (h : AOps ro P N ops rest (fput σ dst (.tuple [])) loc H K) : AOps ro P N ops (⟨dst, op, ty, pos, after, some (j, want)⟩ :: rest) σ loc H K := by
  intro bb Q G B a w hs he hq
  have hy := yields (ops := ops) hs hj hb
  unfold wpListIn
  rw [if_neg (by simp [Region.wanted, hy, e])]
  refine ⟨fun _ _ => trivial, h bb Q G B _ w ⟨?_, ?_, hs.mem⟩ (he.put _ _) hq⟩
  · cases dst <;> simp [Act.put, hs.size]
  · exact hs.fr.put (by rw [hs.size]; exact hd) (.tuple _ _ _ rfl (fun i hi => absurd hi (by simp)))

def dstsOk (N : Nat) : List Oper → Bool
  | [] => true
  | o :: r => dstOk N o.dst && dstsOk N r

theorem AOps.skips {j d : Nat} {want b : Bool} (hj : (ops[j]?).bind (·.dst) = some d) (e : b = !want) : ∀ (l : List Oper) (acc : List Nat) (σ : Frame),
    (∀ k, k ∈ acc → flook σ k = some (.tuple [])) → flook σ d = some (.bool b) → skipOk ops j want l acc = true → dstsOk N l = true → (¬ d ∈ dsts l) →
    (∀ junk : Frame, keysIn (dsts l) junk = true → AOps ro P N ops rest (junk ++ σ) loc H K) → AOps ro P N ops (l ++ rest) σ loc H K := by
  intro l
  induction l with
  | nil => intro acc σ _ _ _ _ _ hk; exact hk [] rfl
  | cons o l ih =>
    intro acc σ hacc hd hs hN hnd hk
    obtain ⟨dst, op, ty, pos, after, guard⟩ := o
    simp only [skipOk] at hs
    simp only [dstsOk, Bool.and_eq_true] at hN
    cases guard with
    | none => cases hs
    | some g =>
      obtain ⟨i, w⟩ := g
      simp only [Bool.and_eq_true] at hs
      obtain ⟨hs1, hs2⟩ := hs
      have next : AOps ro P N ops (l ++ rest) (fput σ dst (.tuple [])) loc H K := by
        refine ih _ _ ?_ ?_ hs2 hN.2 ?_ ?_
        · intro k hk'
          cases dst with
          | none => exact hacc k hk'
          | some t =>
            simp only [fput, flook]
            by_cases c : t = k
            · subst c; simp
            · rw [nbeq_ne c]
              rcases List.mem_cons.1 hk' with c' | c'
              · exact absurd c'.symm c
              · exact hacc k c'
        · cases dst with
          | none => exact hd
          | some t =>
            have : t ≠ d := fun c => hnd (by simp [dsts, c])
            simp only [fput, flook, nbeq_ne this]; exact hd
        · intro m; apply hnd; cases dst <;> simp [dsts, m]
        · intro junk hj'
          cases dst with
          | none => exact hk junk hj'
          | some t =>
            have hin : keysIn (dsts (⟨some t, op, ty, pos, after, some (i, w)⟩ :: l)) (junk ++ [(t, .tuple [])]) = true := by
              have app : ∀ (ds : List Nat) (a b : Frame), keysIn ds a = true → keysIn ds b = true → keysIn ds (a ++ b) = true := by
                intro ds a b ha hb
                induction a with
                | nil => exact hb
                | cons x a ih => obtain ⟨k, v⟩ := x; simp only [List.cons_append, keysIn, Bool.and_eq_true] at ha ⊢; exact ⟨ha.1, ih ha.2⟩
              have up : ∀ (ds : List Nat) (x : Nat) (a : Frame), keysIn ds a = true → keysIn (x :: ds) a = true := by
                intro ds x a ha
                induction a with
                | nil => rfl
                | cons y a ih => obtain ⟨k, v⟩ := y; simp only [keysIn, Bool.and_eq_true] at ha ⊢; exact ⟨(memN_iff _ _).2 (by simp [(memN_iff _ _).1 ha.1]), ih ha.2⟩
              exact app _ _ _ (up _ _ _ hj') (by simp [keysIn, dsts, memN])
            have := hk _ hin
            simpa [fput] using this
      by_cases c : i = j
      · subst c
        have hw : w = want := by simpa using hs1
        subst hw
        exact AOps.skip hj hd e hN.1 next
      · rw [nbeq_ne c] at hs1
        simp only [cond_false] at hs1
        cases hd2 : (ops[i]?).bind (·.dst) with
        | none => rw [hd2] at hs1; cases hs1
        | some d2 =>
          rw [hd2] at hs1
          have hu := hacc d2 ((memN_iff _ _).1 hs1)
          intro bb Q G B a w' hs' he hq
          have hy := yields_undef (ops := ops) hs' hd2 hu
          show wpListIn (FW ro) 0 P ops Q (⟨dst, op, ty, pos, after, some (i, w)⟩ :: (l ++ rest)) a w'
          unfold wpListIn
          rw [if_neg (by simp [Region.wanted, hy])]
          refine ⟨fun _ _ => trivial, next bb Q G B _ w' ⟨?_, ?_, hs'.mem⟩ (he.put _ _) hq⟩
          · cases dst <;> simp [Act.put, hs'.size]
          · exact hs'.fr.put (by rw [hs'.size]; exact hN.1) (.tuple _ _ _ rfl (fun i hi => absurd hi (by simp)))

theorem AOps.less {σ' : Frame} {rest : List Oper} (hσ : ∀ t v, flook σ' t = some v → flook σ t = some v) (h : AOps ro P N ops rest σ' loc H K) : AOps ro P N ops rest σ loc H K :=
  fun b Q G B a w hs he hq => h b Q G B a w ⟨hs.size, hs.fr.less hσ, hs.mem⟩ he hq

/-- Operations one behind the other. -/
theorem AOps.cat {l : List Oper} (h : AOps ro P N ops l σ loc H (fun σ l H => AOps ro P N ops rest σ l H K)) : AOps ro P N ops (l ++ rest) σ loc H K := by
  intro b Q G B a w hs he hq
  have gen : ∀ (l : List Oper) (R : Act → World → Prop) a w, wpListIn (FW ro) 0 P ops (fun e a w => match e with | .normal => wpListIn (FW ro) 0 P ops Q rest a w | e => Q e a w) l a w → wpListIn (FW ro) 0 P ops Q (l ++ rest) a w := by
    intro l
    induction l with
    | nil => intro R a w h; exact h
    | cons o l ih =>
      intro R a w h
      show wpListIn (FW ro) 0 P ops Q (o :: (l ++ rest)) a w
      unfold wpListIn at h ⊢
      split
      · rename_i hw
        rw [if_pos hw] at h
        have key : ∀ (K K' : Act → World → Prop) (Q Q' : Exit → Act → World → Prop), (∀ a w, K a w → K' a w) → (∀ e a w, e ≠ .normal → Q e a w → Q' e a w) → o.wpIn (FW ro) 0 P a w K Q → o.wpIn (FW ro) 0 P a w K' Q' := by
          intro K K' Q Q' h1 h2 h
          unfold Oper.wpIn at *
          refine ⟨h.1, ?_⟩
          have h := h.2
          generalize (o.semAt _ a.eval).run P w = r at *
          cases r with
          | ok n w' =>
            cases n <;> simp only [Oper.uponIn] at h ⊢ <;>
              first
                | exact h1 _ _ h
                | exact ⟨h.1, CallsIn.mono h.2 (fun e w'' he => by cases e <;> first | exact h1 _ _ he | exact h2 _ _ _ (by simp) he | exact (let ⟨a, w, q⟩ := he; ⟨a, w, h2 _ _ _ (by simp) q⟩))⟩
                | exact ⟨h.1, RoundIn.mono h.2 (fun e w'' he => by cases e <;> first | exact h1 _ _ he | exact h2 _ _ _ (by simp) he | exact (let ⟨a, w, q⟩ := he; ⟨a, w, h2 _ _ _ (by simp) q⟩))⟩
                | exact ⟨h.1, RowsIn.mono h.2 (fun _ _ he => h1 _ _ he)⟩
          | halt x w' => cases x <;> simp only [Oper.uponIn] at h ⊢ <;> first | exact h | exact h2 _ _ _ (by simp) h
        refine key _ _ _ _ (fun a w hh => ih R a w hh) (fun e a w hne hh => ?_) h
        cases e <;> first | exact absurd rfl hne | exact hh
      · rename_i hw
        rw [if_neg hw] at h
        exact ⟨h.1, ih R _ _ h.2⟩
  refine gen l (fun _ _ => True) a w (h b _ G B a w hs he ?_)
  intro a' w' ⟨σ', l', H', G', B', h1, h2, h3⟩
  exact h3 b Q G' B' a' w' h1 h2 hq
/-- What a run of guarded operations leaves for the pick behind it: only slots of its own, among them t. -/
def GuardEnd (ds : List Nat) (σ : Frame) (loc : Loc) (H : Heap) (t : Nat) (y : Bool) : Kont := fun σ' loc' H' =>
  loc' = loc ∧ H' = H ∧ ∃ junk, σ' = junk ++ σ ∧ keysIn ds junk = true ∧ flook junk t = some (.bool y)

theorem GuardEnd.of {ds : List Nat} {σ σ' : Frame} {loc loc' : Loc} {H H' : Heap} {t : Nat} {y : Bool} (k : Nat) (h1 : loc' = loc) (h2 : H' = H) (h3 : σ'.drop k = σ) (h4 : keysIn ds (σ'.take k) = true)
    (h5 : flook (σ'.take k) t = some (.bool y)) : GuardEnd ds σ loc H t y σ' loc' H' :=
  ⟨h1, h2, σ'.take k, by rw [← h3, List.take_append_drop], h4, h5⟩

theorem pickSem {l : List Oper} {d e t : Nat} {b y r : Bool} {j : Nat} {want : Bool} {a' b' : Operand}
    (hj : (ops[j]?).bind (·.dst) = some d) (hb : flook σ d = some (.bool b)) (hskip : skipOk ops j want l [] = true) (hN : dstsOk N l = true) (he : Nat.blt e N = true)
    (hclean : cleanOf σ (dsts l) = true)
    (h1 : b = want → AOps ro p.prog N ops l σ loc H (GuardEnd (dsts l) σ loc H t y))
    (hyes : b = want → ∀ σ' : Frame, flook σ' d = some (.bool b) → flook σ' t = some (.bool y) → Am.aop p (.pick (.tmp d) a' b') (evo σ') = some (.bool r))
    (hno : b = (!want) → ∀ σ' : Frame, flook σ' d = some (.bool b) → Am.aop p (.pick (.tmp d) a' b') (evo σ') = some (.bool r))
    (hk : AOps ro p.prog N ops rest ((e, .bool r) :: σ) loc H K) :
    AOps ro p.prog N ops (l ++ (⟨some e, .pick (.tmp d) a' b', ty, pos, after, none⟩ :: rest)) σ loc H K := by
  have hnd : d ∉ dsts l := cleanOf_look hclean hb
  have sub : ∀ junk : Frame, keysIn (dsts l) junk = true → ∀ t v, flook ((e, AV.bool r) :: σ) t = some v → flook ((e, AV.bool r) :: (junk ++ σ)) t = some v := by
    intro junk hjk t v hv
    simp only [flook] at hv ⊢
    cases c : Nat.beq e t with
    | true => rw [c] at hv; exact hv
    | false =>
      rw [c] at hv
      simp only [cond_false] at hv ⊢
      rw [flook_append]
      cases hjt : flook junk t with
      | none => simpa using hv
      | some u => exact absurd (keysIn_look hjk hjt) (cleanOf_look hclean hv)
  have dk : ∀ junk : Frame, keysIn (dsts l) junk = true → flook (junk ++ σ) d = some (.bool b) := by
    intro junk hjk
    rw [flook_append]
    cases hjt : flook junk d with
    | none => simpa using hb
    | some u => exact absurd (keysIn_look hjk hjt) hnd
  by_cases c : b = want
  · refine AOps.cat ?_
    have := h1 c
    intro bb Q G B a w hs he' hq
    refine this bb Q G B a w hs he' ?_
    rintro a w ⟨σ', loc', H', G', B', g1, g2, rfl, rfl, junk, rfl, g4, g5⟩
    refine hq _ _ ⟨_, _, _, G', B', g1, g2, ?_⟩
    refine AOps.op (hyes c _ (dk junk g4) ?_) he (AOps.less (sub junk g4) hk)
    rw [flook_append, g5]; rfl
  · have c' : b = (!want) := by cases b <;> cases want <;> simp_all
    refine AOps.skips hj c' l [] σ (fun k h => absurd h (by simp)) hb hskip hN hnd ?_
    intro junk hjk
    exact AOps.op (hno c' _ (dk junk hjk)) he (AOps.less (sub junk hjk) hk)

/-- 'a && b': l reckons b. -/
theorem AOps.and (l : List Oper) {L r : List Oper} {d e t : Nat} {b y : Bool} {j : Nat} (hL : l ++ (⟨some e, .pick (.tmp d) (.tmp t) (.const (.bool false)), ty, pos, after, none⟩ :: r) = L)
    (hj : (ops[j]?).bind (·.dst) = some d) (hb : flook σ d = some (.bool b)) (hskip : skipOk ops j true l [] = true) (hN : dstsOk N l = true) (he : Nat.blt e N = true)
    (hclean : cleanOf σ (dsts l) = true)
    (h1 : b = true → AOps ro p.prog N ops l σ loc H (GuardEnd (dsts l) σ loc H t y))
    (hk : AOps ro p.prog N ops r ((e, .bool (b && y)) :: σ) loc H K) : AOps ro p.prog N ops L σ loc H K := by
  subst hL
  refine pickSem hj hb hskip hN he hclean h1 (fun c σ' h1 h2 => ?_) (fun c σ' h1 => ?_) hk
  · subst c; simp [Am.aop, apick, evo, h1, h2, ofConst]
  · simp at c; subst c
    simp only [Am.aop, evo, h1, apick]
    split
    · rename_i x' y' e1 e2; simp [ofConst] at e2; subst e2; rfl
    · rfl

/-- 'a || b': l reckons b. -/
theorem AOps.or (l : List Oper) {L r : List Oper} {d e t : Nat} {b y : Bool} {j : Nat} (hL : l ++ (⟨some e, .pick (.tmp d) (.const (.bool true)) (.tmp t), ty, pos, after, none⟩ :: r) = L)
    (hj : (ops[j]?).bind (·.dst) = some d) (hb : flook σ d = some (.bool b)) (hskip : skipOk ops j false l [] = true) (hN : dstsOk N l = true) (he : Nat.blt e N = true)
    (hclean : cleanOf σ (dsts l) = true)
    (h1 : b = false → AOps ro p.prog N ops l σ loc H (GuardEnd (dsts l) σ loc H t y))
    (hk : AOps ro p.prog N ops r ((e, .bool (b || y)) :: σ) loc H K) : AOps ro p.prog N ops L σ loc H K := by
  subst hL
  refine pickSem hj hb hskip hN he hclean h1 (fun c σ' h1 h2 => ?_) (fun c σ' h1 => ?_) hk
  · subst c; simp [Am.aop, apick, evo, h1, h2, ofConst]
  · simp at c; subst c
    simp only [Am.aop, evo, h1, apick]
    split
    · rename_i x' y' e1 e2; simp [ofConst] at e1; subst e1; rfl
    · rfl

end

end Go.Am
