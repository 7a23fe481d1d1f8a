/- The texts of this part, one behind the other: what is proved of the model and of the functions that the law reaches. -/
import Derived.Test.YtlbnhokhhangdaaTe5
import Derived.MapKept
/- Maps. -/
set_option linter.unusedVariables false
set_option linter.unusedSimpArgs false
set_option linter.unnecessarySimpa false
namespace Go.Am
open Go MapKept

abbrev Ents := List (AV × AV × Nat)

def keyEq : AV → AV → Option Bool
  | .int k a, .int k' b => if k = k' then some (a == b) else none
  | .str a, .str b => some (a == b)
  | .bool a, .bool b => some (a == b)
  | _, _ => none

/-- Where a key stands, from i on. -/
def mfind (k : AV) : Ents → Nat → Option (Option Nat)
  | [], _ => some none
  | (k', _, _) :: r, i => match keyEq k k' with
    | some true => some (some i)
    | some false => mfind k r (i + 1)
    | none => none

def keyOk : TK → AV → Bool
  | .int k, .int k' _ => k == k'
  | .str, .str _ => true
  | .bool, .bool _ => true
  | _, _ => false

theorem str_beq (a b : List UInt8) : ((⟨a.toArray⟩ : ByteArray) == ⟨b.toArray⟩) = (a == b) := by
  rw [beq_toListBytes, ByteArray.toList_eq, ByteArray.toList_eq]

theorem keyEq_rel {G B} {k k' : AV} {x y : Value} {tk : TK} {d : TypeDesc} (hd : tkOf d = tk) (ho : keyOk tk k = true) (h1 : VR G B k x) (h2 : VR G B k' y) {r : Bool} (hr : keyEq k k' = some r) :
    Instr.sameNow d x y = some r := by
  unfold keyEq at hr
  split at hr
  · cases h1; cases h2
    split at hr
    · rename_i e; subst e; cases hr
      cases d <;> simp [tkOf] at hd <;> subst hd <;> simp [keyOk] at ho
      simp [Instr.sameNow]
    · cases hr
  · cases h1; cases h2; cases hr
    cases d <;> simp [tkOf] at hd <;> subst hd <;> simp [keyOk] at ho
    simp [Instr.sameNow, str_beq]
  · cases h1; cases h2; cases hr
    cases d <;> simp [tkOf] at hd <;> subst hd <;> simp [keyOk] at ho
    simp [Instr.sameNow]
  · cases hr

theorem isKey_of {G B} {k : AV} {x : Value} {tk : TK} {d : TypeDesc} (hd : tkOf d = tk) (ho : keyOk tk k = true) (h1 : VR G B k x) : IsKey d x := by
  unfold keyOk at ho
  split at ho
  · cases h1
    cases d <;> simp [tkOf] at hd
    subst hd; simp at ho; subst ho; simp [IsKey]
  · cases h1
    cases d <;> simp [tkOf] at hd
    simp [IsKey]
  · cases h1
    cases d <;> simp [tkOf] at hd
    simp [IsKey]
  · cases ho

theorem sameNow_same {d : TypeDesc} {x y : Value} (h : Instr.sameNow d x y = some true) : y = x ∧ ∀ n, Instr.sameBits (n + 1) y x = true := by
  unfold Instr.sameNow at h
  split at h
  · split at h
    · rename_i e; subst e
      have : ∀ {a b : Int}, some (a == b) = some true → b = a := fun h => by simpa using (Option.some.inj h |> fun e => (eq_of_beq e).symm)
      have := this h; subst this
      exact ⟨rfl, fun n => by simp [Instr.sameBits]⟩
    · cases h
  · have := (bytes_beq _ _).1 (Option.some.inj h)
    subst this
    exact ⟨rfl, fun n => by simp [Instr.sameBits, bytes_beq]⟩
  · have := eq_of_beq (Option.some.inj h)
    subst this
    exact ⟨rfl, fun n => by simp [Instr.sameBits]⟩
  · cases h

theorem mfind_rel {G B} {k : AV} {x : Value} {tk : TK} {d : TypeDesc} (hd : tkOf d = tk) (ho : keyOk tk k = true) (h1 : VR G B k x) : ∀ (es : Ents) (l : List MapEntry), es.length = l.length →
    (∀ i, i < es.length → VR G [] (es.getD i (.any, .any, 0)).1 (l.getD i default).key) → ∀ (i0 : Nat) (r : Option Nat), mfind k es i0 = some r →
    Instr.findNow d x l i0 = some (r.map fun j => (j, (l.getD (j - i0) default).val)) ∧
    ∀ j, r = some j → i0 ≤ j ∧ j < i0 + es.length ∧ (l.getD (j - i0) default).key = x ∧ ∀ n, Instr.sameBits (n + 1) x x = true
  | [], [], _, _, i0, r, hr => by
    simp [mfind] at hr; subst hr
    exact ⟨rfl, fun j h => by cases h⟩
  | (k', v, b) :: es, e :: l, hl, hv, i0, r, hr => by
    have h2 := (hv 0 (by simp)).up (B := B)
    simp at h2
    simp only [mfind] at hr
    split at hr
    · rename_i hk
      have := keyEq_rel hd ho h1 h2 hk
      cases hr
      have hs := sameNow_same this
      refine ⟨by simp [Instr.findNow, this], fun j h => by
        cases h
        refine ⟨Nat.le_refl _, by simp, by simpa using hs.1, fun n => ?_⟩
        have := hs.2 n; rwa [hs.1] at this⟩
    · rename_i hk
      have := keyEq_rel hd ho h1 h2 hk
      obtain ⟨a, b⟩ := mfind_rel hd ho h1 es l (by simpa using hl) (fun i hi => by have := hv (i + 1) (by simp; omega); simpa using this) (i0 + 1) r hr
      have sh : ∀ j, i0 + 1 ≤ j → (e :: l).getD (j - i0) default = l.getD (j - (i0 + 1)) default := fun j hj => by
        have e : j - i0 = (j - (i0 + 1)) + 1 := by omega
        rw [e]; simp
      refine ⟨?_, fun j h => by
        have := b j h
        refine ⟨by omega, by simp; omega, ?_, this.2.2.2⟩
        rw [sh j this.1]; exact this.2.2.1⟩
      simp only [Instr.findNow, this, a]
      cases r with
      | none => rfl
      | some j =>
        have := b j rfl
        simp only [Option.map_some]
        rw [sh j this.1]
    · cases hr

theorem map_ok {p : Pr} {t : Nat} {i : TI} {a b : Nat} (hi : p.ty t = some i) (hk : i.kind = .map a b) : p.prog.underlying t = some (.map a b) := by
  obtain ⟨d, n, z, h1, h2, h3, -⟩ := p.info hi
  rw [hk] at h3
  cases d <;> simp [tkOf] at h3
  rw [h1, h3.1, h3.2]

theorem setBlk_other (w : World) (b : Nat) (o : Obj) (k : Nat) (h : k ≠ b) : (w.heap.setIfInBounds b o)[k]? = w.heap[k]? := by
  simp [Ne.symm h]

def EntR (G : Gh) (es : Ents) (ents : Array MapEntry) : Prop :=
  es.length = ents.size ∧ ∀ i, i < es.length → VR G [] (es.getD i (.any, .any, 0)).1 (ents.getD i default).key ∧ VR G [] (es.getD i (.any, .any, 0)).2.1 (ents.getD i default).val ∧
        (es.getD i (.any, .any, 0)).2.2 = (ents.getD i default).born

theorem EntR.push {G es ents} (h : EntR G es ents) {k v : AV} {x y : Value} (hk : VR G [] k x) (hv : VR G [] v y) (b : Nat) : EntR G (es ++ [(k, v, b)]) (ents.push { key := x, val := y, born := b }) := by
  refine ⟨by simp [h.1], fun i hi => ?_⟩
  by_cases c : i < es.length
  · have := h.2 i c
    have c' : i < ents.size := h.1 ▸ c
    simpa [List.getD_eq_getElem?_getD, Array.getD_eq_getD_getElem?, List.getElem?_append_left c, Array.getElem?_push, Nat.ne_of_lt c'] using this
  · have : i = es.length := by simp at hi; omega
    subst this
    have e : es.length = ents.size := h.1
    simp [List.getD_eq_getElem?_getD, Array.getD_eq_getD_getElem?, e, hk, hv]

theorem EntR.modify {G es ents} (h : EntR G es ents) {j : Nat} {k v : AV} {x y : Value} (hk : VR G [] k x) (hv : VR G [] v y) (f : MapEntry → MapEntry) (hf : (f (ents.getD j default)) = { key := x, val := y, born := (ents.getD j default).born }) :
    EntR G (es.set j (k, v, (es.getD j (.any, .any, 0)).2.2)) (ents.modify j f) := by
  refine ⟨by simp [h.1], fun i hi => ?_⟩
  have hi' : i < es.length := by simpa using hi
  have c' : i < ents.size := h.1 ▸ hi'
  by_cases c : j = i
  · subst c
    have := (h.2 j hi').2.2
    have hg : (ents.modify j f).getD j default = f (ents.getD j default) := by
      simp only [Array.getD_eq_getD_getElem?, Array.getElem?_modify, if_true, Array.getElem?_eq_getElem c', Option.map_some, Option.getD_some]
    rw [hg, hf]
    simp [List.getD_eq_getElem?_getD, hi', hk, hv] at this ⊢
    exact this
  · have hg : (ents.modify j f).getD i default = ents.getD i default := by simp [Array.getD_eq_getD_getElem?, Array.getElem?_modify, c]
    rw [hg]
    have := h.2 i hi'
    simpa [List.getD_eq_getElem?_getD, c] using this

theorem EntR.erase {G es ents} (h : EntR G es ents) (j : Nat) : EntR G (es.eraseIdx j) (ents.eraseIdxIfInBounds j) := by
  have e : (ents.eraseIdxIfInBounds j).toList = ents.toList.eraseIdx j := by
    unfold Array.eraseIdxIfInBounds
    split
    · simp
    · rename_i c
      rw [List.eraseIdx_of_length_le (by simpa using c)]
  have hl : (ents.eraseIdxIfInBounds j).size = (ents.toList.eraseIdx j).length := by rw [← e, Array.length_toList]
  refine ⟨?_, fun i hi => ?_⟩
  · rw [hl, List.length_eraseIdx, List.length_eraseIdx, h.1]; simp
  · have hg : (ents.eraseIdxIfInBounds j).getD i default = (ents.toList.eraseIdx j).getD i default := by
      rw [← e, Array.getD_eq_getD_getElem?, List.getD_eq_getElem?_getD, Array.getElem?_toList]
    rw [hg]
    have hi2 : i < es.length := by have := List.length_eraseIdx_le es j; omega
    by_cases c : i < j
    · have := h.2 i hi2
      simpa [List.getD_eq_getElem?_getD, List.getElem?_eraseIdx, c, Array.getD_eq_getD_getElem?] using this
    · have hi3 : i + 1 < es.length := by
        rw [List.length_eraseIdx] at hi
        split at hi <;> omega
      have := h.2 (i + 1) hi3
      simpa [List.getD_eq_getElem?_getD, List.getElem?_eraseIdx, c, Array.getD_eq_getD_getElem?] using this

section
variable {ro : Option Nat} {p : Pr} {N : Nat} {ops : Array Oper} {rest : List Oper} {σ : Frame} {loc : Loc} {H : Heap} {K : Kont} {ty : TypeId} {pos : String} {after : Array Edge} {g : Option (Nat × Bool)}
  {dst : Option Tmp} {Q : AV → Loc → Heap → Prop}

/-- What a map knows of a key. -/
theorem map_find {G B w} {b : Nat} {es : Ents} {clock : Nat} {KT : TypeId} {ki : TI} {kv : AV} {x : Value} {r : Option Nat} (hm : MRel G B loc H w) (hH : H b = some (.map es clock))
    (hK : p.ty KT = some ki) (ho : keyOk ki.kind kv = true) (hx : VR G B kv x) (hr : mfind kv es 0 = some r) :
    ∃ ents, w.heap[b]? = some (.map ents clock) ∧ EntR G es ents ∧ (Instr.findKey KT x ents.toList).run p.prog w = .ok (r.map fun j => (j, (ents.getD j default).val)) w ∧
      (∀ e, (Instr.checkKey e 10000 KT x).run p.prog w = .ok () w) ∧ (∀ j, r = some j → j < es.length ∧ (ents.getD j default).key = x ∧ ents[j]? = some (ents.getD j default) ∧
        (Instr.keyThatStays (((ents[j]?).map (·.key)).getD x) x).run p.prog w = .ok x w) := by
  obtain ⟨ents, h1, h2, h3⟩ := hm.obj _ _ hH
  obtain ⟨d, n, z, hu, hn, hkd, -⟩ := p.info hK
  obtain ⟨a, c⟩ := mfind_rel hkd ho hx es ents.toList (by simpa using h2) (fun i hi => by simpa [List.getD_eq_getElem?_getD, Array.getD_eq_getD_getElem?] using (h3 i hi).1) 0 r hr
  refine ⟨ents, h1, ⟨h2, h3⟩, ?_, fun e => run_checkKey hu (isKey_of hkd ho hx) e 9999, fun j h => ?_⟩
  · rw [run_findKey hu a]
    cases r <;> simp [List.getD_eq_getElem?_getD, Array.getD_eq_getD_getElem?]
  · obtain ⟨c1, c2, c3, c4⟩ := c j h
    have hj : j < ents.size := by omega
    have e3 : (ents.getD j default).key = x := by simpa [List.getD_eq_getElem?_getD, Array.getD_eq_getD_getElem?] using c3
    have e4 : ents[j]? = some (ents.getD j default) := by simp [Array.getD_eq_getD_getElem?, hj]
    refine ⟨by omega, e3, e4, ?_⟩
    rw [e4]
    simp only [Option.map_some, Option.getD_some, e3]
    simp [Instr.keyThatStays, c4 9999]

theorem OpT.lookup {T KT ET : TypeId} {x y : Operand} {b : Nat} {es : Ents} {clock : Nat} {ti ki : TI} {kv v : AV} {r : Option Nat} {zv : Value} {ok : Bool} (hx : evo σ x = some (.map b)) (hy : evo σ y = some kv)
    (ht : p.ty T = some ti) (hk : ti.kind = .map KT ET) (hK : p.ty KT = some ki) (ho : keyOk ki.kind kv = true) (hH : H b = some (.map es clock)) (hr : mfind kv es 0 = some r)
    (hz : (p.prog.info? ET).bind (·.zero) = some zv) (hv : r.elim (ofConst zv) (fun j => (es.getD j (.any, .any, 0)).2.1) = v)
    (hq : Q (bif ok then .tuple [v, .bool r.isSome] else v) loc H) : OpT p.prog ⟨dst, .lookup T x y ok, ty, pos, after, g⟩ (ev σ) loc H Q := by
  refine OpT.pure _ (fun G B w ρc r1 r2 => ?_) hq
  have e1 := ev_rel r1 _ _ hx
  have e2 := ev_rel r1 _ _ hy
  generalize hcx : ρc x = vx at *
  generalize hcy : ρc y = vy at *
  cases e1
  obtain ⟨ents, h1, h2, h3, h4, h5⟩ := map_find r2 hH hK ho e2 hr
  have hzr : (zeroValue ET).run p.prog w = .ok zv w := by
    cases hi : p.prog.info? ET with
    | none => simp [hi] at hz
    | some i => simp [hi] at hz; simp [zeroValue, typeInfo, hi, hz]
  have main : ∃ u, (Instr.lookup T (.map (some b)) vy ok).run p.prog w = .ok (bif ok then .tuple #[u, .bool r.isSome] else u) w ∧ VR G B v u := by
    cases r with
    | none =>
      refine ⟨zv, ?_, by rw [← hv]; exact ofConst_rel _ _ _⟩
      simp only [Option.map_none] at h3
      simp only [Instr.lookup, Sem.run_bind, run_underlying (map_ok ht hk), Result.andThen_ok, MapKept.run_getObj_map h1, Sem.run_pure, h4, h3, hzr]
      cases ok <;> rfl
    | some j =>
      refine ⟨(ents.getD j default).val, ?_, by rw [← hv]; exact ((h2.2 j (h5 j rfl).1).2.1).up⟩
      simp only [Option.map_some] at h3
      simp only [Instr.lookup, Sem.run_bind, run_underlying (map_ok ht hk), Result.andThen_ok, MapKept.run_getObj_map h1, Sem.run_pure, h4, h3]
      cases ok <;> rfl
  obtain ⟨u, hu, hvu⟩ := main
  refine ⟨bif ok then .tuple #[u, .bool r.isSome] else u, ?_, ?_⟩
  · simp only [execOp, hcx, hcy, Sem.run_bind, hu, Result.andThen_ok, Sem.run_pure]
  · cases ok
    · exact hvu
    · refine .tuple _ _ _ rfl (fun i hi => ?_)
      match i, hi with
      | 0, _ => exact hvu
      | 1, _ => exact .bool _ _

/-- What a map holds, changed in place. -/
theorem mapSet {G B w} {b : Nat} {es es' : Ents} {clock clock' : Nat} {ents ents' : Array MapEntry} (hm : MRel G B loc H w) (hH : H b = some (.map es clock)) (h1 : w.heap[b]? = some (.map ents clock))
    (hv : EntR G es' ents') :
    MRel G B loc (H.set b (.map es' clock')) { w with heap := w.heap.setIfInBounds b (.map ents' clock') } ∧
      Ext w G H B { w with heap := w.heap.setIfInBounds b (.map ents' clock') } G (H.set b (.map es' clock')) B := by
  have hbm : b ∉ B := fun m => by rw [hm.apart b m] at hH; cases hH
  have hsb : sameBut w { w with heap := w.heap.setIfInBounds b (.map ents' clock') } b := ⟨rfl, rfl, rfl, by simp, fun k hk => setBlk_other w b _ k hk⟩
  have him : ∀ o, G.im b o = none := fun o => by
    cases e : G.im b o with
    | none => rfl
    | some v =>
      obtain ⟨c, E, fr, h, _⟩ := hm.im _ _ _ e
      rw [h1] at h; cases h
  refine ⟨hm.touch hbm hsb.2.2.2.1 (fun k hk => ⟨hsb.2.2.2.2 k hk, fun _ => rfl⟩) (fun _ => rfl) (.refl G) (fun o v e => by rw [him] at e; cases e) ⟨ents', ?_, hv.1, hv.2⟩, hsb.extH (by rw [hH]; simp)⟩
  exact (heap_set h1).1

/-- What a map is behind an assignment. -/
def mput (es : Ents) (clock : Nat) (r : Option Nat) (kv vv : AV) : AObj :=
  match r with
  | some j => .map (es.set j (kv, vv, (es.getD j (.any, .any, 0)).2.2)) clock
  | none => .map (es ++ [(kv, vv, clock)]) (clock + 1)

theorem keyOk_free {tk : TK} {kv : AV} (h : keyOk tk kv = true) : kv.free = true := by
  unfold keyOk at h
  split at h <;> first | rfl | cases h

theorem OpT.mapUpdate {T KT ET : TypeId} {x y z : Operand} {b : Nat} {es : Ents} {clock : Nat} {ti ki : TI} {kv vv : AV} {r : Option Nat} (hx : evo σ x = some (.map b)) (hy : evo σ y = some kv) (hz : evo σ z = some vv)
    (ht : p.ty T = some ti) (hk : ti.kind = .map KT ET) (hK : p.ty KT = some ki) (ho : keyOk ki.kind kv = true) (hf : vv.free = true) (hH : H b = some (.map es clock)) (hr : mfind kv es 0 = some r)
    (hq : Q .any loc (H.set b (mput es clock r kv vv))) : OpT p.prog ⟨dst, .mapUpdate T x y z, ty, pos, after, g⟩ (ev σ) loc H Q := by
  intro G B w ρc r1 r2 hcc
  have e1 := ev_rel r1 _ _ hx
  have e2 := ev_rel r1 _ _ hy
  have e3 := ev_rel r1 _ _ hz
  generalize hcx : ρc x = vx at *
  generalize hcy : ρc y = vy at *
  generalize hcz : ρc z = vz at *
  cases e1
  obtain ⟨ents, h1, h2, h3, h4, h5⟩ := map_find r2 hH hK ho e2 hr
  have ek := e2.down (keyOk_free ho)
  have evv := e3.down hf
  have main : ∃ ents' clock', (Instr.mapUpdate T (.map (some b)) vy vz).run p.prog w = .ok () { w with heap := w.heap.setIfInBounds b (.map ents' clock') } ∧
      ∃ es', mput es clock r kv vv = .map es' clock' ∧ EntR G es' ents' := by
    cases r with
    | none =>
      simp only [Option.map_none] at h3
      refine ⟨_, _, ?_, _, rfl, h2.push ek evv clock⟩
      simp only [Instr.mapUpdate, Sem.run_bind, run_underlying (map_ok ht hk), Result.andThen_ok, MapKept.run_getObj_map h1, Sem.run_pure, h4, h3, run_setObj_map _ h1]
    | some j =>
      simp only [Option.map_some] at h3
      obtain ⟨q1, q2, q3, q4⟩ := h5 j rfl
      refine ⟨_, _, ?_, _, rfl, h2.modify (j := j) ek evv (fun e => { e with key := vy, val := vz }) rfl⟩
      simp only [Instr.mapUpdate, Sem.run_bind, run_underlying (map_ok ht hk), Result.andThen_ok, MapKept.run_getObj_map h1, Sem.run_pure, h4, h3, q4, run_setObj_map _ h1]
  obtain ⟨ents', clock', hrun, es', he, hE⟩ := main
  obtain ⟨k1, k2⟩ := mapSet (clock' := clock') r2 hH h1 hE
  rw [he] at hq
  unfold OpRuns
  simp only [execOp, hcx, hcy, hcz, Sem.run_bind, hrun, Result.andThen_ok, Sem.run_pure]
  exact ⟨_, loc, _, G, B, .any _ _, k1, k2, hq⟩

/-- An entry for a key: its value so far, and its stamp. -/
theorem OpT.mapEntry {T KT ET : TypeId} {x y : Operand} {b : Nat} {es : Ents} {clock : Nat} {ti ki : TI} {kv v : AV} {r : Option Nat} {zv : Value} (hx : evo σ x = some (.map b)) (hy : evo σ y = some kv)
    (ht : p.ty T = some ti) (hk : ti.kind = .map KT ET) (hK : p.ty KT = some ki) (ho : keyOk ki.kind kv = true) (hH : H b = some (.map es clock)) (hr : mfind kv es 0 = some r)
    (hz : (p.prog.info? ET).bind (·.zero) = some zv) (hv : r.elim (ofConst zv) (fun j => (es.getD j (.any, .any, 0)).2.1) = v)
    (hq : Q (.tuple [v, .int .i64 (r.elim clock fun j => (es.getD j (.any, .any, 0)).2.2 : Nat)]) loc (H.set b (mput es clock r kv v))) : OpT p.prog ⟨dst, .mapEntry T x y, ty, pos, after, g⟩ (ev σ) loc H Q := by
  intro G B w ρc r1 r2 hcc
  have e1 := ev_rel r1 _ _ hx
  have e2 := ev_rel r1 _ _ hy
  generalize hcx : ρc x = vx at *
  generalize hcy : ρc y = vy at *
  cases e1
  obtain ⟨ents, h1, h2, h3, h4, h5⟩ := map_find r2 hH hK ho e2 hr
  have ek := e2.down (keyOk_free ho)
  have hzr : ∀ w, (zeroValue ET).run p.prog w = .ok zv w := by
    intro w
    cases hi : p.prog.info? ET with
    | none => simp [hi] at hz
    | some i => simp [hi] at hz; simp [zeroValue, typeInfo, hi, hz]
  have main : ∃ ents' clock' u n, (Instr.mapEntry T (.map (some b)) vy).run p.prog w = .ok (.tuple #[u, .int .i64 n]) { w with heap := w.heap.setIfInBounds b (.map ents' clock') } ∧
      VR G [] v u ∧ n = ((r.elim clock fun j => (es.getD j (.any, .any, 0)).2.2 : Nat) : Int) ∧ ∃ es', mput es clock r kv v = .map es' clock' ∧ EntR G es' ents' := by
    cases r with
    | none =>
      simp only [Option.map_none] at h3
      have hvz : VR G [] v zv := by rw [← hv]; exact ofConst_rel _ _ _
      refine ⟨_, _, zv, clock, ?_, hvz, rfl, _, rfl, h2.push ek hvz clock⟩
      simp only [Instr.mapEntry, Sem.run_bind, run_underlying (map_ok ht hk), Result.andThen_ok, MapKept.run_getObj_map h1, Sem.run_pure, h4, h3, hzr, run_setObj_map _ h1]
      rfl
    | some j =>
      simp only [Option.map_some] at h3
      obtain ⟨q1, q2, q3, q4⟩ := h5 j rfl
      have hvz : VR G [] v (ents.getD j default).val := by rw [← hv]; exact (h2.2 j q1).2.1
      refine ⟨_, _, (ents.getD j default).val, (ents.getD j default).born, ?_, hvz, ?_, _, rfl, h2.modify (j := j) ek hvz (fun e => { e with key := vy }) rfl⟩
      · simp only [Instr.mapEntry, Sem.run_bind, run_underlying (map_ok ht hk), Result.andThen_ok, MapKept.run_getObj_map h1, Sem.run_pure, h4, h3, q4, run_setObj_map _ h1]
        rw [q3]; rfl
      · have := (h2.2 j q1).2.2
        show _ = (((es.getD j (.any, .any, 0)).2.2 : Nat) : Int)
        rw [this]
  obtain ⟨ents', clock', u, n, hrun, hu, hn, es', he, hE⟩ := main
  subst hn
  obtain ⟨k1, k2⟩ := mapSet (clock' := clock') r2 hH h1 hE
  rw [he] at hq
  unfold OpRuns
  simp only [execOp, hcx, hcy, Sem.run_bind, hrun, Result.andThen_ok, Sem.run_pure]
  refine ⟨_, loc, _, G, B, ?_, k1, k2, hq⟩
  refine .tuple _ _ _ rfl (fun i hi => ?_)
  match i, hi with
  | 0, _ => exact hu.up
  | 1, _ => exact .int _ _ _

theorem findIdx_born {G es ents} (h : EntR G es ents) (n : Nat) : ents.findIdx? (fun e => (e.born : Int) == (n : Int)) = es.findIdx? (fun e => e.2.2 == n) := by
  have e0 : ents = ents.toList.toArray := by simp
  rw [e0, List.findIdx?_toArray]
  have : ∀ (es : Ents) (l : List MapEntry), es.length = l.length → (∀ i, i < es.length → (es.getD i (.any, .any, 0)).2.2 = (l.getD i default).born) →
      l.findIdx? (fun e => (e.born : Int) == (n : Int)) = es.findIdx? (fun e => e.2.2 == n) := by
    intro es
    induction es with
    | nil => intro l hl _; cases l <;> simp at hl ⊢
    | cons e es ih =>
      intro l hl hv
      cases l with
      | nil => simp at hl
      | cons a l =>
        have h0 := hv 0 (by simp)
        simp at h0
        have := ih l (by simpa using hl) (fun i hi => by have := hv (i + 1) (by simp; omega); simpa using this)
        have e2 : ((a.born : Int) == (n : Int)) = (e.2.2 == n) := by rw [h0]; rw [Bool.eq_iff_iff]; simp; omega
        simp only [List.findIdx?_cons, this, e2]
  exact this es ents.toList (by simpa using h.1) (fun i hi => by simpa [List.getD_eq_getElem?_getD, Array.getD_eq_getD_getElem?] using (h.2 i hi).2.2)

theorem OpT.entryStore {T : TypeId} {x y z : Operand} {b n j : Nat} {k : IntKind} {es : Ents} {clock : Nat} {vv : AV} (hx : evo σ x = some (.map b)) (hy : evo σ y = some (.int k n)) (hz : evo σ z = some vv)
    (hf : vv.free = true) (hH : H b = some (.map es clock)) (hj : es.findIdx? (fun e => e.2.2 == n) = some j)
    (hq : Q .any loc (H.set b (.map (es.set j ((es.getD j (.any, .any, 0)).1, vv, (es.getD j (.any, .any, 0)).2.2)) clock))) : OpT p.prog ⟨dst, .entryStore T x y z, ty, pos, after, g⟩ (ev σ) loc H Q := by
  intro G B w ρc r1 r2 hcc
  have e1 := ev_rel r1 _ _ hx
  have e2 := ev_rel r1 _ _ hy
  have e3 := (ev_rel r1 _ _ hz).down hf
  generalize hcx : ρc x = vx at *
  generalize hcy : ρc y = vy at *
  generalize hcz : ρc z = vz at *
  cases e1; cases e2
  obtain ⟨ents, h1, h2, h3⟩ := r2.obj _ _ hH
  have hE : EntR G es ents := ⟨h2, h3⟩
  have hlt : j < es.length := (List.findIdx?_eq_some_iff_getElem.1 hj).1
  have hE2 := hE.modify (j := j) (hE.2 j hlt).1 e3 (fun e => { e with val := vz }) rfl
  obtain ⟨k1, k2⟩ := mapSet (clock' := clock) r2 hH h1 hE2
  have hrun : (Instr.entryStore T (.map (some b)) (.int k n) vz).run p.prog w = .ok () { w with heap := w.heap.setIfInBounds b (.map (ents.modify j fun e => { e with val := vz }) clock) } := by
    simp only [Instr.entryStore, Sem.run_bind, Sem.run_pure, Result.andThen_ok, MapKept.run_getObj_map h1, asInt, asIntOf, findIdx_born hE, hj, run_setObj_map _ h1]
  unfold OpRuns
  simp only [execOp, hcx, hcy, hcz, Sem.run_bind, hrun, Result.andThen_ok, Sem.run_pure]
  exact ⟨_, loc, _, G, B, .any _ _, k1, k2, hq⟩

theorem OpT.delete {x y : Operand} {b : Nat} {es : Ents} {clock : Nat} {T KT ET t2 : TypeId} {ti ki : TI} {kv : AV} {r : Option Nat} (hx : evo σ x = some (.map b)) (hy : evo σ y = some kv)
    (ht : p.ty T = some ti) (hk : ti.kind = .map KT ET) (hK : p.ty KT = some ki) (ho : keyOk ki.kind kv = true) (hH : H b = some (.map es clock)) (hr : mfind kv es 0 = some r)
    (hq : Q (.tuple []) loc (H.set b (.map (r.elim es es.eraseIdx) clock))) :
    OpT p.prog ⟨dst, .call { callee := .builtin .delete, args := #[x, y], argTypes := #[T, t2] }, ty, pos, after, g⟩ (ev σ) loc H Q := by
  intro G B w ρc r1 r2 hcc
  have e1 := ev_rel r1 _ _ hx
  have e2 := ev_rel r1 _ _ hy
  generalize hcx : ρc x = vx at *
  generalize hcy : ρc y = vy at *
  cases e1
  obtain ⟨ents, h1, h2, h3, h4, h5⟩ := map_find r2 hH hK ho e2 hr
  have main : ∃ ents', (Builtin.delete_ #[T, t2] ty #[.map (some b), vy]).run p.prog w = .ok (.tuple #[]) { w with heap := w.heap.setIfInBounds b (.map ents' clock) } ∧
      EntR G (r.elim es es.eraseIdx) ents' := by
    cases r with
    | none =>
      simp only [Option.map_none] at h3
      refine ⟨ents, ?_, h2⟩
      simp [Builtin.delete_, run_underlying (map_ok ht hk), MapKept.run_getObj_map h1, h4, h3, run_setObj_map _ h1, Result.andThen]
    | some j =>
      simp only [Option.map_some] at h3
      refine ⟨_, ?_, h2.erase j⟩
      simp [Builtin.delete_, run_underlying (map_ok ht hk), MapKept.run_getObj_map h1, h4, h3, run_setObj_map _ h1, Result.andThen]
  obtain ⟨ents', hrun, hE⟩ := main
  obtain ⟨k1, k2⟩ := mapSet (clock' := clock) r2 hH h1 hE
  have hop : (execOp ρc ⟨dst, .call { callee := .builtin .delete, args := #[x, y], argTypes := #[T, t2] }, ty, pos, after, g⟩).run p.prog w = .ok (.value (.tuple #[])) { w with heap := w.heap.setIfInBounds b (.map ents' clock) } := by
    simp only [execOp, resolve, invoke, builtin, Sem.run_bind, Sem.run_pure, Result.andThen_ok, List.map_toArray, List.map_cons, List.map_nil, hcx, hcy, hrun]
  unfold OpRuns
  rw [hop]
  exact ⟨.tuple [], loc, _, G, B, .tuple _ _ _ rfl (fun i hi => absurd hi (by simp)), k1, k2, hq⟩

theorem OpT.makeMap {T : TypeId} (hq : ∀ b, H b = none → Q (.map b) loc (H.set b (.map [] 0))) : OpT p.prog ⟨dst, .makeMap T none, ty, pos, after, g⟩ (ev σ) loc H Q := by
  intro G B w ρc r1 r2 hcc
  have hrun : (Instr.makeMap T none).run p.prog w = .ok (.map (some w.heap.size)) (w.alloc (.map #[] 0)) := by
    simp [Instr.makeMap, run_newObj]
  unfold OpRuns
  simp only [execOp, Option.map_none, Sem.run_bind, hrun, Result.andThen_ok, Sem.run_pure]
  refine ⟨_, loc, _, G, B, .map _ _, (r2.alloc _).addObj (x := .map [] 0) (nomem r2) ⟨#[], heap_new _ _, rfl, fun i hi => absurd hi (by simp)⟩, ?_, hq _ (Hnone r2)⟩
  exact { Ext.alloc (w := w) (G := G) (H := H) (B := B) (.map #[] 0) with
    own := fun k hk => by
      unfold Heap.set at hk
      by_cases c : k = w.heap.size
      · exact .inr (by omega)
      · rw [if_neg c] at hk; exact .inl hk }

end
end Go.Am

/- Rows that are written: slices of them, and what is appended to them; nil held against slices and maps; a map's copy. -/
set_option linter.unusedVariables false
set_option linter.unusedSimpArgs false
set_option linter.unnecessarySimpa false
namespace Go.Am
open Go MapKept

section
variable {ro : Option Nat} {p : Pr} {N : Nat} {ops : Array Oper} {rest : List Oper} {σ : Frame} {loc : Loc} {H : Heap} {K : Kont} {ty : TypeId} {pos : String} {after : Array Edge} {g : Option (Nat × Bool)}
  {dst : Option Tmp} {Q : AV → Loc → Heap → Prop}

/-- The address of an element of a row that may be written. -/
theorem OpT.indexM {T E : TypeId} {x ix : Operand} {b n sz : Nat} {k : IntKind} {i : Int} {ti ei : TI} (hx : evo σ x = some (.msl b n sz)) (hi : evo σ ix = some (.int k i))
    (ht : p.ty T = some ti) (hk : ti.kind = .sl E) (hE : p.ty E = some ei) (h0 : 0 ≤ i) (h1 : i < n) {o : Nat} (ho : i.toNat * ei.size = o)
    (hq : Q (.ptr b o) loc H) : OpT p.prog ⟨dst, .indexAddr T x ix, ty, pos, after, g⟩ (ev σ) loc H Q := by
  subst ho
  refine OpT.pure _ (fun G B w ρc h1 h2 => ?_) hq
  have e1 := ev_rel h1 _ _ hx
  have e2 := ev_rel h1 _ _ hi
  generalize hcx : ρc x = vx at *
  generalize hci : ρc ix = vi at *
  cases e2
  cases e1 with
  | msl _ _ _ E cap sz q1 q2 =>
  refine ⟨.pointer (some ⟨b, i.toNat * ei.size, none⟩), ?_, .ptr _ _ _⟩
  simp only [execOp, hcx, hci, Instr.indexAt, asIntOf, Sem.run_bind, Sem.run_pure, run_underlying (sl_ok ht hk), Result.andThen_ok]
  rw [if_pos ⟨h0, by omega⟩]
  simp only [Sem.run_bind, run_sizeOf hE, Result.andThen_ok, Sem.run_pure, Addr.add_lit, Nat.zero_add]

/-- What may be appended: its elements. -/
def SrcOk (p : Pr) (loc : Loc) (H : Heap) (av : AV) (new : List AV) (sz : Nat) : Prop :=
  ∀ (G : Gh) (B : List Nat) (w : World) (x : Value), MRel G B loc H w → VR G B av x →
    ∃ news : List Value, (∀ w', (Builtin.lenOf x).run p.prog w' = .ok new.length w') ∧ (∀ w' : World, w'.heap = w.heap → (Builtin.firstCells sz new.length x).run p.prog w' = .ok news.toArray w') ∧
      news.length = new.length * sz ∧ (∀ j, j < news.length → VR G [] ((new.flatMap AV.cells).getD j .any) (news.getD j undef)) ∧ (∀ u ∈ news, u.oneCell' = true)

theorem SrcOk.of {av : AV} {new : List AV} {sz : Nat} (hs : srcOf (some av) = some new) (he : Els sz new) : SrcOk p loc H av new sz :=
  fun G B w x hm h => src_ok (p := p) hm h hs he

theorem SrcOk.msl {b n sz : Nat} {cs : List AV} {new : List AV} (hH : H b = some (.box cs)) (hn : new.length = n) (hc : new.flatMap AV.cells = cs.take (n * sz)) (he : Els sz new) (hl : n * sz ≤ cs.length) :
    SrcOk p loc H (.msl b n sz) new sz := by
  intro G B w x hm h
  subst hn
  obtain ⟨cells, E, m1, m2, m3, m4, m5⟩ := hm.obj _ _ hH
  cases h with
  | msl _ _ _ E' cap sz q1 q2 =>
  have hfl : (new.flatMap AV.cells).length = new.length * sz := flat_length fun e x => (he e x).1
  refine ⟨(List.range (new.length * sz)).map fun j => cells.getD j undef, fun w' => rfl, fun w' hw => ?_, by simp, fun j hj => ?_, fun u hu => ?_⟩
  · have hl' : ∀ j v, ((List.range (new.length * sz)).map fun j => cells.getD j undef)[j]? = some v → w'.cell? ((⟨b, 0, none⟩ : Addr).add j) = some v := by
      intro j v e
      simp only [List.getElem?_map, List.getElem?_range] at e
      by_cases hj : j < new.length * sz
      · simp [hj] at e
        subst e
        rw [Addr.add_lit, cell_of_row w' b (0 + j) cells E _ (by rw [hw]; exact m1)]
        simp [show j < cells.size by omega]
      · simp [hj] at e
    have := run_loadCells_list (P := p.prog) (w := w') ⟨b, 0, none⟩ _ hl'
    simp only [List.length_map, List.length_range] at this
    simp only [Builtin.firstCells]
    exact this
  · have hj : j < new.length * sz := by simpa using hj
    have := m3 j (by omega)
    rw [hc]
    simpa [List.getD_eq_getElem?_getD, hj, List.getElem?_take] using this
  · obtain ⟨j, hj, rfl⟩ := List.mem_map.1 hu
    have hj : j < new.length * sz := by simpa using hj
    have h1 := m3 j (by omega)
    have h2 := ones_getD _ j (flat_ones he) (by omega)
    rw [hc] at h2
    simp [List.getD_eq_getElem?_getD, hj, List.getElem?_take] at h2
    exact h1.one (by simpa [List.getD_eq_getElem?_getD] using h2)

theorem MRel.allocBoxRow {G B w} (h : MRel G B loc H w) (cs : List AV) (cells : Array Value) (E : TypeId) (cap sz : Nat) (hc : cells.size = cap * sz) (hm : cap ≤ maxLen) (hl : cs.length ≤ cells.size)
    (hv : ∀ i, i < cs.length → VR G [] (cs.getD i .any) (cells.getD i undef)) :
    MRel { G with row := fun b' => if b' = w.heap.size then some (E, cap, sz) else G.row b' } B loc (H.set w.heap.size (.box cs)) (w.drew.alloc (.cells cells E)) ∧
    Ext w G H B (w.drew.alloc (.cells cells E)) { G with row := fun b' => if b' = w.heap.size then some (E, cap, sz) else G.row b' } (H.set w.heap.size (.box cs)) B := by
  have key := h.later (G' := { G with row := fun b' => if b' = w.heap.size then some (E, cap, sz) else G.row b' }) (w' := w.drew.alloc (.cells cells E)) (by simp)
    (fun k hk' => ⟨heap_alloc_old w.drew _ hk', fun _ => rfl, by simp [show k ≠ w.heap.size by omega]⟩)
    (fun b o v hb e => by have := h.imlt e; omega)
    (fun b hb => by
      have hb : w.heap.size + 1 ≤ b := by simpa using hb
      simp only []
      rw [if_neg (by omega)]
      exact h.fresh b (by omega))
  refine ⟨key.2.addObj (nomem h) ⟨cells, E, heap_alloc_new w.drew _, hl, fun i hi => (hv i hi).le key.1, (show ∀ o, G.im w.heap.size o = none from imnone h), fun E' cap' sz' e => ?_⟩, ?_⟩
  · simp only [if_true] at e; cases e; exact ⟨rfl, hc, hm⟩
  · exact ⟨rfl, rfl, rfl, by simp, key.1, List.prefix_refl _, fun k hk' _ _ => ⟨heap_alloc_old w.drew _ hk', fun _ => rfl⟩, fun k hk' => by
      unfold Heap.set at hk'
      by_cases c : k = w.heap.size
      · exact .inr (by omega)
      · rw [if_neg c] at hk'; exact .inl hk', fun k h => .inl h, fun k hk' => by simp [show k ≠ w.heap.size by omega]⟩

/-- What is appended to a slice that is empty, or to a row of one's own; what comes of it may be written. -/
theorem OpT.appendM {s x : Operand} {t u E : TypeId} {sv av : AV} {old new : List AV} {ti ei ui : TI} {H0 : Heap} (hs : evo σ s = some sv) (hx : evo σ x = some av)
    (ht : p.ty t = some ti) (hk : ti.kind = .sl E) (he : p.ty E = some ei) (hu : p.ty u = some ui) (huk : isSrc ui.kind = true) (hzs : Nat.beq ei.zero.length ei.size = true)
    (hold : (sv = .sl [] .full ∧ old = [] ∧ H0 = H) ∨ ∃ b, sv = .msl b old.length ei.size ∧ H b = some (.box (old.flatMap AV.cells)) ∧ H0 = H.del b) (h1 : Els ei.size old) (h2 : Els ei.size new)
    (hsrc : SrcOk p loc H av new ei.size) (hlen : old.length + new.length ≤ maxLen) (hby : (old.length + new.length) * ei.bytes ≤ 140737488355328)
    (hq0 : new = [] → old = [] → Q (.sl [] .full) loc H)
    (hq : ∀ b, H0 b = none → Q (.msl b (old.length + new.length) ei.size) loc (H0.set b (.box ((old ++ new).flatMap AV.cells)))) :
    OpT p.prog ⟨dst, .call { callee := .builtin .append, args := #[s, x], argTypes := #[t, u] }, ty, pos, after, g⟩ (ev σ) loc H Q := by
  intro G B w ρc hr hm hcc
  obtain ⟨d, ni, z, hu', hni, hkd, hsz, hbt, hz, hz2⟩ := p.info he
  obtain ⟨d2, n2, z2, hu2, hn2, hkd2, -⟩ := p.info hu
  have hd2 : ∀ k, d2 ≠ .int k := fun k e => by subst e; rw [← hkd2] at huk; simp [tkOf, isSrc] at huk
  have htu := sl_ok ht hk
  have hres : ∀ r v w' loc' H' G' B', (Builtin.append_ #[t, u] ty #[ρc s, ρc x]).run p.prog w = .ok v w' → VR G' B' r v → MRel G' B' loc' H' w' → Ext w G H B w' G' H' B' → Q r loc' H' →
      OpRuns p.prog ⟨dst, .call { callee := .builtin .append, args := #[s, x], argTypes := #[t, u] }, ty, pos, after, g⟩ ρc w fun v w' => ∃ r loc' H' G' B', VR G' B' r v ∧ MRel G' B' loc' H' w' ∧ Ext w G H B w' G' H' B' ∧ Q r loc' H' := by
    intro r v w' loc' H' G' B' e a b c d
    unfold OpRuns
    simp only [execOp, resolve, invoke, builtin, Sem.run_bind, Sem.run_pure, Result.andThen_ok, List.map_toArray, List.map_cons, List.map_nil, e]
    exact ⟨r, loc', H', G', B', a, b, c, d⟩
  have v1 := ev_rel hr _ _ hs
  have v2 := ev_rel hr _ _ hx
  obtain ⟨news, n1, n3, n4, n5, n6⟩ := hsrc G B w _ hm v2
  generalize hvs : ρc s = vs at *
  have hfn : (new.flatMap AV.cells).length = new.length * ei.size := flat_length fun e x => (h2 e x).1
  have hfe : (old.flatMap AV.cells).length = old.length * ei.size := flat_length fun e x => (h1 e x).1
  have hzs' : z.cells.size = ei.size := by
    have := Nat.eq_of_beq_eq_true hzs
    rw [hz2] at this
    simpa using this
  -- the old cells, wherever they lie
  have hO : ∃ ao cap, vs = .slice ao old.length cap ∧ ∃ olds : List Value, (∀ w' : World, w'.heap = w.heap → (Builtin.firstCells ei.size old.length (.slice ao old.length cap)).run p.prog w' = .ok olds.toArray w') ∧
      olds.length = old.length * ei.size ∧ (∀ j, j < olds.length → VR G [] ((old.flatMap AV.cells).getD j .any) (olds.getD j undef)) ∧ old.length ≤ cap ∧
      ((sv = .sl [] .full ∧ old = [] ∧ H0 = H ∧ cap = 0 ∧ VR G B (.sl [] .full) vs) ∨ ∃ b E', ao = some ⟨b, 0, none⟩ ∧ G.row b = some (E', cap, ei.size) ∧ H b = some (.box (old.flatMap AV.cells)) ∧ H0 = H.del b) := by
    rcases hold with ⟨rfl, rfl, rfl⟩ | ⟨b, rfl, hb, rfl⟩
    · have v1' := v1
      obtain ⟨ao, n, cap, rfl⟩ : ∃ ao n cap, vs = .slice ao n cap := by cases v1 <;> exact ⟨_, _, _, rfl⟩
      obtain ⟨e, olds, o1, o2, o3, -⟩ := slice_cells (p := p) hm v1 h1
      subst e
      have hc : cap = 0 := by
        cases v1 with
        | slfull => rfl
        | sl _ _ _ b off cap sz cv h1' h2' h3' => exact h2'
      exact ⟨ao, cap, rfl, olds, o1, o2, o3, Nat.zero_le _, .inl ⟨rfl, rfl, rfl, hc, v1'⟩⟩
    · have hsrc := SrcOk.msl (p := p) (loc := loc) hb (n := old.length) rfl (sz := ei.size) (by rw [← hfe, List.take_length]) h1 (Nat.le_of_eq hfe.symm)
      obtain ⟨olds, o1, o2, o3, o4, o5⟩ := hsrc G B w _ hm v1
      cases v1 with
      | msl _ _ _ E' cap sz q1 q2 => exact ⟨_, cap, rfl, olds, o2, o3, o4, q2, .inr ⟨b, E', rfl, q1, hb, rfl⟩⟩
  obtain ⟨ao, cap, rfl, olds, o1, o2, o3, hcap, hwhere⟩ := hO
  rw [← hsz] at n3 o1
  have hflat : ∀ j, j < (old.length + new.length) * ei.size → ((old ++ new).flatMap AV.cells).getD j .any = if j < old.length * ei.size then (old.flatMap AV.cells).getD j .any else (new.flatMap AV.cells).getD (j - old.length * ei.size) .any := by
    intro j hj
    rw [flat_append_getD, hfe]
  have hflen : ((old ++ new).flatMap AV.cells).length = (old.length + new.length) * ei.size := by rw [List.flatMap_append, List.length_append, hfe, hfn, Nat.add_mul]
  by_cases hroom : old.length + new.length ≤ cap
  · have hrun := append_room (ty := ty) (ao := ao) htu hu2 hd2 hni n1 (n3 w rfl) hroom
    rcases hwhere with ⟨rfl, rfl, rfl, hc0, hv⟩ | ⟨b, E', rfl, hrow, hb, rfl⟩
    · have hm0 : new = [] := List.eq_nil_of_length_eq_zero (by simp at hroom; omega)
      subst hm0
      have hn0 : news = [] := List.eq_nil_of_length_eq_zero (by simpa using n4)
      subst hn0
      have e2 : (Builtin.append_ #[t, u] ty #[.slice ao 0 cap, ρc x]).run p.prog w = .ok (.slice ao 0 cap) w := by
        have := hrun
        simp only [List.length_nil, Nat.zero_add] at this
        rw [this]
        cases ao <;> simp [storeCells]
      exact hres _ _ w loc H0 G B e2 hv hm (Ext.refl _ _ _ _) (hq0 rfl rfl)
    · obtain ⟨cells, E2, m1, m2, m3, m4, m5⟩ := hm.obj _ _ hb
      obtain ⟨rfl, hcs, hcm⟩ := m5 _ _ _ hrow
      have hgB : b ∉ B := fun m => by have := hm.apart b m; rw [hb] at this; cases this
      have hfit : old.length * ei.size + news.length ≤ cells.size := by
        rw [n4, hcs, ← Nat.add_mul]; exact Nat.mul_le_mul_right _ hroom
      have hst := run_storeCells_at p.prog b (old.length * ei.size) E' news 0 cells w m1 (by omega) n6
      have e2 : (Builtin.append_ #[t, u] ty #[.slice (some ⟨b, 0, none⟩) old.length cap, ρc x]).run p.prog w = .ok (.slice (some ⟨b, 0, none⟩) (old.length + new.length) cap) (w.setRow b (spliceV cells news.toArray (old.length * ei.size))) := by
        rw [hrun]
        simp only [hsz, Addr.add_lit, Nat.zero_add, hst, Result.andThen_ok]
        rfl
      have hsb := sameBut_setRow w b (spliceV cells news.toArray (old.length * ei.size))
      have hset : (H.del b).set b (.box ((old ++ new).flatMap AV.cells)) = H.set b (.box ((old ++ new).flatMap AV.cells)) := by
        funext k; simp only [Heap.set, Heap.del]; split <;> rfl
      refine hres (.msl b (old.length + new.length) ei.size) _ _ loc (H.set b (.box ((old ++ new).flatMap AV.cells))) G B e2 (.msl _ _ _ E' cap ei.size hrow hroom) ?_ (hsb.extH (by rw [hb]; simp))
        (by have := hq b (by simp [Heap.del]); rwa [hset] at this)
      refine hm.touch hgB hsb.2.2.2.1 (fun k hk => ⟨hsb.2.2.2.2 k hk, fun _ => rfl⟩) (fun _ => rfl) (.refl G) (fun o v e => by rw [m4] at e; cases e) ?_
      refine ⟨_, E', setRow_heap w b cells _ E' (0, 0) m1, ?_, ?_, m4, fun E3 cap3 sz3 e => ?_⟩
      · rw [spliceV_size _ _ _ (by simpa using hfit), hflen, Nat.add_mul, ← n4]; exact hfit
      · intro i hi
        rw [hflen] at hi
        rw [hflat i hi, spliceV_getD _ _ _ _ (by simpa using hfit)]
        rw [Nat.add_mul, ← n4] at hi
        by_cases c : i < old.length * ei.size
        · rw [if_pos c, if_neg (by omega)]; exact m3 i (by omega)
        · rw [if_neg c, if_pos (by simp; omega)]
          have := n5 (i - old.length * ei.size) (by omega)
          simpa [List.getD_eq_getElem?_getD, Array.getD_eq_getD_getElem?] using this
      · rw [spliceV_size _ _ _ (by simpa using hfit)]; exact m5 _ _ _ e
  · have hby' : (old.length + new.length) * ni.bytes ≤ 140737488355328 := by rw [hbt]; exact hby
    have hrun := append_grow (ty := ty) (ao := ao) htu hu2 hd2 hni hz n1 (n3 w.drew rfl) (o1 w.drew rfl) (by omega) hlen hby'
    have hcapge := grownCap_ge w (old.length + new.length) cap E
    have hcaple := grownCap_le_maxLen w (old.length + new.length) cap E hlen
    have hsize : (olds.toArray ++ news.toArray ++ Builtin.zeroCells z.cells (grownCap w (old.length + new.length) cap E - (old.length + new.length))).size = grownCap w (old.length + new.length) cap E * ei.size := by
      simp only [Array.size_append, List.size_toArray, size_zeroCells, hzs', o2, n4, ← Nat.add_mul]
      congr 1
      omega
    generalize hcells : (olds.toArray ++ news.toArray ++ Builtin.zeroCells z.cells (grownCap w (old.length + new.length) cap E - (old.length + new.length))) = cells at *
    generalize grownCap w (old.length + new.length) cap E = cap' at *
    have hcell : ∀ j, j < (old.length + new.length) * ei.size → cells.getD j undef = (if j < old.length * ei.size then olds.getD j undef else news.getD (j - old.length * ei.size) undef) := by
      intro j hj
      rw [Nat.add_mul] at hj
      rw [← hcells, Array.append_assoc, Array.getD_eq_getD_getElem?]
      by_cases c : j < old.length * ei.size
      · rw [if_pos c, Array.getElem?_append_left (by simpa [o2] using c)]
        simp [show j < olds.length by omega]
      · rw [if_neg c, Array.getElem?_append_right (by simp; omega), Array.getElem?_append_left (by simp; omega)]
        simp [o2, show j - old.length * ei.size < news.length by omega]
    obtain ⟨r1, r2⟩ := hm.allocBoxRow ((old ++ new).flatMap AV.cells) cells E cap' ei.size hsize hcaple (by rw [hflen, hsize]; exact Nat.mul_le_mul_right _ hcapge) (fun i hi => by
      rw [hflen] at hi
      rw [hflat i hi, hcell i hi]
      rw [Nat.add_mul] at hi
      by_cases c : i < old.length * ei.size
      · rw [if_pos c, if_pos c]; exact o3 i (by omega)
      · rw [if_neg c, if_neg c]; exact n5 _ (by omega))
    have hvr : VR { G with row := fun b' => if b' = w.heap.size then some (E, cap', ei.size) else G.row b' } B (.msl w.heap.size (old.length + new.length) ei.size) (.slice (some ⟨w.heap.size, 0, none⟩) (old.length + new.length) cap') :=
      .msl _ _ _ E cap' ei.size (by simp) hcapge
    have hb0 := Hnone hm
    have hle : H0.le H := by
      rcases hwhere with ⟨-, -, rfl, -⟩ | ⟨b, -, -, -, -, rfl⟩
      · exact Heap.le_refl _
      · exact Heap.del_le _ _
    have hb1 : H0 w.heap.size = none := by
      cases e : H0 w.heap.size with
      | none => rfl
      | some y => have := hle _ _ e; rw [hb0] at this; cases this
    have hl : (H0.set w.heap.size (.box ((old ++ new).flatMap AV.cells))).le (H.set w.heap.size (.box ((old ++ new).flatMap AV.cells))) := by
      intro k x e
      by_cases c : k = w.heap.size
      · subst c; rw [Heap.set_same] at e ⊢; exact e
      · rw [Heap.set_ne _ _ c] at e ⊢; exact hle _ _ e
    exact hres _ _ _ _ _ _ B hrun hvr (r1.less hl) (r2.less hl) (hq _ hb1)

end
end Go.Am
