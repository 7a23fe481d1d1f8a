/- The texts of this part, one behind the other: what is proved of the model and of the functions that the law reaches. -/
import Derived.Test.YtlbnhokhhangdaaTe4
import Derived.Orders
/- Regions whose order Go leaves open: one walk in a canonical order, with what is read looked at again behind each change, holds for every order. -/
set_option linter.unusedVariables false
set_option linter.unusedSimpArgs false
set_option linter.unnecessarySimpa false
namespace Go.Am
open Go

def tmpsOf : List Operand → List Nat
  | [] => []
  | .tmp t :: r => t :: tmpsOf r
  | _ :: r => tmpsOf r

/-- The slots that an operation looks at. -/
def slotsOf (ops : Array Oper) (o : Oper) : List Nat :=
  match o.guard with
  | some (j, _) => match (ops[j]?).bind (·.dst) with
    | some d => d :: tmpsOf o.op.operands.toList
    | none => tmpsOf o.op.operands.toList
  | none => tmpsOf o.op.operands.toList

def restr (ds : List Nat) : Frame → Frame
  | [] => []
  | (k, v) :: r => bif memN ds k then (k, v) :: restr ds r else restr ds r

theorem restr_look (ds : List Nat) : ∀ (σ : Frame) (t : Nat), flook (restr ds σ) t = if t ∈ ds then flook σ t else none
  | [], t => by simp [restr, flook]
  | (k, v) :: r, t => by
    have ih := restr_look ds r t
    simp only [restr]
    cases hm : memN ds k with
    | true =>
      have hk := (memN_iff ds k).1 hm
      simp only [cond_true, flook]
      by_cases c : k = t
      · subst c; simp [hk]
      · rw [nbeq_ne c]; simpa using ih
    | false =>
      have hk : k ∉ ds := fun h => by rw [(memN_iff ds k).2 h] at hm; cases hm
      simp only [cond_false, ih, flook]
      by_cases c : k = t
      · subst c; simp [hk]
      · rw [nbeq_ne c]; simp

/-- Gives this value, and changes nothing. -/
def Det (P : Program) (o : Oper) (ds : List Nat) (σ : Frame) (loc : Loc) (H : Heap) (v : AV) : Prop :=
  OpT P o (ev (restr ds σ)) loc H fun r l h => r = v ∧ l = loc ∧ h = H

/-- The same, of one that may be guarded. -/
def DetG (P : Program) (ops : Array Oper) (o : Oper) (σ : Frame) (loc : Loc) (H : Heap) (v : AV) : Prop :=
  match o.guard with
  | none => Det P o (slotsOf ops o) σ loc H v
  | some (j, w) => ∃ d, (ops[j]?).bind (·.dst) = some d ∧
      ((∃ b, flook σ d = some (.bool b) ∧ (b = w → Det P o (slotsOf ops o) σ loc H v) ∧ (b = (!w) → v = .tuple [])) ∨ (flook σ d = some (.tuple []) ∧ v = .tuple []))

inductive DK where
  | pure | read | eff

def DK.isEff : DK → Bool
  | .eff => true
  | _ => false

def Chk (P : Program) (ops : Array Oper) (pre : List Nat) (loc : Loc) (H : Heap) : List (Nat × Oper × Frame × AV) → Prop
  | [] => True
  | (j, o, σ, v) :: r => (memN pre j = true ∨ DetG P ops o σ loc H v) ∧ Chk P ops pre loc H r

def DRun (P : Program) (N : Nat) (ops : Array Oper) (tab : List (List Nat)) : List (Nat × DK) → List (Nat × Oper × Frame × AV) → Frame → Loc → Heap → Kont → Prop
  | [], _, σ, loc, H, K => K σ loc H
  | (i, .pure) :: t, log, σ, loc, H, K => ∃ o v, ops[i]? = some o ∧ dstOk N o.dst = true ∧ (∀ loc H, DetG P ops o σ loc H v) ∧ DRun P N ops tab t log (fput σ o.dst v) loc H K
  | (i, .read) :: t, log, σ, loc, H, K => ∃ o v, ops[i]? = some o ∧ dstOk N o.dst = true ∧ DetG P ops o σ loc H v ∧ DRun P N ops tab t ((i, o, σ, v) :: log) (fput σ o.dst v) loc H K
  | (i, .eff) :: t, log, σ, loc, H, K => ∃ o, ops[i]? = some o ∧ dstOk N o.dst = true ∧ o.guard = none ∧
      OpT P o (ev (restr (slotsOf ops o) σ)) loc H fun r l h => Chk P ops ((tab[i]?).getD []) l h log ∧ DRun P N ops tab t log (fput σ o.dst r) l h K

def edges (o : Oper) : List Nat := (o.after.toList.filter fun e => Region.binds .any e).map (·.on)

def subN (a b : List Nat) : Bool :=
  match a with
  | [] => true
  | x :: r => memN b x && subN r b

/-- Each that is told to stand before an operation: by an edge of its own, or before one that does. -/
def tabOk (ops : Array Oper) (tab : List (List Nat)) : Nat → List (List Nat) → Bool
  | _, [] => true
  | i, l :: r => (match ops[i]? with
    | some o => (l.all fun j => memN (edges o) j || (edges o).any fun k => memN ((tab[k]?).getD []) j) && (edges o).all (fun k => Nat.blt k ops.size)
    | none => false) && tabOk ops tab (i + 1) r

def clash (ops : Array Oper) (a b : Oper) : Bool :=
  (match a.dst with
  | some d => memN (slotsOf ops b) d || (match b.dst with | some e => Nat.beq d e | none => false)
  | none => false) ||
  (match b.dst with
  | some d => memN (slotsOf ops a) d
  | none => false)

/-- Behind a at its place: what a changes, or clashes with, stands behind it in every order; no edge leads back. -/
def behindOk (ops : Array Oper) (tab : List (List Nat)) (i : Nat) (k : DK) (o : Oper) : List (Nat × DK) → Bool
  | [] => true
  | (j, _) :: r => (match ops[j]? with
    | some u => (bif k.isEff || clash ops o u then memN ((tab[j]?).getD []) i else true) && !(Nat.beq i j) && !(memN (edges o) j)
    | none => false) && behindOk ops tab i k o r

def canonOk (ops : Array Oper) (tab : List (List Nat)) : List (Nat × DK) → Bool
  | [] => true
  | (i, k) :: r => (match ops[i]? with
    | some o => behindOk ops tab i k o r && !(memN (edges o) i)
    | none => false) && canonOk ops tab r

def drawOk (ops : Array Oper) (tab : List (List Nat)) (canon : List (Nat × DK)) : Bool :=
  Nat.beq canon.length ops.size && (Nat.beq tab.length ops.size && (tabOk ops tab 0 tab && (canonOk ops tab canon && subN (List.range ops.size) (canon.map (·.1)))))

/-- An operation that has its place in the canonical walk, the frame ahead of it, and what it gave. -/
structure Ent where
  i : Nat
  k : DK
  o : Oper
  σ : Frame
  v : AV

def runE (σ : Frame) : List Ent → Frame
  | [] => σ
  | e :: r => runE (fput σ e.o.dst e.v) r

def Consist (ops : Array Oper) (N : Nat) : Frame → List Ent → Prop
  | _, [] => True
  | σ, e :: r => e.σ = σ ∧ ops[e.i]? = some e.o ∧ dstOk N e.o.dst = true ∧ Consist ops N (fput σ e.o.dst e.v) r

def frameD (D : Nat → Bool) (σ : Frame) : List Ent → Frame
  | [] => σ
  | e :: r => frameD D (bif D e.i then fput σ e.o.dst e.v else σ) r

def valD (D : Nat → Bool) (t : Nat) (x : AV) : List Ent → AV
  | [] => x
  | e :: r => valD D t (if D e.i = true ∧ e.o.dst = some t then e.v else x) r

theorem fget_fput (σ : Frame) (dst : Option Tmp) (v : AV) (t : Nat) : fget (fput σ dst v) t = if dst = some t then v else fget σ t := by
  cases dst with
  | none => simp [fput]
  | some d => simp only [fput, fget_cons, Option.some.injEq]

theorem fget_frameD (D : Nat → Bool) (t : Nat) : ∀ (es : List Ent) (σ : Frame), fget (frameD D σ es) t = valD D t (fget σ t) es
  | [], σ => rfl
  | e :: r, σ => by
    simp only [frameD, valD]
    rw [fget_frameD D t r]
    congr 1
    cases D e.i with
    | true => simp [fget_fput]
    | false => simp

theorem fget_runE (t : Nat) : ∀ (es : List Ent) (σ : Frame), fget (runE σ es) t = valD (fun _ => true) t (fget σ t) es
  | [], σ => rfl
  | e :: r, σ => by
    simp only [runE, valD]
    rw [fget_runE t r, fget_fput]
    simp

theorem valD_congr {D D' : Nat → Bool} {t : Nat} : ∀ {es : List Ent} {x : AV}, (∀ e ∈ es, e.o.dst = some t → D e.i = D' e.i) → valD D t x es = valD D' t x es
  | [], _, _ => rfl
  | e :: r, x, h => by
    simp only [valD]
    have : (if D e.i = true ∧ e.o.dst = some t then e.v else x) = (if D' e.i = true ∧ e.o.dst = some t then e.v else x) := by
      by_cases c : e.o.dst = some t
      · rw [h e (by simp) c]
      · simp [c]
    rw [this]
    exact valD_congr fun e he => h e (by simp [he])

theorem valD_none {D : Nat → Bool} {t : Nat} : ∀ {es : List Ent} {x : AV}, (∀ e ∈ es, e.o.dst = some t → D e.i = false) → valD D t x es = x
  | [], _, _ => rfl
  | e :: r, x, h => by
    simp only [valD]
    have : (if D e.i = true ∧ e.o.dst = some t then e.v else x) = x := by
      by_cases c : e.o.dst = some t
      · simp [h e (by simp) c]
      · simp [c]
    rw [this]
    exact valD_none fun e he => h e (by simp [he])

theorem valD_append {D : Nat → Bool} {t : Nat} : ∀ (a b : List Ent) (x : AV), valD D t x (a ++ b) = valD D t (valD D t x a) b
  | [], _, _ => rfl
  | e :: a, b, x => by simp only [List.cons_append, valD, valD_append a b]

theorem runE_append : ∀ (a b : List Ent) (σ : Frame), runE σ (a ++ b) = runE (runE σ a) b
  | [], _, _ => rfl
  | e :: a, b, σ => by simp only [List.cons_append, runE, runE_append a b]

theorem Consist.append {ops N} : ∀ {a b : List Ent} {σ : Frame}, Consist ops N σ a → Consist ops N (runE σ a) b → Consist ops N σ (a ++ b)
  | [], _, _, _, h => h
  | e :: a, b, σ, h, k => ⟨h.1, h.2.1, h.2.2.1, Consist.append h.2.2.2 k⟩

theorem Consist.split {ops N} : ∀ {a b : List Ent} {σ : Frame}, Consist ops N σ (a ++ b) → Consist ops N σ a ∧ Consist ops N (runE σ a) b
  | [], _, _, h => ⟨trivial, h⟩
  | e :: a, b, σ, h => ⟨⟨h.1, h.2.1, h.2.2.1, (Consist.split h.2.2.2).1⟩, (Consist.split h.2.2.2).2⟩

/-- What the checks say of two places of the canonical walk. -/
theorem canon_pair {ops : Array Oper} {tab : List (List Nat)} : ∀ {canon : List (Nat × DK)} (a b : List (Nat × DK)) (x : Nat × DK), canonOk ops tab canon = true → canon = a ++ x :: b →
    ∃ o, ops[x.1]? = some o ∧ memN (edges o) x.1 = false ∧ ∀ y ∈ b, ∃ u, ops[y.1]? = some u ∧ (x.2.isEff = true ∨ clash ops o u = true → x.1 ∈ (tab[y.1]?).getD []) ∧ x.1 ≠ y.1 ∧ y.1 ∉ edges o := by
  intro canon a b x h e
  subst e
  induction a with
  | cons c a ih =>
    simp only [List.cons_append, canonOk, Bool.and_eq_true] at h
    exact ih h.2
  | nil =>
    obtain ⟨i, k⟩ := x
    simp only [List.nil_append, canonOk, Bool.and_eq_true] at h
    cases ho : ops[i]? with
    | none => rw [ho] at h; cases h.1
    | some o =>
      rw [ho] at h
      simp only [Bool.and_eq_true, Bool.not_eq_true'] at h
      refine ⟨o, rfl, h.1.2, ?_⟩
      have hb := h.1.1
      clear h
      induction b with
      | nil => exact fun y hy => absurd hy (by simp)
      | cons y b ih =>
        obtain ⟨j, kj⟩ := y
        simp only [behindOk, Bool.and_eq_true] at hb
        intro z hz
        rcases List.mem_cons.1 hz with rfl | hz
        · cases hu : ops[j]? with
          | none => rw [hu] at hb; cases hb.1
          | some u =>
            rw [hu] at hb
            simp only [Bool.and_eq_true, Bool.not_eq_true'] at hb
            obtain ⟨⟨⟨h1, h2⟩, h3⟩, -⟩ := hb
            refine ⟨u, rfl, fun c => ?_, fun e => ?_, fun m => ?_⟩
            · have : (k.isEff || clash ops o u) = true := by rcases c with c | c <;> simp [c]
              rw [this] at h1
              exact (memN_iff _ _).1 h1
            · have e : i = j := e
              subst e; simp at h2
            · rw [(memN_iff _ _).2 m] at h3; cases h3
        · exact ih hb.2 z hz

theorem tab_ok' {ops : Array Oper} {tab : List (List Nat)} : ∀ {l : List (List Nat)} {i : Nat}, tabOk ops tab i l = true → ∀ n, n < l.length →
    ∃ o, ops[i + n]? = some o ∧ (∀ j ∈ (l[n]?).getD [], j ∈ edges o ∨ ∃ k ∈ edges o, j ∈ (tab[k]?).getD []) ∧ ∀ k ∈ edges o, k < ops.size := by
  intro l
  induction l with
  | nil => intro i _ n hn; simp at hn
  | cons x l ih =>
    intro i h n hn
    simp only [tabOk, Bool.and_eq_true] at h
    cases n with
    | zero =>
      cases ho : ops[i]? with
      | none => rw [ho] at h; cases h.1
      | some o =>
        rw [ho] at h
        simp only [Bool.and_eq_true, List.all_eq_true, Bool.or_eq_true, List.any_eq_true] at h
        refine ⟨o, by simpa using ho, fun j hj => ?_, fun k hk => ?_⟩
        · rcases h.1.1 j (by simpa using hj) with c | ⟨k, hk, c⟩
          · exact .inl ((memN_iff _ _).1 c)
          · exact .inr ⟨k, hk, (memN_iff _ _).1 c⟩
        · have := h.1.2 k hk
          have := Nat.le_of_ble_eq_true this
          omega
    | succ n =>
      obtain ⟨o, h1, h2, h3⟩ := ih h.2 n (by simpa using hn)
      exact ⟨o, by rw [← h1]; congr 1; omega, by simpa using h2, h3⟩

section
variable {ro : Option Nat} {p : Pr} {P : Program} {N : Nat} {ops : Array Oper} {tab : List (List Nat)} {canon : List (Nat × DK)} {σ0 : Frame} {K : Kont}

structure DInv (P : Program) (N : Nat) (ops : Array Oper) (tab : List (List Nat)) (canon : List (Nat × DK)) (σ0 : Frame) (K : Kont) (b : Base) (D : Nat → Bool) (a : Act) (w : World)
    (es : List Ent) (post : List (Nat × DK)) (log : List (Nat × Oper × Frame × AV)) (loc : Loc) (H : Heap) (G : Gh) (B : List Nat) : Prop where
  split : canon = es.map (fun e => (e.i, e.k)) ++ post
  cons : Consist ops N σ0 es
  head : post = [] ∨ ∃ i t, post = (i, .eff) :: t ∧ D i = false
  effs : ∀ e ∈ es, e.k.isEff = true → D e.i = true
  dout : ∀ i, D i = true → ∃ e ∈ es, e.i = i
  run : DRun P N ops tab post log (runE σ0 es) loc H K
  undone : ∀ e ∈ es, D e.i = false → DetG P ops e.o e.σ loc H e.v
  logged : ∀ e ∈ es, D e.i = false → (∀ loc H, DetG P ops e.o e.σ loc H e.v) ∨ (e.i, e.o, e.σ, e.v) ∈ log
  closed : ∀ i, D i = true → ∀ j ∈ (tab[i]?).getD [], D j = true
  size : a.tmps.size = N
  fr : FR G B (frameD D σ0 es) a.tmps
  mem : MRel G B loc H w
  since : Since b a w G H B

theorem frameD_false {D : Nat → Bool} : ∀ {es : List Ent} {σ : Frame}, (∀ e ∈ es, D e.i = false) → frameD D σ es = σ
  | [], _, _ => rfl
  | e :: r, σ, h => by
    simp only [frameD, h e (by simp), cond_false]
    exact frameD_false fun e he => h e (by simp [he])

theorem frameD_append (D : Nat → Bool) : ∀ (a b : List Ent) (σ : Frame), frameD D σ (a ++ b) = frameD D (frameD D σ a) b
  | [], _, _ => rfl
  | e :: a, b, σ => by simp only [List.cons_append, frameD, frameD_append D a b]

/-- Ahead to the next change, or to the end. -/
theorem advance {loc : Loc} {H : Heap} : ∀ (post : List (Nat × DK)) (log : List (Nat × Oper × Frame × AV)) (σ : Frame), DRun P N ops tab post log σ loc H K →
    ∃ (es : List Ent) (post' : List (Nat × DK)) (log' : List (Nat × Oper × Frame × AV)), post = es.map (fun e => (e.i, e.k)) ++ post' ∧ Consist ops N σ es ∧ (post' = [] ∨ ∃ i t, post' = (i, .eff) :: t) ∧
      (∀ e ∈ es, e.k.isEff = false) ∧ DRun P N ops tab post' log' (runE σ es) loc H K ∧ (∀ e ∈ es, DetG P ops e.o e.σ loc H e.v) ∧
      (∀ e ∈ es, (∀ loc H, DetG P ops e.o e.σ loc H e.v) ∨ (e.i, e.o, e.σ, e.v) ∈ log') ∧ ∀ x ∈ log, x ∈ log'
  | [], log, σ, h => ⟨[], [], log, rfl, trivial, .inl rfl, fun e he => absurd he (by simp), h, fun e he => absurd he (by simp), fun e he => absurd he (by simp), fun x hx => hx⟩
  | (i, .eff) :: t, log, σ, h => ⟨[], _, log, rfl, trivial, .inr ⟨i, t, rfl⟩, fun e he => absurd he (by simp), h, fun e he => absurd he (by simp), fun e he => absurd he (by simp), fun x hx => hx⟩
  | (i, .pure) :: t, log, σ, h => by
    obtain ⟨o, v, h1, h2, h3, h4⟩ := h
    obtain ⟨es, post', log', a, b, c, d, e, f, g, k⟩ := advance t log _ h4
    refine ⟨⟨i, .pure, o, σ, v⟩ :: es, post', log', by rw [a]; rfl, ⟨rfl, h1, h2, b⟩, c, ?_, e, ?_, ?_, k⟩
    · intro x hx; rcases List.mem_cons.1 hx with rfl | hx
      · rfl
      · exact d x hx
    · intro x hx; rcases List.mem_cons.1 hx with rfl | hx
      · exact h3 _ _
      · exact f x hx
    · intro x hx; rcases List.mem_cons.1 hx with rfl | hx
      · exact .inl h3
      · exact g x hx
  | (i, .read) :: t, log, σ, h => by
    obtain ⟨o, v, h1, h2, h3, h4⟩ := h
    obtain ⟨es, post', log', a, b, c, d, e, f, g, k⟩ := advance t _ _ h4
    refine ⟨⟨i, .read, o, σ, v⟩ :: es, post', log', by rw [a]; rfl, ⟨rfl, h1, h2, b⟩, c, ?_, e, ?_, ?_, fun x hx => k x (List.mem_cons_of_mem _ hx)⟩
    · intro x hx; rcases List.mem_cons.1 hx with rfl | hx
      · rfl
      · exact d x hx
    · intro x hx; rcases List.mem_cons.1 hx with rfl | hx
      · exact h3
      · exact f x hx
    · intro x hx; rcases List.mem_cons.1 hx with rfl | hx
      · exact .inr (k _ (by simp))
      · exact g x hx

theorem clash_l {a b : Oper} {t : Nat} (hd : a.dst = some t) (hs : t ∈ slotsOf ops b) : clash ops a b = true := by
  simp [clash, hd, (memN_iff _ _).2 hs]
theorem clash_r {a b : Oper} {t : Nat} (hd : b.dst = some t) (hs : t ∈ slotsOf ops a) : clash ops a b = true := by
  simp [clash, hd, (memN_iff _ _).2 hs]
theorem clash_d {a b : Oper} {t : Nat} (ha : a.dst = some t) (hb : b.dst = some t) : clash ops a b = true := by
  simp [clash, ha, hb]

/-- An operation's own slots hold what the canonical walk says, where all that stands ahead of it is done, and nothing behind it. -/
theorem agree {D : Nat → Bool} {l r : List Ent} {o : Oper} {t : Nat} (hl : ∀ e ∈ l, e.o.dst = some t → D e.i = true) (hr : ∀ e ∈ r, e.o.dst = some t → D e.i = false) :
    fget (frameD D σ0 (l ++ r)) t = fget (runE σ0 l) t := by
  rw [fget_frameD, fget_runE, valD_append, valD_none hr]
  exact valD_congr fun e he c => hl e he c

theorem canon_nodup : ∀ {canon : List (Nat × DK)}, canonOk ops tab canon = true → (canon.map (·.1)).Nodup
  | [], _ => List.nodup_nil
  | x :: r, h => by
    obtain ⟨o, -, -, h2⟩ := canon_pair [] r x h rfl
    simp only [canonOk, Bool.and_eq_true] at h
    rw [List.map_cons, List.nodup_cons]
    refine ⟨fun m => ?_, canon_nodup h.2⟩
    obtain ⟨y, hy, e⟩ := List.mem_map.1 m
    obtain ⟨u, -, -, h3, -⟩ := h2 y hy
    exact h3 e.symm

theorem chk_mem {pre : List Nat} {loc : Loc} {H : Heap} : ∀ {log : List (Nat × Oper × Frame × AV)}, Chk P ops pre loc H log → ∀ x ∈ log, memN pre x.1 = true ∨ DetG P ops x.2.1 x.2.2.1 loc H x.2.2.2
  | [], _, x, hx => absurd hx (by simp)
  | (j, o, σ, v) :: r, h, x, hx => by
    rcases List.mem_cons.1 hx with rfl | hx
    · exact h.1
    · exact chk_mem h.2 x hx

theorem Consist.at {ops N} : ∀ {l r : List Ent} {e : Ent} {σ : Frame}, Consist ops N σ (l ++ e :: r) → e.σ = runE σ l ∧ ops[e.i]? = some e.o ∧ dstOk N e.o.dst = true := by
  intro l r e σ h
  have := (Consist.split h).2
  exact ⟨this.1, this.2.1, this.2.2.1⟩

/-- The relation of operands, where the slots that count agree. -/
theorem restr_rel {G B} {a : Act} {σ σD : Frame} {ds : List Nat} (hf : FR G B σD a.tmps) (h : ∀ t ∈ ds, fget σD t = fget σ t) (x : Operand) : VR G B (ev (restr ds σ) x) (a.eval x) := by
  cases x with
  | tmp t =>
    by_cases c : t ∈ ds
    · have e : ev (restr ds σ) (.tmp t) = fget σ t := by simp [ev, evo, restr_look, c, fget]
      rw [e, ← h t c]; exact hf t
    · have e : ev (restr ds σ) (.tmp t) = .any := by simp [ev, evo, restr_look, c]
      rw [e]; exact .any _ _
  | const v => exact ofConst_rel _ _ _
  | global g => exact .ptr _ _ _
  | func f => exact .func _ _ _ _ _ _ rfl rfl (fun i hi => absurd hi (by simp)) (fun i hi => absurd hi (by simp))

theorem pair_entries {D : Nat → Bool} {b : Base} {a : Act} {w : World} {es : List Ent} {post : List (Nat × DK)} {log loc H G B} (hI : DInv P N ops tab canon σ0 K b D a w es post log loc H G B)
    (hc : canonOk ops tab canon = true) {l m r : List Ent} {e e' : Ent} (hs : es = l ++ e :: (m ++ e' :: r)) :
    (e.k.isEff = true ∨ clash ops e.o e'.o = true → e.i ∈ (tab[e'.i]?).getD []) := by
  have h1 := hI.split
  rw [hs] at h1
  simp only [List.map_append, List.map_cons, List.append_assoc, List.cons_append] at h1
  obtain ⟨o, g1, -, g3⟩ := canon_pair _ _ _ hc h1
  obtain ⟨u, g4, g5, -⟩ := g3 (e'.i, e'.k) (by simp)
  have c := hI.cons
  rw [hs] at c
  have c1 := (Consist.at c).2.1
  have c2 : ops[e'.i]? = some e'.o := by
    have : l ++ e :: (m ++ e' :: r) = (l ++ e :: m) ++ e' :: r := by simp
    rw [this] at c
    exact (Consist.at c).2.1
  simp only at g1 g4
  rw [c1] at g1; rw [c2] at g4
  cases g1; cases g4
  exact g5

theorem pair_post {D : Nat → Bool} {b : Base} {a : Act} {w : World} {es : List Ent} {post : List (Nat × DK)} {log loc H G B} (hI : DInv P N ops tab canon σ0 K b D a w es post log loc H G B)
    (hc : canonOk ops tab canon = true) {l r : List Ent} {e : Ent} (hs : es = l ++ e :: r) {y : Nat × DK} (hy : y ∈ post) {u : Oper} (hu : ops[y.1]? = some u) :
    (e.k.isEff = true ∨ clash ops e.o u = true → e.i ∈ (tab[y.1]?).getD []) := by
  have h1 := hI.split
  rw [hs] at h1
  simp only [List.map_append, List.map_cons, List.append_assoc, List.cons_append] at h1
  obtain ⟨o, g1, -, g3⟩ := canon_pair _ _ _ hc h1
  obtain ⟨u', g4, g5, -⟩ := g3 y (by simp [hy])
  have c := hI.cons
  rw [hs] at c
  have c1 := (Consist.at c).2.1
  simp only at g1
  rw [c1] at g1; rw [hu] at g4
  cases g1; cases g4
  exact g5

def addD (D : Nat → Bool) (i : Nat) : Nat → Bool := fun k => D k || Nat.beq k i

theorem addD_self (D : Nat → Bool) (i : Nat) : addD D i i = true := by simp [addD]
theorem addD_ne {D : Nat → Bool} {i k : Nat} (h : k ≠ i) : addD D i k = D k := by simp [addD, nbeq_ne h]

set_option maxHeartbeats 1000000 in
theorem step_in {D : Nat → Bool} {b : Base} {a : Act} {w : World} {es : List Ent} {post : List (Nat × DK)} {log loc H G B} (hI : DInv P N ops tab canon σ0 K b D a w es post log loc H G B)
    (hc : canonOk ops tab canon = true) {l r : List Ent} {e : Ent} (hs : es = l ++ e :: r) (hD : D e.i = false) (hpre : ∀ j ∈ (tab[e.i]?).getD [], D j = true)
    {Q : Exit → Act → World → Prop} {K' : Act → World → Prop}
    (hK : ∀ a' w' G' B', DInv P N ops tab canon σ0 K b (addD D e.i) a' w' es post log loc H G' B' → K' a' w') : wpOpIn (FW ro) 0 P ops Q e.i K' a w := by
  have hcons := hI.cons
  rw [hs] at hcons
  obtain ⟨hσ, ho, hdst⟩ := Consist.at hcons
  have hnd := canon_nodup hc
  rw [hI.split, hs] at hnd
  simp only [List.map_append, List.map_cons, List.map_map] at hnd
  have hne : ∀ e' ∈ l ++ r, e'.i ≠ e.i := by
    intro e' he' c
    rw [List.append_assoc, List.nodup_append] at hnd
    obtain ⟨n1, n2, n3⟩ := hnd
    rcases List.mem_append.1 he' with m | m
    · exact n3 e'.i (List.mem_map.2 ⟨e', m, rfl⟩) e.i (by simp) c
    · rw [List.cons_append, List.nodup_cons] at n2
      exact n2.1 (List.mem_append.2 (.inl (List.mem_map.2 ⟨e', m, c⟩)))
  have hlD : ∀ e' ∈ l, clash ops e'.o e.o = true → D e'.i = true := by
    intro e' m c
    obtain ⟨l1, l2, rfl⟩ := List.append_of_mem m
    exact hpre _ (pair_entries hI hc (l := l1) (m := l2) (r := r) (by rw [hs]; simp) (.inr c))
  have hrD : ∀ e' ∈ r, clash ops e.o e'.o = true → D e'.i = false := by
    intro e' m c
    obtain ⟨r1, r2, rfl⟩ := List.append_of_mem m
    have := pair_entries hI hc (l := l) (m := r1) (r := r2) hs (.inr c)
    cases hd : D e'.i with
    | false => rfl
    | true => have := hI.closed _ hd _ this; rw [hD] at this; cases this
  have hag : ∀ t ∈ slotsOf ops e.o, fget (frameD D σ0 es) t = fget e.σ t := by
    intro t ht
    rw [hσ, hs]
    refine agree (o := e.o) (fun e' m c => hlD e' m (clash_l c ht)) (fun e' m c => ?_)
    rcases List.mem_cons.1 m with rfl | m
    · exact hD
    · exact hrD e' m (clash_r c ht)
  have hrel := fun x => restr_rel (a := a) hI.fr hag x
  -- what the frame holds behind it
  have hfr : ∀ {G' B' : _} {x : Value}, FR G' B' (frameD D σ0 es) a.tmps → VR G' B' e.v x → FR G' B' (frameD (addD D e.i) σ0 es) (a.put e.o.dst x).tmps := by
    intro G' B' x hf hv
    have hp := hf.put (dst := e.o.dst) (by rw [hI.size]; exact hdst) hv
    intro t
    have := hp t
    rw [fget_fput] at this
    have e2 : fget (frameD (addD D e.i) σ0 es) t = if e.o.dst = some t then e.v else fget (frameD D σ0 es) t := by
      rw [fget_frameD, fget_frameD, hs, valD_append, valD_append]
      simp only [valD, addD_self, hD, true_and, Bool.false_eq_true, false_and, if_false]
      have el : valD (addD D e.i) t (fget σ0 t) l = valD D t (fget σ0 t) l := valD_congr fun e' m _ => addD_ne (hne e' (by simp [m]))
      rw [el]
      by_cases c : e.o.dst = some t
      · rw [if_pos c, if_pos c]
        exact valD_none fun e' m c' => by
          rw [addD_ne (hne e' (by simp [m]))]
          exact hrD e' m (clash_d c c')
      · rw [if_neg c, if_neg c]
        exact valD_congr fun e' m _ => addD_ne (hne e' (by simp [m]))
    rw [e2]; exact this
  have hinv : ∀ {a' w' G' B'}, a'.tmps.size = N → FR G' B' (frameD (addD D e.i) σ0 es) a'.tmps → MRel G' B' loc H w' → Since b a' w' G' H B' →
      DInv P N ops tab canon σ0 K b (addD D e.i) a' w' es post log loc H G' B' := by
    intro a' w' G' B' d2 d3 d4 d5
    refine ⟨hI.split, hI.cons, ?_, ?_, ?_, hI.run, ?_, ?_, ?_, d2, d3, d4, d5⟩
    · rcases hI.head with h | ⟨i, t, h, hd⟩
      · exact .inl h
      · refine .inr ⟨i, t, h, ?_⟩
        rw [addD_ne]
        · exact hd
        · rintro rfl
          rw [h] at hnd
          rw [List.append_assoc, List.nodup_append] at hnd
          have := hnd.2.1
          rw [List.cons_append, List.nodup_cons] at this
          exact this.1 (by simp)
    · intro e' m c
      by_cases q : e'.i = e.i
      · rw [q]; exact addD_self _ _
      · rw [addD_ne q]; exact hI.effs e' m c
    · intro i hi
      by_cases q : i = e.i
      · exact ⟨e, by rw [hs]; simp, q.symm⟩
      · rw [addD_ne q] at hi; exact hI.dout i hi
    · intro e' m c
      have q : e'.i ≠ e.i := fun q => by rw [q, addD_self] at c; cases c
      rw [addD_ne q] at c; exact hI.undone e' m c
    · intro e' m c
      have q : e'.i ≠ e.i := fun q => by rw [q, addD_self] at c; cases c
      rw [addD_ne q] at c; exact hI.logged e' m c
    · intro i hi j hj
      have up : D j = true → addD D e.i j = true := fun h => by simp [addD, h]
      by_cases q : i = e.i
      · rw [q] at hj; exact up (hpre j hj)
      · rw [addD_ne q] at hi; exact up (hI.closed i hi j hj)
  have exec : Det P e.o (slotsOf ops e.o) e.σ loc H e.v → e.o.wpIn (FW ro) 0 P a w K' Q := by
    intro hd
    refine (hd G B w a.eval hrel hI.mem (fun _ => rfl)).wp ?_
    rintro v w' ⟨r', l', H', G', B', q1, q2, q3, rfl, rfl, rfl⟩
    refine hK _ _ G' B' (hinv ?_ (hfr (hI.fr.mono q3.le q3.pre) q1) q2 (hI.since.step q3 (put_defers _ _ _)))
    · cases e.o.dst <;> simp [Act.put, hI.size]
  have pass : e.v = .tuple [] → K' (a.put e.o.dst undef) w := by
    intro hv
    refine hK _ _ G B (hinv ?_ (hfr hI.fr ?_) hI.mem (hI.since.put _ _))
    · cases e.o.dst <;> simp [Act.put, hI.size]
    · rw [hv]; exact .tuple _ _ _ rfl (fun i hi => absurd hi (by simp))
  have hdet := hI.undone e (by rw [hs]; simp) hD
  unfold wpOpIn
  rw [ho]
  simp only
  unfold DetG at hdet
  cases hg : e.o.guard with
  | none =>
    rw [hg] at hdet
    rw [if_pos (by simp [Region.wanted, hg])]
    exact exec hdet
  | some g =>
    obtain ⟨j, wt⟩ := g
    rw [hg] at hdet
    obtain ⟨d, hj, hh⟩ := hdet
    have hdm : d ∈ slotsOf ops e.o := by simp [slotsOf, hg, hj]
    have hfd := hI.fr d
    rw [hag d hdm] at hfd
    have hfd' : ∀ {av : AV}, flook e.σ d = some av → VR G B av (a.tmps.getD d undef) := fun h => by simpa [fget, h] using hfd
    rcases hh with ⟨bb, hb, h1, h2⟩ | ⟨hb, h1⟩
    · have hv := hfd' hb
      have hd2 : a.tmps[d]? = some (.bool bb) := by
        rw [Array.getD_eq_getD_getElem?] at hv
        cases e' : a.tmps[d]? with
        | none => rw [e'] at hv; simp [undef] at hv; cases hv
        | some v => rw [e'] at hv; simp at hv; cases hv; rfl
      have hy : yielded ops a.tmps j = some bb := by simp [yielded, hj, hd2]
      by_cases c : bb = wt
      · rw [if_pos (by simp [Region.wanted, hg, hy, c])]
        exact exec (h1 c)
      · rw [if_neg (by simp [Region.wanted, hg, hy, c])]
        exact ⟨fun _ _ => trivial, pass (h2 (by cases bb <;> cases wt <;> simp_all))⟩
    · have hv := hfd' hb
      have hy : yielded ops a.tmps j = none := by
        rw [Array.getD_eq_getD_getElem?] at hv
        cases e' : a.tmps[d]? with
        | none => simp [yielded, hj, e']
        | some v => rw [e'] at hv; simp at hv; cases hv; simp [yielded, hj, e']
      rw [if_neg (by simp [Region.wanted, hg, hy])]
      exact ⟨fun _ _ => trivial, pass h1⟩

set_option maxHeartbeats 1000000 in
theorem step_out {D : Nat → Bool} {b : Base} {a : Act} {w : World} {es : List Ent} {post : List (Nat × DK)} {log loc H G B} (hI : DInv P N ops tab canon σ0 K b D a w es post log loc H G B)
    (hc : canonOk ops tab canon = true) {i : Nat} {t : List (Nat × DK)} (hp : post = (i, .eff) :: t) (hD : D i = false) (hpre : ∀ j ∈ (tab[i]?).getD [], D j = true)
    {Q : Exit → Act → World → Prop} {K' : Act → World → Prop}
    (hK : ∀ a' w' es' post' log' loc' H' G' B', DInv P N ops tab canon σ0 K b (addD D i) a' w' es' post' log' loc' H' G' B' → K' a' w') : wpOpIn (FW ro) 0 P ops Q i K' a w := by
  have hrun := hI.run
  rw [hp] at hrun
  obtain ⟨o, ho, hdst, hg, hop⟩ := hrun
  have hnd := canon_nodup hc
  rw [hI.split, hp] at hnd
  simp only [List.map_append, List.map_cons, List.map_map] at hnd
  rw [List.nodup_append] at hnd
  obtain ⟨n1, n2, n3⟩ := hnd
  rw [List.nodup_cons] at n2
  have hne : ∀ e ∈ es, e.i ≠ i := fun e m => n3 e.i (List.mem_map.2 ⟨e, m, rfl⟩) i (by simp)
  have hlD : ∀ e ∈ es, clash ops e.o o = true → D e.i = true := by
    intro e m c
    obtain ⟨l1, l2, hs⟩ := List.append_of_mem m
    exact hpre _ (pair_post hI hc hs (y := (i, .eff)) (by rw [hp]; simp) ho (.inr c))
  have hag : ∀ t ∈ slotsOf ops o, fget (frameD D σ0 es) t = fget (runE σ0 es) t := by
    intro t ht
    have := agree (D := D) (σ0 := σ0) (l := es) (r := []) (o := o) (t := t) (fun e m c => hlD e m (clash_l c ht)) (fun e m => absurd m (by simp))
    simpa using this
  have hrel := fun x => restr_rel (a := a) hI.fr hag x
  unfold wpOpIn
  rw [ho]
  simp only
  rw [if_pos (by simp [Region.wanted, hg])]
  refine ((hop G B w a.eval hrel hI.mem (fun _ => rfl)).wp ?_)
  rintro v w' ⟨r, l', H', G', B', q1, q2, q3, q4, q5⟩
  obtain ⟨es2, post', log', k1, k2, k3, k4, k5, k6, k7, k8⟩ := advance t _ _ q5
  have hfD : ∀ e ∈ es2, D e.i = false ∧ e.i ≠ i := by
    intro e m
    have mt : e.i ∈ t.map (·.1) := by rw [k1]; simp; exact .inl ⟨e, m, rfl⟩
    refine ⟨?_, fun (c : e.i = i) => n2.1 (c ▸ mt)⟩
    cases hd : D e.i with
    | false => rfl
    | true =>
      obtain ⟨e', m', c⟩ := hI.dout _ hd
      exact absurd c (n3 e'.i (List.mem_map.2 ⟨e', m', rfl⟩) e.i (List.mem_cons_of_mem _ mt))
  refine hK _ _ (es ++ ⟨i, .eff, o, runE σ0 es, r⟩ :: es2) post' log' l' H' G' B' ⟨?_, ?_, ?_, ?_, ?_, ?_, ?_, ?_, ?_, ?_, ?_, q2, hI.since.step q3 (put_defers _ _ _)⟩
  · rw [hI.split, hp, k1]; simp
  · exact Consist.append hI.cons ⟨rfl, ho, hdst, k2⟩
  · rcases k3 with h | ⟨i2, t2, h⟩
    · exact .inl h
    · refine .inr ⟨i2, t2, h, ?_⟩
      have mt : i2 ∈ t.map (·.1) := by rw [k1, h]; simp
      rw [addD_ne (fun (c : i2 = i) => n2.1 (c ▸ mt))]
      cases hd : D i2 with
      | false => rfl
      | true =>
        obtain ⟨e', m', c⟩ := hI.dout _ hd
        exact absurd c (n3 e'.i (List.mem_map.2 ⟨e', m', rfl⟩) i2 (List.mem_cons_of_mem _ mt))
  · intro e m c
    rcases List.mem_append.1 m with m | m
    · rw [addD_ne (hne e m)]; exact hI.effs e m c
    · rcases List.mem_cons.1 m with rfl | m
      · exact addD_self _ _
      · rw [k4 e m] at c; cases c
  · intro j hj
    by_cases c : j = i
    · exact ⟨⟨i, .eff, o, runE σ0 es, r⟩, by simp, c.symm⟩
    · rw [addD_ne c] at hj
      obtain ⟨e, m, q⟩ := hI.dout j hj
      exact ⟨e, List.mem_append.2 (.inl m), q⟩
  · rw [runE_append]; exact k5
  · intro e m c
    rcases List.mem_append.1 m with m | m
    · rw [addD_ne (hne e m)] at c
      rcases hI.logged e m c with h | h
      · exact h _ _
      · rcases chk_mem q4 _ h with q | q
        · have := hpre _ ((memN_iff _ _).1 q)
          rw [c] at this; cases this
        · exact q
    · rcases List.mem_cons.1 m with rfl | m
      · rw [addD_self] at c; cases c
      · exact k6 e m
  · intro e m c
    rcases List.mem_append.1 m with m | m
    · rw [addD_ne (hne e m)] at c
      exact (hI.logged e m c).imp id (k8 _)
    · rcases List.mem_cons.1 m with rfl | m
      · rw [addD_self] at c; cases c
      · exact k7 e m
  · intro j hj k hk
    have up : D k = true → addD D i k = true := fun h => by simp [addD, h]
    by_cases q : j = i
    · rw [q] at hk; exact up (hpre k hk)
    · rw [addD_ne q] at hj; exact up (hI.closed j hj k hk)
  · cases o.dst <;> simp [Act.put, hI.size]
  · have e1 : frameD (addD D i) σ0 (es ++ ⟨i, .eff, o, runE σ0 es, r⟩ :: es2) = fput (frameD D σ0 es) o.dst r := by
      rw [frameD_append]
      simp only [frameD, addD_self, cond_true]
      rw [frameD_false (fun e m => by rw [addD_ne (hfD e m).2]; exact (hfD e m).1)]
      congr 1
      have gen : ∀ (es : List Ent) (σ : Frame), (∀ e ∈ es, e.i ≠ i) → frameD (addD D i) σ es = frameD D σ es := by
        intro es
        induction es with
        | nil => intro σ _; rfl
        | cons e es ih => intro σ h; simp only [frameD, addD_ne (h e (by simp))]; exact ih _ fun e m => h e (by simp [m])
      exact gen es σ0 hne
    rw [e1]
    exact (hI.fr.mono q3.le q3.pre).put (by rw [hI.size]; exact hdst) q1

theorem filter_lt {α : Type} {p q : α → Bool} {i : α} : ∀ {l : List α}, i ∈ l → p i = true → q i = false → (∀ x, q x = true → p x = true) → (l.filter q).length < (l.filter p).length := by
  intro l
  have mono : ∀ l : List α, (∀ x, q x = true → p x = true) → (l.filter q).length ≤ (l.filter p).length := by
    intro l h
    induction l with
    | nil => simp
    | cons a l ih =>
      simp only [List.filter_cons]
      cases hq : q a with
      | true => simp [h a hq, ih]
      | false => cases hp : p a <;> simp <;> omega
  induction l with
  | nil => intro h; simp at h
  | cons a l ih =>
    intro hm hp hq h
    simp only [List.filter_cons]
    rcases List.mem_cons.1 hm with rfl | hm
    · simp only [hp, hq, if_true, Bool.false_eq_true, if_false, List.length_cons]
      have := mono l h; omega
    · have := ih hm hp hq h
      cases hqa : q a with
      | true => simp [h a hqa]; exact this
      | false => cases hpa : p a <;> simp <;> omega

theorem subN_iff {a b : List Nat} : subN a b = true → ∀ x ∈ a, x ∈ b := by
  induction a with
  | nil => intro _ x hx; simp at hx
  | cons y a ih =>
    intro h x hx
    simp only [subN, Bool.and_eq_true] at h
    rcases List.mem_cons.1 hx with rfl | hx
    · exact (memN_iff _ _).1 h.1
    · exact ih h.2 x hx

def lst (listed : Array Bool) : Nat → Bool := fun k => listed.getD k false

theorem lst_set {listed : Array Bool} {i : Nat} (h : i < listed.size) : lst (listed.setIfInBounds i true) = addD (lst listed) i := by
  funext k
  by_cases c : k = i
  · subst c; simp [lst, addD_self, h]
  · rw [addD_ne c]
    unfold lst
    rw [Array.getD_eq_getD_getElem?, Array.getD_eq_getD_getElem?, Array.getElem?_setIfInBounds_ne (Ne.symm c)]

theorem frameD_all {D : Nat → Bool} : ∀ {es : List Ent} {σ : Frame}, (∀ e ∈ es, D e.i = true) → frameD D σ es = runE σ es
  | [], _, _ => rfl
  | e :: r, σ, h => by
    simp only [frameD, runE, h e (by simp), cond_true]
    exact frameD_all fun e he => h e (by simp [he])

set_option maxHeartbeats 1000000 in
theorem any_order (hok : drawOk ops tab canon = true) {b : Base} {Q : Exit → Act → World → Prop} (hQ : ∀ a w, Post N b (fun _ => K) .normal a w → Q .normal a w) :
    ∀ (fuel : Nat) (listed : Array Bool) (a : Act) (w : World), listed.size = ops.size → ((List.range ops.size).filter fun i => !(lst listed i)).length ≤ fuel →
    (∃ es post log loc H G B, DInv P N ops tab canon σ0 K b (lst listed) a w es post log loc H G B) → wpAnyIn (FW ro) 0 P .any ops Q fuel listed a w := by
  unfold drawOk at hok
  simp only [Bool.and_eq_true] at hok
  obtain ⟨h1, h2, h3, h4, h5⟩ := hok
  have h1 := Nat.eq_of_beq_eq_true h1
  have h2 := Nat.eq_of_beq_eq_true h2
  have hin : ∀ i, i < ops.size → i ∈ canon.map (·.1) := fun i hi => subN_iff h5 i (by simp [hi])
  have htab : ∀ n, n < ops.size → ∃ o, ops[n]? = some o ∧ (∀ j ∈ (tab[n]?).getD [], j ∈ edges o ∨ ∃ k ∈ edges o, j ∈ (tab[k]?).getD []) ∧ ∀ k ∈ edges o, k < ops.size := fun n hn => by
    have := tab_ok' h3 n (by omega)
    simpa using this
  have hready : ∀ (listed : Array Bool) (i : Nat), listed.size = ops.size → (i ∈ Region.ready .any ops listed ↔ i < ops.size ∧ lst listed i = false ∧ ∃ o, ops[i]? = some o ∧ ∀ k ∈ edges o, lst listed k = true) := by
    intro listed i hs
    simp only [Region.ready, List.mem_filter, List.mem_range, Bool.and_eq_true, Bool.not_eq_true']
    constructor
    · rintro ⟨hi, hl, hr⟩
      refine ⟨hi, ?_, ?_⟩
      · have : i < listed.size := by omega
        simpa [lst, Array.getD_eq_getD_getElem?, this] using hl
      · cases ho : ops[i]? with
        | none => rw [ho] at hr; simp at hr
        | some o =>
          rw [ho] at hr
          refine ⟨o, rfl, fun k hk => ?_⟩
          simp only [edges, List.mem_map, List.mem_filter, Array.mem_toList_iff] at hk
          obtain ⟨e, ⟨he, hb⟩, rfl⟩ := hk
          simp only [Option.map_some, Option.getD_some, Array.all_eq_true_iff_forall_mem, Bool.or_eq_true, Bool.not_eq_true'] at hr
          rcases hr e he with c | c
          · rw [hb] at c; cases c
          · exact c
    · rintro ⟨hi, hl, o, ho, hr⟩
      refine ⟨hi, ?_, ?_⟩
      · have : i < listed.size := by omega
        simpa [lst, Array.getD_eq_getD_getElem?, this] using hl
      · rw [ho]
        simp only [Option.map_some, Option.getD_some, Array.all_eq_true_iff_forall_mem, Bool.or_eq_true, Bool.not_eq_true']
        intro e he
        cases hb : Region.binds .any e with
        | false => exact .inl rfl
        | true => exact .inr (hr e.on (by simp only [edges, List.mem_map, List.mem_filter, Array.mem_toList_iff]; exact ⟨e, ⟨he, hb⟩, rfl⟩))
  -- where nothing is ready all is done
  have hall : ∀ {listed : Array Bool}, listed.size = ops.size → Region.ready .any ops listed = [] → ∀ i, i < ops.size → lst listed i = true := by
    intro listed hs he
    have key : ∀ (pre rest : List (Nat × DK)), canon = pre ++ rest → (∀ x ∈ pre, lst listed x.1 = true) → ∀ x ∈ rest, lst listed x.1 = true := by
      intro pre rest
      induction rest generalizing pre with
      | nil => intro _ _ x hx; simp at hx
      | cons y rest ih =>
        intro hc hpre
        have hy : lst listed y.1 = true := by
          cases hd : lst listed y.1 with
          | true => rfl
          | false =>
            obtain ⟨o, g1, g2, g3⟩ := canon_pair pre rest y h4 hc
            have hyn : y.1 < ops.size := (Array.getElem?_eq_some_iff.1 g1).1
            obtain ⟨o', t1, t2, t3⟩ := htab y.1 hyn
            rw [g1] at t1; cases t1
            have : y.1 ∈ Region.ready .any ops listed := (hready listed y.1 hs).2 ⟨hyn, hd, o, g1, fun k hk => by
              have hkc := hin k (t3 k hk)
              rw [hc] at hkc
              simp only [List.map_append, List.map_cons, List.mem_append, List.mem_cons] at hkc
              rcases hkc with c | c | c
              · obtain ⟨x, hx, rfl⟩ := List.mem_map.1 c; exact hpre x hx
              · rw [c] at hk; rw [(memN_iff _ _).2 hk] at g2; cases g2
              · obtain ⟨x, hx, rfl⟩ := List.mem_map.1 c
                obtain ⟨u, -, -, -, q⟩ := g3 x hx
                exact absurd hk q⟩
            rw [he] at this; simp at this
        have := ih (pre ++ [y]) (by rw [hc]; simp) (fun x hx => by
          rcases List.mem_append.1 hx with c | c
          · exact hpre x c
          · simp at c; subst c; exact hy)
        intro x hx
        rcases List.mem_cons.1 hx with rfl | hx
        · exact hy
        · exact this x hx
    intro i hi
    obtain ⟨x, hx, rfl⟩ := List.mem_map.1 (hin i hi)
    exact key [] canon rfl (fun x hx => absurd hx (by simp)) x hx
  have hend : ∀ {listed : Array Bool} {a : Act} {w : World}, listed.size = ops.size → (∀ i, i < ops.size → lst listed i = true) →
      (∃ es post log loc H G B, DInv P N ops tab canon σ0 K b (lst listed) a w es post log loc H G B) → Q .normal a w := by
    rintro listed a w hs hd ⟨es, post, log, loc, H, G, B, hI⟩
    have hcons : ∀ (es : List Ent) (σ : Frame), Consist ops N σ es → ∀ e ∈ es, e.i < ops.size := by
      intro es
      induction es with
      | nil => intro σ _ e he; simp at he
      | cons x es ih =>
        intro σ h e he
        rcases List.mem_cons.1 he with rfl | he
        · exact (Array.getElem?_eq_some_iff.1 h.2.1).1
        · exact ih _ h.2.2.2 e he
    have hp : post = [] := by
      rcases hI.head with h | ⟨i, t, h, hn⟩
      · exact h
      · have hr := hI.run
        rw [h] at hr
        obtain ⟨o, ho, -⟩ := hr
        have := hd i (Array.getElem?_eq_some_iff.1 ho).1
        rw [hn] at this; cases this
    have hr := hI.run
    rw [hp] at hr
    refine hQ _ _ ⟨runE σ0 es, loc, H, G, B, ⟨hI.size, ?_, hI.mem⟩, hI.since, hr⟩
    have := hI.fr
    rw [frameD_all (fun e he => hd _ (hcons es σ0 hI.cons e he))] at this
    exact this
  intro fuel
  induction fuel with
  | zero =>
    intro listed a w hs hn hI
    have hd : ∀ i, i < ops.size → lst listed i = true := by
      intro i hi
      cases c : lst listed i with
      | true => rfl
      | false =>
        have : i ∈ (List.range ops.size).filter fun i => !(lst listed i) := by simp [hi, c]
        have := List.length_pos_of_mem this
        omega
    refine ⟨?_, hend hs hd hI⟩
    refine List.eq_nil_iff_forall_not_mem.2 fun i hi => ?_
    obtain ⟨q1, q2, -⟩ := (hready listed i hs).1 hi
    rw [hd i q1] at q2; cases q2
  | succ fuel ih =>
    intro listed a w hs hn hI
    refine ⟨fun he => hend hs (hall hs he) hI, fun i hi => ?_⟩
    obtain ⟨q1, q2, o, q3, q4⟩ := (hready listed i hs).1 hi
    obtain ⟨es, post, log, loc, H, G, B, hI⟩ := hI
    obtain ⟨o', t1, t2, t3⟩ := htab i q1
    rw [q3] at t1; cases t1
    have hpre : ∀ j ∈ (tab[i]?).getD [], lst listed j = true := by
      intro j hj
      rcases t2 j hj with c | ⟨k, hk, c⟩
      · exact q4 j c
      · exact hI.closed k (q4 k hk) j c
    have hset := lst_set (listed := listed) (i := i) (by omega)
    have hcnt : ((List.range ops.size).filter fun k => !(lst (listed.setIfInBounds i true) k)).length ≤ fuel := by
      have : ((List.range ops.size).filter fun k => !(lst (listed.setIfInBounds i true) k)).length < ((List.range ops.size).filter fun k => !(lst listed k)).length := by
        refine filter_lt (i := i) (by simp [q1]) (by simp [q2]) (by rw [hset]; simp [addD_self]) (fun x hx => ?_)
        rw [hset] at hx
        simp [addD] at hx ⊢
        exact hx.1
      omega
    have next : ∀ a' w', (∃ es post log loc H G B, DInv P N ops tab canon σ0 K b (addD (lst listed) i) a' w' es post log loc H G B) → wpAnyIn (FW ro) 0 P .any ops Q fuel (listed.setIfInBounds i true) a' w' := by
      intro a' w' h
      exact ih _ a' w' (by simp [hs]) hcnt (by rw [hset]; exact h)
    have hic := hin i q1
    rw [hI.split] at hic
    simp only [List.map_append, List.map_map, List.mem_append] at hic
    rcases hic with c | c
    · obtain ⟨e, he, c⟩ := List.mem_map.1 c
      have c : e.i = i := c
      subst c
      obtain ⟨l, r, hes⟩ := List.append_of_mem he
      exact step_in hI h4 hes q2 hpre fun a' w' G' B' h => next a' w' ⟨_, _, _, _, _, _, _, h⟩
    · rcases hI.head with h | ⟨i0, t, h, hd⟩
      · rw [h] at c; simp at c
      · rw [h] at c
        simp only [List.map_cons, List.mem_cons] at c
        rcases c with c | c
        · subst c
          exact step_out hI h4 h q2 hpre fun a' w' es' post' log' loc' H' G' B' hh => next a' w' ⟨_, _, _, _, _, _, _, hh⟩
        · obtain ⟨x, hx, rfl⟩ := List.mem_map.1 c
          have hsp := hI.split
          rw [h] at hsp
          obtain ⟨o0, -, -, g3⟩ := canon_pair (es.map fun e => (e.i, e.k)) t (i0, .eff) h4 hsp
          obtain ⟨u, -, g5, -⟩ := g3 x hx
          have := hpre i0 (g5 (.inl rfl))
          rw [hd] at this; cases this

/-- A region whose order is open. -/
theorem AWP.draw {id : Nat} {l : List Oper} {loc : Loc} {H : Heap} {K : Exit → Kont} {σ : Frame} (tab : List (List Nat)) (canon : List (Nat × DK)) (hok : drawOk l.toArray tab canon = true)
    (h : DRun p.prog N l.toArray tab canon [] σ loc H (K .normal)) : AWP ro p.prog N (.region id l.toArray true) σ loc H K := by
  intro b G B a w hs he
  refine wpIn_region_any p.mixed ?_
  refine any_order (σ0 := σ) (K := K .normal) hok (b := b) (fun a w ⟨σ, l, H, G, B, h1, h2, h3⟩ => ⟨σ, l, H, G, B, h1, h2, h3⟩) _ _ _ _ (by simp) ?_ ?_
  · exact Nat.le_trans (List.length_filter_le _ _) (by simp)
  · obtain ⟨es, post', log', k1, k2, k3, k4, k5, k6, k7, k8⟩ := advance canon [] σ h
    have hf : ∀ i, lst (Array.replicate l.toArray.size false) i = false := fun i => by
      simp only [lst, Array.getD_eq_getD_getElem?, Array.getElem?_replicate]
      split <;> rfl
    refine ⟨es, post', log', loc, H, G, B, k1, k2, ?_, ?_, ?_, k5, fun e m _ => k6 e m, fun e m _ => k7 e m, ?_, hs.size, ?_, hs.mem.drew, he.step Ext.drew rfl⟩
    · rcases k3 with h | ⟨i, t, h⟩
      · exact .inl h
      · exact .inr ⟨i, t, h, hf i⟩
    · intro e m c; rw [k4 e m] at c; cases c
    · intro i hi; rw [hf] at hi; cases hi
    · intro i hi; rw [hf] at hi; cases hi
    · rw [frameD_false (fun e m => hf e.i)]; exact hs.fr

end

end Go.Am

/- Rules for the canonical walk of an open region; cuts of slices; bytes and strings. -/
set_option linter.unusedVariables false
set_option linter.unusedSimpArgs false
set_option linter.unnecessarySimpa false
namespace Go.Am
open Go

section
variable {ro : Option Nat} {p : Pr} {N : Nat} {ops : Array Oper} {rest : List Oper} {tab : List (List Nat)} {σ : Frame} {loc : Loc} {H : Heap} {K : Kont} {ty : TypeId} {pos : String} {after : Array Edge} {g : Option (Nat × Bool)}
  {dst : Option Tmp} {Q : AV → Loc → Heap → Prop} {i : Nat} {t : List (Nat × DK)} {log : List (Nat × Oper × Frame × AV)}

theorem DetG.aop {op : Op} {r : AV} (h : aop p op (evo (restr (slotsOf ops ⟨dst, op, ty, pos, after, none⟩) σ)) = some r) (loc : Loc) (H : Heap) : DetG p.prog ops ⟨dst, op, ty, pos, after, none⟩ σ loc H r :=
  OpT.aop h ⟨rfl, rfl, rfl⟩

theorem DRun.op {op : Op} {d : Tmp} {r : AV} (ho : ops[i]? = some ⟨some d, op, ty, pos, after, none⟩) (hd : Nat.blt d N = true)
    (h : aop p op (evo (restr (slotsOf ops ⟨some d, op, ty, pos, after, none⟩) σ)) = some r) (hk : DRun p.prog N ops tab t log ((d, r) :: σ) loc H K) : DRun p.prog N ops tab ((i, .pure) :: t) log σ loc H K :=
  ⟨_, r, ho, hd, fun loc H => DetG.aop h loc H, hk⟩

/-- What is read now; it will be looked at again. -/
theorem DRun.load {T : TypeId} {x : Operand} {d : Tmp} {pv v : AV} {cs : List AV} {ti : TI} (ho : ops[i]? = some ⟨some d, .load T x, ty, pos, after, none⟩) (hd : Nat.blt d N = true)
    (hx : evo (restr (slotsOf ops ⟨some d, .load T x, ty, pos, after, none⟩) σ) x = some pv) (hc : cellsAt pv loc H = some cs) (ht : p.ty T = some ti) (hv : ofCells ti cs = some v)
    (hk : DRun p.prog N ops tab t ((i, ⟨some d, .load T x, ty, pos, after, none⟩, σ, v) :: log) ((d, v) :: σ) loc H K) : DRun p.prog N ops tab ((i, .read) :: t) log σ loc H K :=
  ⟨_, v, ho, hd, OpT.load hx hc ht hv ⟨rfl, rfl, rfl⟩, hk⟩

/-- What is read of memory that no one writes. -/
theorem DRun.loadI {T : TypeId} {x : Operand} {d : Tmp} {v : AV} {cs : List AV} {ti : TI} (ho : ops[i]? = some ⟨some d, .load T x, ty, pos, after, none⟩) (hd : Nat.blt d N = true)
    (hx : evo (restr (slotsOf ops ⟨some d, .load T x, ty, pos, after, none⟩) σ) x = some (.iptr cs)) (ht : p.ty T = some ti) (hv : ofCells ti cs = some v)
    (hk : DRun p.prog N ops tab t log ((d, v) :: σ) loc H K) : DRun p.prog N ops tab ((i, .pure) :: t) log σ loc H K :=
  ⟨_, v, ho, hd, fun loc H => OpT.load hx rfl ht hv ⟨rfl, rfl, rfl⟩, hk⟩

theorem DRun.indexSl {T E : TypeId} {x ix : Operand} {els cs : List AV} {tag : Tag} {k : IntKind} {n : Int} {e : AV} {ti ei : TI} {d : Tmp} (ho : ops[i]? = some ⟨some d, .indexAddr T x ix, ty, pos, after, none⟩)
    (hd : Nat.blt d N = true) (hx : evo (restr (slotsOf ops ⟨some d, .indexAddr T x ix, ty, pos, after, none⟩) σ) x = some (.sl els tag))
    (hi : evo (restr (slotsOf ops ⟨some d, .indexAddr T x ix, ty, pos, after, none⟩) σ) ix = some (.int k n)) (ht : p.ty T = some ti) (hk : ti.kind = .sl E) (hE : p.ty E = some ei) (h0 : 0 ≤ n)
    (he : els[n.toNat]? = some e) (hc : forceL e.cells some = some cs) (hs : cs.length = ei.size) (hq : DRun p.prog N ops tab t log ((d, .iptr cs) :: σ) loc H K) :
    DRun p.prog N ops tab ((i, .pure) :: t) log σ loc H K :=
  ⟨_, _, ho, hd, fun loc H => OpT.indexSl hx hi ht hk hE h0 he hc hs ⟨rfl, rfl, rfl⟩, hq⟩

theorem DRun.buildSlice {T : TypeId} {n : Nat} {ps : Array (Nat × Operand)} {vs : List (Nat × AV)} {els : List AV} {d : Tmp} (ho : ops[i]? = some ⟨some d, .buildSlice T n ps, ty, pos, after, none⟩)
    (hd : Nat.blt d N = true) (hv : parts (evo (restr (slotsOf ops ⟨some d, .buildSlice T n ps, ty, pos, after, none⟩) σ)) ps.toList = some vs) (hs : aslice p T n vs = some els)
    (hk : DRun p.prog N ops tab t log ((d, .sl els .full) :: σ) loc H K) : DRun p.prog N ops tab ((i, .pure) :: t) log σ loc H K :=
  ⟨_, _, ho, hd, fun loc H => OpT.buildSlice hv hs ⟨rfl, rfl, rfl⟩, hk⟩

/-- A call that changes nothing, wherever it is made. -/
theorem DRun.callP {f : FuncId} {as : Array Operand} {ts : Array TypeId} {vs : List AV} {d : Tmp} {r : AV} (ho : ops[i]? = some ⟨some d, .call { callee := .value (.func f), args := as, argTypes := ts }, ty, pos, after, none⟩)
    (hd : Nat.blt d N = true) (hv : vals (evo (restr (slotsOf ops ⟨some d, .call { callee := .value (.func f), args := as, argTypes := ts }, ty, pos, after, none⟩) σ)) as.toList = some vs) (hf : AV.frees vs = true)
    (h : ∀ H, ACalls p.prog f vs H fun r' H' => r' = r ∧ H' = H) (hk : DRun p.prog N ops tab t log ((d, r) :: σ) loc H K) : DRun p.prog N ops tab ((i, .pure) :: t) log σ loc H K :=
  ⟨_, r, ho, hd, fun loc H => OpT.callF hv hf ((h H).mono fun r' H' e => ⟨e.1, rfl, e.2⟩), hk⟩

/-- Any other operation that changes memory. -/
theorem DRun.eff {o : Oper} (ho : ops[i]? = some o) (hd : dstOk N o.dst = true) (hg : o.guard = none)
    (h : OpT p.prog o (ev (restr (slotsOf ops o) σ)) loc H fun r l H' => Chk p.prog ops ((tab[i]?).getD []) l H' log ∧ DRun p.prog N ops tab t log (fput σ o.dst r) l H' K) :
    DRun p.prog N ops tab ((i, .eff) :: t) log σ loc H K := ⟨o, ho, hd, hg, h⟩

theorem Chk.nil {pre : List Nat} : Chk p.prog ops pre loc H [] := trivial
/-- It stands behind. -/
theorem Chk.pre {pre : List Nat} {j : Nat} {o : Oper} {v : AV} {σ' : Frame} (h : memN pre j = true) (hk : Chk p.prog ops pre loc H log) : Chk p.prog ops pre loc H ((j, o, σ', v) :: log) := ⟨.inl h, hk⟩
theorem Chk.load {pre : List Nat} {j : Nat} {σ' : Frame} {T : TypeId} {x : Operand} {pv v : AV} {cs : List AV} {ti : TI}
    (hx : evo (restr (slotsOf ops ⟨dst, .load T x, ty, pos, after, none⟩) σ') x = some pv) (hc : cellsAt pv loc H = some cs) (ht : p.ty T = some ti) (hv : ofCells ti cs = some v)
    (hk : Chk p.prog ops pre loc H log) : Chk p.prog ops pre loc H ((j, ⟨dst, .load T x, ty, pos, after, none⟩, σ', v) :: log) :=
  ⟨.inr (OpT.load hx hc ht hv ⟨rfl, rfl, rfl⟩), hk⟩

/-- A cut of a slice; what comes of it is not appended to. -/
theorem OpT.sliceSl {T E : TypeId} {x : Operand} {lo hi : Option Operand} {els : List AV} {tag : Tag} {ti ei : TI} {l h : Nat} (hx : evo σ x = some (.sl els tag)) (ht : p.ty T = some ti) (hk : ti.kind = .sl E)
    (hE : p.ty E = some ei) (hl : match lo with | none => l = 0 | some y => ∃ k, evo σ y = some (.int k l)) (hh : match hi with | none => h = els.length | some y => ∃ k, evo σ y = some (.int k h))
    (h1 : l ≤ h) (h2 : h ≤ els.length) (hs : ∀ e ∈ els, e.cells.length = ei.size) (hq : Q (.sl ((els.take h).drop l) .no) loc H) :
    OpT p.prog ⟨dst, .slice T x lo hi none, ty, pos, after, g⟩ (ev σ) loc H Q := by
  refine OpT.pure _ (fun G B w ρc r1 r2 => ?_) hq
  have e1 := ev_rel r1 _ _ hx
  have blo : ∀ (cap len : Nat), h ≤ cap → len = els.length → (Instr.sliceBounds true len cap (lo.map ρc) (hi.map ρc) none).run p.prog w = .ok (l, h, cap) w := by
    intro cap len hc hlen
    have elo : ∀ y, lo = some y → ∃ k, ρc y = .int k l := fun y e => by
      subst e
      obtain ⟨k, hk⟩ := hl
      have := ev_rel r1 _ _ hk
      generalize ρc y = v at *
      cases this; exact ⟨k, rfl⟩
    have ehi : ∀ y, hi = some y → ∃ k, ρc y = .int k h := fun y e => by
      subst e
      obtain ⟨k, hk⟩ := hh
      have := ev_rel r1 _ _ hk
      generalize ρc y = v at *
      cases this; exact ⟨k, rfl⟩
    have hc' : ((h : Int) ≤ (cap : Int)) := by omega
    have h1' : ((l : Int) ≤ (h : Int)) := by omega
    cases lo with
    | none =>
      have hl : l = 0 := hl
      cases hi with
      | none =>
        have hh : h = els.length := hh
        simp [Instr.sliceBounds, hl, hh, hlen]
      | some y =>
        obtain ⟨k, e⟩ := ehi y rfl
        have c1 : (0 : Int) ≤ (h : Int) ∧ (h : Int) ≤ (cap : Int) := ⟨by omega, hc'⟩
        simp only [Instr.sliceBounds, Instr.sliceBound, asIntOf, Option.map_some, Option.map_none, Sem.run_bind, Sem.run_pure, Result.andThen_ok, e, if_pos c1, Int.toNat_natCast, hl]
    | some z =>
      obtain ⟨k2, e2⟩ := elo z rfl
      cases hi with
      | none =>
        have hh : h = els.length := hh
        subst hh; subst hlen
        have c2 : (0 : Int) ≤ (l : Int) ∧ (l : Int) ≤ ((els.length : Nat) : Int) := ⟨by omega, h1'⟩
        simp only [Instr.sliceBounds, Instr.sliceBound, asIntOf, Option.map_some, Option.map_none, Sem.run_bind, Sem.run_pure, Result.andThen_ok, e2, if_pos c2, Int.toNat_natCast]
      | some y =>
        obtain ⟨k, e⟩ := ehi y rfl
        have c1 : (0 : Int) ≤ (h : Int) ∧ (h : Int) ≤ (cap : Int) := ⟨by omega, hc'⟩
        have c2 : (0 : Int) ≤ (l : Int) ∧ (l : Int) ≤ (h : Int) := ⟨by omega, h1'⟩
        simp only [Instr.sliceBounds, Instr.sliceBound, asIntOf, Option.map_some, Sem.run_bind, Sem.run_pure, Result.andThen_ok, e, e2, if_pos c1, Int.toNat_natCast, if_pos c2]
  generalize hcx : ρc x = vx at *
  have run : ∀ (ao : Option Addr) (len cap : Nat), vx = .slice ao len cap → h ≤ cap → len = els.length →
      (execOp ρc ⟨dst, .slice T x lo hi none, ty, pos, after, g⟩).run p.prog w = .ok (.value (.slice (if cap = l then ao else ao.map (·.add (l * ei.size))) (h - l) (cap - l))) w := by
    intro ao len cap e hc hlen
    subst e
    have hu := sl_ok ht hk
    simp only [execOp, hcx, Instr.sliceAt, Sem.run_bind, run_underlying hu, Result.andThen_ok, Instr.slice, Option.map_none, blo cap len hc hlen, run_sizeOf hE, Sem.run_pure]
  cases e1 with
  | slempty _ a cap =>
    have : l = 0 := by simp at h2; omega
    have hh0 : h = 0 := by simp at h2; omega
    subst this; subst hh0
    exact ⟨_, run _ _ _ rfl (by omega) rfl, by simpa using VR.slempty _ _ _⟩
  | slfull _ a =>
    have : l = 0 := by simp at h2; omega
    have hh0 : h = 0 := by simp at h2; omega
    subst this; subst hh0
    exact ⟨_, run _ _ _ rfl (by omega) rfl, by simpa using VR.slempty _ _ _⟩
  | sl _ _ _ b off cap sz cv q1 q2 q3 q4 q5 =>
    refine ⟨_, run _ _ _ rfl (by omega) rfl, ?_⟩
    by_cases hne : h = l
    · subst hne
      have : (els.take h).drop h = [] := by simp
      rw [this, Nat.sub_self]
      exact .slempty _ _ _
    · have hcl : cap ≠ l := by omega
      rw [if_neg hcl]
      simp only [Option.map_some, Addr.add_lit]
      have hlen : ((els.take h).drop l).length = h - l := by simp; omega
      have hels : els ≠ [] := by intro e; subst e; simp at h2; omega
      have hsz : sz = ei.size := by
        obtain ⟨e, he⟩ := List.exists_mem_of_ne_nil els hels
        exact (q1 e he).symm.trans (hs e he)
      subst hsz
      have hfl : (els.flatMap AV.cells).length = els.length * ei.size := flat_length q1
      have hsub : ∀ j, j < (((els.take h).drop l).flatMap AV.cells).length → l * ei.size + j < (els.flatMap AV.cells).length ∧ (((els.take h).drop l).flatMap AV.cells)[j]? = (els.flatMap AV.cells)[l * ei.size + j]? := by
        intro j hj
        have e0 : els = els.take l ++ ((els.take h).drop l ++ els.drop h) := by
          have a1 : els.take h = els.take l ++ (els.take h).drop l := by
            have := (List.take_append_drop l (els.take h)).symm
            rwa [List.take_take, Nat.min_eq_left h1] at this
          have a2 := (List.take_append_drop h els).symm
          rw [a1, List.append_assoc] at a2
          exact a2
        have hl1 : ((els.take l).flatMap AV.cells).length = l * ei.size := by
          rw [flat_length (sz := ei.size) (fun e he => q1 e (List.mem_of_mem_take he))]
          congr 1; simp; omega
        have e3 : (els.flatMap AV.cells)[l * ei.size + j]? = (((els.take h).drop l).flatMap AV.cells)[j]? := by
          conv => lhs; rw [e0]
          rw [List.flatMap_append, List.flatMap_append, List.getElem?_append_right (by omega), hl1, List.getElem?_append_left (by rw [show l * ei.size + j - l * ei.size = j by omega]; exact hj)]
          congr 1; omega
        refine ⟨?_, e3.symm⟩
        rw [List.getElem?_eq_getElem hj] at e3
        exact (List.getElem?_eq_some_iff.1 e3).1
      have := VR.sl (G := G) B ((els.take h).drop l) .no b (off + l * ei.size) (cap - l) ei.size (fun j => cv (l * ei.size + j)) (fun e he => q1 e (List.mem_of_mem_take (List.mem_of_mem_drop he))) trivial (by rw [hlen]; omega) ?_ ?_
      · rw [hlen] at this; exact this
      · intro j hj
        have := q4 _ (hsub j hj).1
        rwa [← Nat.add_assoc] at this
      · intro j hj
        have := q5 _ (hsub j hj).1
        simpa [List.getD_eq_getElem?_getD, (hsub j hj).2] using this

/-- Bytes as a string. -/
theorem OpT.toStr {s tt E : TypeId} {x : Operand} {tag : Tag} {l : List UInt8} {ti tj ei : TI} (hx : evo σ x = some (.sl (encB l) tag)) (hs : p.ty s = some ti) (hk : ti.kind = .sl E) (hE : p.ty E = some ei)
    (hek : ei.kind = .int .u8) (ht : p.ty tt = some tj) (htk : tj.kind = .str) (hq : Q (.str l) loc H) : OpT p.prog ⟨dst, .convert s tt x, ty, pos, after, g⟩ (ev σ) loc H Q := by
  refine OpT.pure _ (fun G B w ρc r1 r2 => ?_) hq
  have e1 := ev_rel r1 _ _ hx
  generalize hcx : ρc x = vx at *
  have hu := sl_ok hs hk
  have hE' := int_ok hE hek
  have ht' := str_ok ht htk
  have fin : ∀ ao cap, vx = .slice ao l.length cap → (convert s tt (.slice ao l.length cap)).run p.prog w = .ok (.string ⟨l.toArray⟩) w →
      ∃ v, (execOp ρc ⟨dst, .convert s tt x, ty, pos, after, g⟩).run p.prog w = .ok (.value v) w ∧ VR G B (.str l) v := by
    intro ao cap e hr
    refine ⟨_, ?_, .str _ _⟩
    subst e
    simp only [execOp, hcx, Sem.run_bind, hr, Result.andThen_ok, Sem.run_pure]
  have hlen : (encB l).length = l.length := by simp [encB]
  have empty : ∀ ao cap, l = [] → (convert s tt (.slice ao l.length cap)).run p.prog w = .ok (.string ⟨l.toArray⟩) w := by
    intro ao cap e
    subst e
    cases ao with
    | none => simp [convert, run_underlying hu, run_underlying ht', run_underlying hE', Conv.bytesToString]; rfl
    | some a => exact run_convert_bytes_back w s tt E a cap [] hu hE' ht' (fun j hj => absurd hj (by simp))
  generalize hels : encB l = els at e1
  cases e1 with
  | slempty _ a cap =>
    have : l = [] := by cases l <;> simp [encB] at hels ⊢
    subst this
    exact fin a cap rfl (empty a cap rfl)
  | slfull _ a =>
    have : l = [] := by cases l <;> simp [encB] at hels ⊢
    subst this
    exact fin a 0 rfl (empty a 0 rfl)
  | sl _ _ _ b off cap sz cv q1 q2 q3 q4 q5 =>
    subst hels
    rw [flat_encB] at q4 q5
    refine fin _ cap (by rw [hlen]) (run_convert_bytes_back w s tt E _ cap l hu hE' ht' fun j hj => ?_)
    have h4 := q4 j (by omega)
    have h5 := q5 j (by omega)
    rw [getD_encB _ _ hj] at h5
    generalize cv j = u at *
    cases h5
    obtain ⟨c, E2, fr, m1, m2⟩ := r2.im _ _ _ h4
    rw [Addr.add_lit, cell_of_row w b (off + j) c E2 fr m1, m2]
    simp [List.getD_eq_getElem?_getD, hj]

/-- A string as bytes of their own. -/
theorem OpT.toBytes {s tt E : TypeId} {x : Operand} {l : List UInt8} {ti tj ei : TI} (hx : evo σ x = some (.str l)) (hs : p.ty s = some ti) (hk : ti.kind = .str) (ht : p.ty tt = some tj) (htk : tj.kind = .sl E)
    (hE : p.ty E = some ei) (hek : ei.kind = .int .u8) (hq : Q (.sl (encB l) .no) loc H) : OpT p.prog ⟨dst, .convert s tt x, ty, pos, after, g⟩ (ev σ) loc H Q := by
  intro G B w ρc r1 r2 hcc
  have e1 := ev_rel r1 _ _ hx
  have hrun := run_bytes_of_string w s tt E ⟨l.toArray⟩ (str_ok hs hk) (sl_ok ht htk) (int_ok hE hek)
  generalize hcx : ρc x = vx at *
  cases e1
  have hcap := grownCap_ge w l.length 0 E
  generalize hc : grownCap w (ByteArray.mk l.toArray).size 0 E = cap at *
  have hcap : l.length ≤ cap := by rw [← hc]; exact hcap
  unfold OpRuns
  simp only [execOp, hcx, Sem.run_bind, hrun, Result.andThen_ok, Sem.run_pure]
  generalize hcells : bytesRow ⟨l.toArray⟩ cap = cells at *
  have hcell : ∀ j, j < l.length → cells[j]? = some (.int .u8 (l.getD j 0).toNat) := by
    intro j hj
    rw [← hcells]
    unfold bytesRow
    rw [Array.getElem?_append_left (by simpa using hj)]
    simp [List.getD_eq_getElem?_getD, hj]
  have hsz : ∀ k, k < w.heap.size → ∀ o, (r2 : MRel G B loc H w) = r2 → (G.addIm w.heap.size cells).im k o = G.im k o := fun k hk o _ => by simp [Gh.addIm]; intro e; omega
  have key := r2.later (G' := G.addIm w.heap.size cells) (w' := w.drew.alloc (.cells cells E (cells.size, cells.size + 1))) (by simp) (fun k hk' => ⟨heap_alloc_old w.drew _ hk', fun o => hsz k hk' o rfl, rfl⟩)
    (fun b o v hb e => by
      simp only [Gh.addIm] at e
      by_cases c : b = w.heap.size
      · subst c; rw [if_pos rfl] at e; exact ⟨cells, E, _, heap_alloc_new w.drew _, e⟩
      · rw [if_neg c] at e; have := r2.imlt e; omega)
    (fun b hb => r2.fresh b (by have : w.heap.size + 1 ≤ b := by simpa using hb
                                omega))
  refine ⟨_, loc, H, _, B, ?_, key.2, ⟨rfl, rfl, rfl, by simp, key.1, List.prefix_refl _, fun k hk' _ _ => ⟨heap_alloc_old w.drew _ hk', fun o => hsz k hk' o rfl⟩, fun _ h => .inl h, fun _ h => .inl h, fun _ _ => rfl⟩, hq⟩
  have hlen : (encB l).length = l.length := by simp [encB]
  have := VR.sl (G := G.addIm w.heap.size cells) B (encB l) .no w.heap.size 0 cap 1 (fun j => .int .u8 (l.getD j 0).toNat) (fun e x => (Els.encB l e x).1) trivial (by omega) ?_ ?_
  · rw [hlen] at this; exact this
  · intro j hj
    rw [flat_encB, hlen] at hj
    simp only [Gh.addIm, if_true, Nat.zero_add]
    exact hcell j hj
  · intro j hj
    rw [flat_encB] at hj ⊢
    rw [hlen] at hj
    rw [getD_encB _ _ hj]
    exact .int _ _ _

end

section
variable {ro : Option Nat} {p : Pr} {N : Nat} {ops : Array Oper} {rest : List Oper} {σ : Frame} {loc : Loc} {H : Heap} {K : Kont} {ty : TypeId} {pos : String} {after : Array Edge}

theorem AOps.sliceSl {T E : TypeId} {x : Operand} {lo hi : Option Operand} {els : List AV} {tag : Tag} {ti ei : TI} {d : Tmp} (l h : Nat) (hx : evo σ x = some (.sl els tag)) (ht : p.ty T = some ti) (hk : ti.kind = .sl E)
    (hE : p.ty E = some ei) (hd : Nat.blt d N = true) (hl : match lo with | none => l = 0 | some y => ∃ k, evo σ y = some (.int k l)) (hh : match hi with | none => h = els.length | some y => ∃ k, evo σ y = some (.int k h))
    (h1 : l ≤ h) (h2 : h ≤ els.length) (hs : ∀ e ∈ els, e.cells.length = ei.size) (hq : AOps ro p.prog N ops rest ((d, .sl ((els.take h).drop l) .no) :: σ) loc H K) :
    AOps ro p.prog N ops (⟨some d, .slice T x lo hi none, ty, pos, after, none⟩ :: rest) σ loc H K :=
  AOps.step rfl hd (OpT.sliceSl hx ht hk hE hl hh h1 h2 hs hq)

theorem AOps.toStr {s tt E : TypeId} {x : Operand} {tag : Tag} {l : List UInt8} {ti tj ei : TI} {d : Tmp} (hx : evo σ x = some (.sl (encB l) tag)) (hs : p.ty s = some ti) (hk : ti.kind = .sl E) (hE : p.ty E = some ei)
    (hek : ei.kind = .int .u8) (ht : p.ty tt = some tj) (htk : tj.kind = .str) (hd : Nat.blt d N = true) (hq : AOps ro p.prog N ops rest ((d, .str l) :: σ) loc H K) :
    AOps ro p.prog N ops (⟨some d, .convert s tt x, ty, pos, after, none⟩ :: rest) σ loc H K :=
  AOps.step rfl hd (OpT.toStr hx hs hk hE hek ht htk hq)

theorem AOps.toBytes {s tt E : TypeId} {x : Operand} {l : List UInt8} {ti tj ei : TI} {d : Tmp} (hx : evo σ x = some (.str l)) (hs : p.ty s = some ti) (hk : ti.kind = .str) (ht : p.ty tt = some tj) (htk : tj.kind = .sl E)
    (hE : p.ty E = some ei) (hek : ei.kind = .int .u8) (hd : Nat.blt d N = true) (hq : AOps ro p.prog N ops rest ((d, .sl (encB l) .no) :: σ) loc H K) :
    AOps ro p.prog N ops (⟨some d, .convert s tt x, ty, pos, after, none⟩ :: rest) σ loc H K :=
  AOps.step rfl hd (OpT.toBytes hx hs hk ht htk hE hek hq)
end

end Go.Am
