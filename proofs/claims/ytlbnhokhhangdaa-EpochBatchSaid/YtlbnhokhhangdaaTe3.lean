/- The texts of this part, one behind the other: what is proved of the model and of the functions that the law reaches. -/
import Derived.Test.YtlbnhokhhangdaaTe2
import Derived.RangeFuncLeaves
import Derived.RangeFuncRecord
import Derived.TacticsIn
import Derived.OrdersIn
/- The frame, single operations, regions in the text's order, and how code is walked, over the abstract state. -/
set_option linter.unusedVariables false
namespace Go.Am
open Go

theorem nbeq_ne {k t : Nat} (h : k ≠ t) : Nat.beq k t = false := by
  cases e : Nat.beq k t with
  | false => rfl
  | true => exact absurd (Nat.eq_of_beq_eq_true e) h

theorem fget_cons (k : Nat) (v : AV) (σ : Frame) (t : Nat) : fget ((k, v) :: σ) t = if k = t then v else fget σ t := by
  simp only [fget, flook]
  by_cases h : k = t
  · subst h; simp
  · simp [nbeq_ne h, h]

def ofConst : Value → AV
  | .int k n => .int k n
  | .bool b => .bool b
  | .string s => .str s.data.toList
  | .pointer none => .nilp
  | .slice none 0 0 => .sl [] .full
  | .map none => .nilmap
  | .nilFunc => .nilf
  | .nilIface => .niface
  | _ => .any

theorem ofConst_rel (G : Gh) (B : List Nat) (v : Value) : VR G B (ofConst v) v := by
  unfold ofConst
  split
  · exact .int _ _ _
  · exact .bool _ _
  · rename_i s; exact .str _ s.data.toList
  · exact .nilp _
  · exact .slfull _ _
  · exact .nilmap _
  · exact .nilf _
  · exact .niface _
  · exact .any _ _

/-- An operand's value; none where nothing is known. -/
def evo (σ : Frame) : Operand → Option AV
  | .tmp t => flook σ t
  | .const v => some (ofConst v)
  | .global g => some (.ptr g 0)
  | .func f => some (.func f [] [])

def ev (σ : Frame) (x : Operand) : AV := (evo σ x).getD .any

theorem ev_of {σ : Frame} {x : Operand} {v : AV} (h : evo σ x = some v) : ev σ x = v := by simp [ev, h]

def FR (G : Gh) (B : List Nat) (σ : Frame) (tmps : Array Value) : Prop := ∀ t, VR G B (fget σ t) (tmps.getD t undef)

theorem FR.mono {G G' B B' σ tmps} (h : FR G B σ tmps) (hg : G.le G') (hb : B <+: B') : FR G' B' σ tmps := fun t => (h t).mono hg hb

theorem FR.ev {G B σ a} (h : FR G B σ (Act.tmps a)) (x : Operand) : VR G B (ev σ x) (a.eval x) := by
  cases x with
  | tmp t => exact h t
  | const v => exact ofConst_rel _ _ _
  | global g => exact .ptr _ _ _
  | func f => exact .func _ _ _ _ _ _ rfl rfl (fun i hi => absurd hi (by simp)) (fun i hi => absurd hi (by simp))

def fput (σ : Frame) : Option Tmp → AV → Frame
  | some d, v => (d, v) :: σ
  | none, _ => σ

def dstOk (N : Nat) : Option Tmp → Bool
  | some d => Nat.blt d N
  | none => true

theorem FR.put {G B σ} {a : Act} {dst : Option Tmp} {v : AV} {x : Value} (h : FR G B σ a.tmps) (hd : dstOk a.tmps.size dst = true) (hv : VR G B v x) :
    FR G B (fput σ dst v) (a.put dst x).tmps := by
  cases dst with
  | none => exact h
  | some d =>
    intro t
    have hd' : d < a.tmps.size := by simp [dstOk] at hd; omega
    show VR G B (fget ((d, v) :: σ) t) ((a.tmps.setIfInBounds d x).getD t undef)
    rw [fget_cons]
    by_cases e : d = t
    · subst e; simp [hd']; exact hv
    · rw [if_neg e]
      have := h t
      simpa [Array.getElem?_setIfInBounds_ne e, e] using this

theorem FR.less {G B σ σ'} {tmps : Array Value} (h : FR G B σ tmps) (hl : ∀ t v, flook σ' t = some v → flook σ t = some v) : FR G B σ' tmps := by
  intro t
  have := h t
  unfold fget at *
  cases e : flook σ' t with
  | none => exact .any _ _
  | some v => rw [hl t v e] at this; exact this

structure SRel (N : Nat) (G : Gh) (B : List Nat) (σ : Frame) (loc : Loc) (H : Heap) (a : Act) (w : World) : Prop where
  size : a.tmps.size = N
  fr : FR G B σ a.tmps
  mem : MRel G B loc H w

/-- Where a walk began: the world, and what was owned then. -/
structure Base where
  w : World
  G : Gh
  H : Heap
  B : List Nat

abbrev Kont := Frame → Loc → Heap → Prop

/-- The fence of all walks: everything is let in; a frame of a round of loop l, or of a function. -/
abbrev FW (ro : Option Nat) : Fence := { Fence.wide with round := ro }

theorem FW.room (ro : Option Nat) (n : Nat) : (FW ro).room n := fun _ h => by simp [FW, Fence.wide] at h

/-- The mark of a block for the deferred calls of rounds. -/
def markOf (D : Nat) : Deferred := { target := .collected D, args := #[] }

/-- Since the walk began: what was not owned is as it was; the frame's deferred calls are marks of blocks laid since then, which nothing has touched. -/
structure Since (b : Base) (a : Act) (w : World) (G : Gh) (H : Heap) (B : List Nat) : Prop where
  ext : Ext b.w b.G b.H b.B w G H B
  marks : ∃ l : List Nat, a.defers = l.map markOf ∧ l.Nodup ∧ ∀ D ∈ l, b.w.heap.size ≤ D ∧ D < w.heap.size ∧ w.heap[D]? = some (.deferred (some [])) ∧ H D = none ∧ D ∉ B

theorem Since.step {b : Base} {a a' : Act} {w w' : World} {G G' : Gh} {H H' : Heap} {B B' : List Nat} (h : Since b a w G H B) (k : Ext w G H B w' G' H' B') (hd : a'.defers = a.defers) : Since b a' w' G' H' B' := by
  obtain ⟨l, h1, h2, h3⟩ := h.marks
  refine ⟨h.ext.trans k, l, hd.trans h1, h2, fun D hD => ?_⟩
  obtain ⟨a1, a2, a3, a4, a5⟩ := h3 D hD
  refine ⟨a1, Nat.lt_of_lt_of_le a2 k.size, (k.heap D a2 a4 a5).1.trans a3, ?_, fun m => ?_⟩
  · cases e : H' D with
    | none => rfl
    | some x => rcases k.own D (by simp [e]) with c | c
                · exact absurd a4 c
                · omega
  · rcases k.new D m with c | c
    · exact a5 c
    · omega

theorem Since.less {b : Base} {a : Act} {w : World} {G : Gh} {H H' : Heap} {B : List Nat} (h : Since b a w G H B) (hl : H'.le H) : Since b a w G H' B :=
  ⟨h.ext.less hl, let ⟨l, h1, h2, h3⟩ := h.marks; ⟨l, h1, h2, fun D hD => let ⟨a1, a2, a3, a4, a5⟩ := h3 D hD; ⟨a1, a2, a3, (by
    cases e : H' D with
    | none => rfl
    | some x => have := hl D x e; rw [a4] at this; cases this), a5⟩⟩⟩

theorem Since.put {b : Base} {a : Act} {w : World} {G : Gh} {H : Heap} {B : List Nat} (h : Since b a w G H B) (d : Option Tmp) (v : Value) : Since b (a.put d v) w G H B :=
  ⟨h.ext, by cases d <;> exact h.marks⟩

theorem put_defers (a : Act) (d : Option Tmp) (v : Value) : (a.put d v).defers = a.defers := by cases d <;> rfl

def Post (N : Nat) (b : Base) (K : Exit → Kont) : Exit → Act → World → Prop := fun e a w =>
  ∃ σ loc H G B, SRel N G B σ loc H a w ∧ Since b a w G H B ∧ K e σ loc H

def AWP (ro : Option Nat) (P : Program) (N : Nat) (c : Code) (σ : Frame) (loc : Loc) (H : Heap) (K : Exit → Kont) : Prop :=
  ∀ (b : Base) (G : Gh) (B : List Nat) (a : Act) (w : World), SRel N G B σ loc H a w → Since b a w G H B → c.wpIn (FW ro) 0 P (Post N b K) a w

def AOps (ro : Option Nat) (P : Program) (N : Nat) (ops : Array Oper) (rest : List Oper) (σ : Frame) (loc : Loc) (H : Heap) (K : Kont) : Prop :=
  ∀ (b : Base) (Q : Exit → Act → World → Prop) (G : Gh) (B : List Nat) (a : Act) (w : World), SRel N G B σ loc H a w → Since b a w G H B →
    (∀ a w, Post N b (fun _ => K) .normal a w → Q .normal a w) → wpListIn (FW ro) 0 P ops Q rest a w

abbrev thn (K1 : Kont) (K : Exit → Kont) : Exit → Kont := fun e σ l H => match e with
  | .normal => K1 σ l H
  | e => K e σ l H

abbrev blk (id : Nat) (K : Exit → Kont) : Exit → Kont := fun e σ l H => match e with
  | .exit i => bif Nat.beq i id then K .normal σ l H else K (.exit i) σ l H
  | e => K e σ l H

section
variable {ro : Option Nat} {P : Program} {N : Nat} {σ : Frame} {loc : Loc} {H : Heap} {K : Exit → Kont}

theorem AWP.mono {c : Code} {K' : Exit → Kont} (h : AWP ro P N c σ loc H K) (hk : ∀ e σ l H, K e σ l H → K' e σ l H) : AWP ro P N c σ loc H K' :=
  fun b G B a w hs he => wpIn_mono (h b G B a w hs he) fun e a w ⟨σ, l, H, G, B, h1, h2, h3⟩ => ⟨σ, l, H, G, B, h1, h2, hk _ _ _ _ h3⟩

theorem AWP.seq {x y : Code} (h : AWP ro P N x σ loc H (thn (fun σ l H => AWP ro P N y σ l H K) K)) : AWP ro P N (.seq x y) σ loc H K := by
  intro b G B a w hs he
  refine wpIn_seq (wpIn_mono (h b G B a w hs he) ?_)
  intro e a' w' ⟨σ', l', H', G', B', h1, h2, h3⟩
  cases e with
  | normal => exact h3 b G' B' a' w' h1 h2
  | exit => exact ⟨σ', l', H', G', B', h1, h2, h3⟩
  | goto => exact ⟨σ', l', H', G', B', h1, h2, h3⟩
  | ret => exact ⟨σ', l', H', G', B', h1, h2, h3⟩
  | panic => exact ⟨σ', l', H', G', B', h1, h2, h3⟩
  | outgrown => exact ⟨σ', l', H', G', B', h1, h2, h3⟩

theorem AWP.skip (h : K .normal σ loc H) : AWP ro P N .skip σ loc H K := fun _ G B _ _ hs he => wpIn_skip ⟨σ, loc, H, G, B, hs, he, h⟩
theorem AWP.ret (h : K .ret σ loc H) : AWP ro P N .ret σ loc H K := fun _ G B _ _ hs he => wpIn_ret ⟨σ, loc, H, G, B, hs, he, h⟩
theorem AWP.exit {id : Nat} (h : K (.exit id) σ loc H) : AWP ro P N (.exit id) σ loc H K := fun _ G B _ _ hs he => wpIn_exit ⟨σ, loc, H, G, B, hs, he, h⟩

theorem AWP.block {id : Nat} {c : Code} (h : AWP ro P N c σ loc H (blk id K)) : AWP ro P N (.block id c) σ loc H K := by
  intro b G B a w hs he
  refine wpIn_block (wpIn_mono (h b G B a w hs he) ?_)
  intro e a' w' ⟨σ', l', H', G', B', h1, h2, h3⟩
  cases e with
  | exit i =>
    by_cases hi : i = id
    · subst hi; simp only [Exit.inBlock, if_true]; exact ⟨σ', l', H', G', B', h1, h2, by simpa [blk] using h3⟩
    · simp only [Exit.inBlock, hi, if_false]
      refine ⟨σ', l', H', G', B', h1, h2, ?_⟩
      have : Nat.beq i id = false := nbeq_ne hi
      simpa [blk, this] using h3
  | normal => exact ⟨σ', l', H', G', B', h1, h2, h3⟩
  | goto => exact ⟨σ', l', H', G', B', h1, h2, h3⟩
  | ret => exact ⟨σ', l', H', G', B', h1, h2, h3⟩
  | panic => exact ⟨σ', l', H', G', B', h1, h2, h3⟩
  | outgrown => exact ⟨σ', l', H', G', B', h1, h2, h3⟩

theorem AWP.cond {c : Operand} {x y : Code} {t : Bool} (hc : evo σ c = some (.bool t)) (ht : t = true → AWP ro P N x σ loc H K) (hf : t = false → AWP ro P N y σ loc H K) :
    AWP ro P N (.cond c x y) σ loc H K := by
  intro b G B a w hs he
  have hv := hs.fr.ev c
  rw [ev_of hc] at hv
  have hc' : a.eval c = .bool t := by generalize a.eval c = v at *; cases hv; rfl
  exact wpIn_cond_split hc' (fun h => ht h b G B a w hs he) (fun h => hf h b G B a w hs he)

theorem wpIn_loop_nat {F : Fence} {k : Nat} {c : Code} {Q : Exit → Act → World → Prop} {a : Act} {w : World} (I : Nat → Act → World → Prop) (n : Nat) (h0 : I n a w)
    (round : ∀ n a w, I n a w → c.wpIn F k P (Exit.then (fun a' w' => ∃ m, m < n ∧ I m a' w') Q) a w) : (Code.loop c).wpIn F k P Q a w := by
  intro b kk cs hro hb hr
  have key : ∀ j a w, I j a w →
      ∃ e a' w', Q e a' w' ∧ ArrivesIn (Machine.fenced P F) P (lone (b.atR a (.code c :: .inLoop c :: kk)) cs w) b kk cs e a' w' := by
    intro j
    induction j using Nat.strongRecOn with
    | _ j ih =>
      intro a w hI
      obtain ⟨e, a₁, w₁, hq, harr⟩ := round j a w hI b (.inLoop c :: kk) cs hro hb hr
      cases e with
      | normal =>
        obtain ⟨m, hlt, hI₁⟩ := hq
        obtain ⟨e₂, a₂, w₂, hq₂, harr₂⟩ := ih m hlt a₁ w₁ hI₁
        exact ⟨e₂, a₂, w₂, hq₂, .of_steps (StepsIn.trans harr (.one (fenced_calm hb hr rfl) stepR_inLoop)) harr₂⟩
      | exit id => exact ⟨_, a₁, w₁, hq, .pass (x := .inLoop c) rfl (fun _ _ => .inl (by simp)) harr⟩
      | goto l => exact ⟨_, a₁, w₁, hq, .pass (x := .inLoop c) rfl (fun _ _ => .inl (by simp)) harr⟩
      | ret => exact ⟨_, a₁, w₁, hq, .pass (x := .inLoop c) rfl (fun _ _ => .inl (by simp)) harr⟩
      | panic ch => exact ⟨_, a₁, w₁, hq, .pass (x := .inLoop c) rfl (fun _ _ => .inl (by simp)) harr⟩
      | outgrown => exact ⟨_, a₁, w₁, hq, .pass (x := .inLoop c) rfl (fun _ _ => .inl (by simp)) harr⟩
  obtain ⟨e, a', w', hq, harr⟩ := key n a w h0
  exact ⟨e, a', w', hq, .of_steps (.one (fenced_calm hb hr rfl) stepR_loop) harr⟩

/-- A loop: what holds at each round's head, and what each round lowers. -/
theorem AWP.loop {c : Code} (I : Nat → Kont) (n : Nat) (h0 : I n σ loc H)
    (round : ∀ n σ loc H, I n σ loc H → AWP ro P N c σ loc H (thn (fun σ l H => ∃ m, m < n ∧ I m σ l H) K)) : AWP ro P N (.loop c) σ loc H K := by
  intro b G B a w hs he
  refine wpIn_loop_nat (fun n a w => ∃ σ loc H G B, SRel N G B σ loc H a w ∧ Since b a w G H B ∧ I n σ loc H) n ⟨_, _, _, _, _, hs, he, h0⟩ ?_
  rintro n a w ⟨σ, loc, H, G, B, hs, he, hI⟩
  refine wpIn_mono (round n σ loc H hI b G B a w hs he) ?_
  rintro e a' w' ⟨σ', l', H', G', B', h1, h2, h3⟩
  cases e with
  | normal => obtain ⟨m, hm, h3⟩ := h3; exact ⟨m, hm, _, _, _, _, _, h1, h2, h3⟩
  | exit => exact ⟨σ', l', H', G', B', h1, h2, h3⟩
  | goto => exact ⟨σ', l', H', G', B', h1, h2, h3⟩
  | ret => exact ⟨σ', l', H', G', B', h1, h2, h3⟩
  | panic => exact ⟨σ', l', H', G', B', h1, h2, h3⟩
  | outgrown => exact ⟨σ', l', H', G', B', h1, h2, h3⟩
end

end Go.Am

/- Types, what one operation does, a function's entry and its results. -/
set_option linter.unusedVariables false
namespace Go.Am
open Go

inductive TK where
  | int (k : IntKind) | bool | str | ptr (e : Nat) | sl (e : Nat) | arr (n e : Nat) | map (k e : Nat) | struct (fs : List (Nat × Nat)) | func | iface | other
  deriving DecidableEq, Repr

def tkOf : TypeDesc → TK
  | .int k => .int k
  | .bool => .bool
  | .string => .str
  | .pointer e => .ptr e
  | .slice e => .sl e
  | .array n e => .arr n e
  | .map k e => .map k e
  | .struct fs => .struct (fs.toList.map fun f => (f.offset, f.type))
  | .func _ _ _ => .func
  | .interface _ => .iface
  | _ => .other

def TK.isAgg : TK → Bool
  | .arr _ _ | .struct _ => true
  | _ => false

structure TI where
  kind : TK
  size : Nat
  bytes : Nat
  zero : List AV

def tiOf (P : Program) (t : TypeId) : Option TI :=
  match P.underlying t, P.info? t with
  | some d, some i => (i.zero).map fun z => { kind := tkOf d, size := i.size, bytes := i.bytes, zero := z.cells.toList.map ofConst }
  | _, _ => none

/-- The program, with a table of its types that can be looked up by sight. -/
structure Pr where
  prog : Program
  tab : List (Option TI)
  ok : (List.range tab.length).map (tiOf prog) = tab
  mixed : prog.follows .mixedOrders = true

def Pr.ty (p : Pr) (t : TypeId) : Option TI := (p.tab[t]?).getD none

theorem Pr.ty_ok {p : Pr} {t : TypeId} {i : TI} (h : p.ty t = some i) : tiOf p.prog t = some i := by
  unfold Pr.ty at h
  cases e : p.tab[t]? with
  | none => simp [e] at h
  | some x =>
    simp [e] at h
    subst h
    have := p.ok
    rw [← this] at e
    simp at e
    obtain ⟨x, hx, hy⟩ := e
    obtain ⟨_, rfl⟩ := List.getElem?_eq_some_iff.1 hx
    simpa using hy

theorem Pr.info {p : Pr} {t : TypeId} {i : TI} (h : p.ty t = some i) : ∃ d n z, p.prog.underlying t = some d ∧ p.prog.info? t = some n ∧ tkOf d = i.kind ∧ n.size = i.size ∧
    n.bytes = i.bytes ∧ n.zero = some z ∧ i.zero = z.cells.toList.map ofConst := by
  have h := p.ty_ok h
  unfold tiOf at h
  split at h
  · rename_i d n h1 h2
    cases hz : n.zero with
    | none => simp [hz] at h
    | some z => simp [hz] at h; subst h; exact ⟨d, n, z, h1, h2, rfl, rfl, rfl, hz, rfl⟩
  · cases h

def OpRuns (P : Program) (o : Oper) (ρ : Operand → Value) (w : World) (R : Value → World → Prop) : Prop :=
  match (execOp ρ o).run P w with
  | .ok (.value v) w' => R v w'
  | .ok .skip w' => R undef w'
  | .ok (.enter f args) w' => Calls P f args w' fun e w'' => ∃ v, e = .returned v ∧ R v w''
  | .ok (.round l f tmps assign body) w' => RoundIn Fence.wide 0 P l f tmps assign body w' fun e w'' => ∃ v, e = .returned v ∧ R v w''
  | _ => False

theorem OpRuns.noDefer {P : Program} {o : Oper} {ρ : Operand → Value} {w : World} {R : Value → World → Prop} (h : OpRuns P o ρ w R) : ∀ c, o.op ≠ .defer c := by
  intro c hc
  unfold OpRuns at h
  have : ∃ m : Sem Deferred, execOp ρ o = m >>= fun d => pure (.defer d) := by
    unfold execOp
    simp only [hc]
    exact ⟨_, rfl⟩
  obtain ⟨m, e⟩ := this
  rw [e, Sem.run_bind] at h
  cases hm : m.run P w with
  | ok d w' => rw [hm] at h; simp only [Result.andThen_ok, Sem.run_pure] at h
  | halt x w' => rw [hm] at h; simp only [Result.andThen] at h

theorem OpRuns.wp {ro : Option Nat} {P : Program} {o : Oper} {a : Act} {w : World} {R : Value → World → Prop} {K : Act → World → Prop} {Q : Exit → Act → World → Prop}
    (h : OpRuns P o a.eval w R) (hk : ∀ v w', R v w' → K (a.put o.dst v) w') : o.wpIn (FW ro) 0 P a w K Q := by
  refine ⟨fun _ _ => trivial, ?_⟩
  rw [Oper.semAt_eq _ _ _ h.noDefer]
  unfold OpRuns at h
  split at h
  · rename_i v w' e; rw [e]; exact hk _ _ h
  · rename_i w' e; rw [e]; exact hk _ _ h
  · rename_i f args w' e
    rw [e]
    refine ⟨fun c => absurd c (by simp [FW, Fence.wide]), ?_⟩
    have h := callsIn_wide (n := 0).2 h
    refine CallsIn.mono (F := FW ro) h ?_
    rintro e w'' ⟨v, rfl, hr⟩
    exact hk _ _ hr
  · rename_i l f tmps assign body w' e
    rw [e]
    refine ⟨fun c => absurd c (by simp [FW, Fence.wide]), ?_⟩
    refine RoundIn.mono (F := FW ro) h ?_
    rintro e w'' ⟨v, rfl, hr⟩
    exact hk _ _ hr
  · exact h.elim

/-- What operation o does with operands of which ρ is known, in this state of memory. -/
def OpT (P : Program) (o : Oper) (ρ : Operand → AV) (loc : Loc) (H : Heap) (Q : AV → Loc → Heap → Prop) : Prop :=
  ∀ (G : Gh) (B : List Nat) (w : World) (ρc : Operand → Value), (∀ x, VR G B (ρ x) (ρc x)) → MRel G B loc H w → (∀ v, ρc (.const v) = v) →
    OpRuns P o ρc w fun v w' => ∃ r loc' H' G' B', VR G' B' r v ∧ MRel G' B' loc' H' w' ∧ Ext w G H B w' G' H' B' ∧ Q r loc' H'

theorem OpRuns.mono {P : Program} {o : Oper} {ρ : Operand → Value} {w : World} {R R' : Value → World → Prop} (h : OpRuns P o ρ w R) (hr : ∀ v w', R v w' → R' v w') : OpRuns P o ρ w R' := by
  unfold OpRuns at *
  split at h
  · exact hr _ _ h
  · exact hr _ _ h
  · exact Calls.mono h fun e w' ⟨v, a, b⟩ => ⟨v, a, hr _ _ b⟩
  · exact RoundIn.mono h fun e w' ⟨v, a, b⟩ => ⟨v, a, hr _ _ b⟩
  · exact h.elim

theorem OpT.mono {P o ρ loc H Q Q'} (h : OpT P o ρ loc H Q) (hq : ∀ r l H, Q r l H → Q' r l H) : OpT P o ρ loc H Q' :=
  fun G B w ρc h1 h2 h3 => (h G B w ρc h1 h2 h3).mono fun v w' ⟨r, l, H, G, B, a, b, c, d⟩ => ⟨r, l, H, G, B, a, b, c, hq _ _ _ d⟩

/-- An operation that gives a value and changes nothing. -/
theorem OpT.pure {P : Program} {o : Oper} {ρ : Operand → AV} {loc : Loc} {H : Heap} {Q : AV → Loc → Heap → Prop} (r : AV)
    (h : ∀ (G : Gh) (B : List Nat) (w : World) (ρc : Operand → Value), (∀ x, VR G B (ρ x) (ρc x)) → MRel G B loc H w → ∃ v, (execOp ρc o).run P w = .ok (.value v) w ∧ VR G B r v)
    (hq : Q r loc H) : OpT P o ρ loc H Q := by
  intro G B w ρc h1 h2 hcc
  obtain ⟨v, e, hv⟩ := h G B w ρc h1 h2
  unfold OpRuns
  rw [e]
  exact ⟨r, loc, H, G, B, hv, h2, Ext.refl _ _ _ _, hq⟩

section
variable {ro : Option Nat} {p : Pr} {P : Program} {N : Nat} {ops : Array Oper} {rest : List Oper} {σ : Frame} {loc : Loc} {H : Heap} {K : Kont}

theorem AOps.nil (h : K σ loc H) : AOps ro P N ops [] σ loc H K :=
  fun b Q G B a w hs he hq => wpListIn_nil (hq _ _ ⟨σ, loc, H, G, B, hs, he, h⟩)

theorem AOps.step {o : Oper} (hg : o.guard = none) (hd : dstOk N o.dst = true) (h : OpT P o (ev σ) loc H fun r l H => AOps ro P N ops rest (fput σ o.dst r) l H K) :
    AOps ro P N ops (o :: rest) σ loc H K := by
  intro b Q G B a w hs he hq
  refine wpListIn_plain hg fun K' hK => ?_
  refine (h G B w a.eval (fun x => hs.fr.ev x) hs.mem (fun _ => rfl)).wp ?_
  rintro v w' ⟨r, l, H', G', B', h1, h2, h3, h4⟩
  refine hK _ _ (h4 b Q G' B' _ w' ⟨?_, ?_, h2⟩ (he.step h3 (put_defers _ _ _)) hq)
  · cases o.dst <;> simp [Act.put, hs.size]
  · exact (hs.fr.mono h3.le h3.pre).put (by rw [hs.size]; exact hd) h1

/-- A guarded operation: the guard's answer is known to be b. -/
theorem AOps.guard {o : Oper} {j : Nat} {want : Bool} {d : Tmp} {b : Bool} (hg : o.guard = some (j, want)) (hj : (ops[j]?).bind (·.dst) = some d) (hb : flook σ d = some (.bool b))
    (hd : dstOk N o.dst = true) (h1 : b = want → OpT P o (ev σ) loc H fun r l H => AOps ro P N ops rest (fput σ o.dst r) l H K)
    (h2 : b = (!want) → AOps ro P N ops rest (fput σ o.dst .any) loc H K) : AOps ro P N ops (o :: rest) σ loc H K := by
  intro bb Q G B a w hs he hq
  have hv := hs.fr d
  have hd' : fget σ d = .bool b := by simp [fget, hb]
  rw [hd'] at hv
  have hd2 : a.tmps[d]? = some (.bool b) := by
    rw [Array.getD_eq_getD_getElem?] at hv
    cases e : a.tmps[d]? with
    | none => rw [e] at hv; simp [undef] at hv; cases hv
    | some v => rw [e] at hv; simp at hv; cases hv; rfl
  have hy : yielded ops a.tmps j = some b := by simp [yielded, hj, hd2]
  refine wpListIn_step fun K' hK => ?_
  have hw : Region.wanted o (yielded ops a.tmps) = (b == want) := by simp [Region.wanted, hg, hy]
  rw [hw]
  by_cases e : b = want
  · simp only [e, beq_self_eq_true, if_true]
    refine ((h1 e) G B w a.eval (fun x => hs.fr.ev x) hs.mem (fun _ => rfl)).wp ?_
    rintro v w' ⟨r, l, H', G', B', h1, h2, h3, h4⟩
    refine hK _ _ (h4 bb Q G' B' _ w' ⟨?_, ?_, h2⟩ (he.step h3 (put_defers _ _ _)) hq)
    · cases o.dst <;> simp [Act.put, hs.size]
    · exact (hs.fr.mono h3.le h3.pre).put (by rw [hs.size]; exact hd) h1
  · have e' : b = (!want) := by cases b <;> cases want <;> simp_all
    have : (b == want) = false := by simpa using e
    simp only [this, Bool.false_eq_true, if_false]
    refine ⟨fun _ _ => trivial, hK _ _ ((h2 e') bb Q G B _ w ⟨?_, ?_, hs.mem⟩ (he.put _ _) hq)⟩
    · cases o.dst <;> simp [Act.put, hs.size]
    · exact hs.fr.put (by rw [hs.size]; exact hd) (.any _ _)

theorem AWP.region {id : Nat} {l : List Oper} {K : Exit → Kont} (h : AOps ro P N l.toArray l σ loc H (K .normal)) : AWP ro P N (.region id l.toArray false) σ loc H K :=
  fun b G B a w hs he => wpIn_region_lit (h b (Post N b K) G B a w hs he fun a w ⟨σ, l, H, G, B, h1, h2, h3⟩ => ⟨σ, l, H, G, B, h1, h2, h3⟩)

/-- What is not wanted any more is let go: slots, owned things. -/
theorem AWP.less {c : Code} {K : Exit → Kont} {σ' : Frame} {H' : Heap} (hσ : ∀ t v, flook σ' t = some v → flook σ t = some v) (hH : H'.le H) (h : AWP ro P N c σ' loc H' K) : AWP ro P N c σ loc H K :=
  fun b G B a w hs he => h b G B a w ⟨hs.size, hs.fr.less hσ, hs.mem.less hH⟩ (he.less hH)
end

/-- Function f has a body of its own. -/
def Enters (P : Program) (f : FuncId) : Prop := ∃ fn, P.funcs[f]? = some fn ∧ fn.body.isNone = false ∧ (fn.name == "runtime.NumGoroutine") = false

/-- Called with these arguments, in this heap, function f returns what K says. -/
def ACalls (P : Program) (f : FuncId) (args : List AV) (H : Heap) (K : AV → Heap → Prop) : Prop :=
  Enters P f ∧ ∀ (G : Gh) (w : World) (vs : Array Value), args.length = vs.size → (∀ i, i < args.length → VR G [] (args.getD i .any) (vs.getD i undef)) → MRel G [] [] H w →
    Calls P f vs w fun e w' => ∃ r v G' H', e = .returned v ∧ VR G' [] r v ∧ MRel G' [] [] H' w' ∧ Ext w G H [] w' G' H' [] ∧ K r H'

theorem ACalls.mono {P f args H K K'} (h : ACalls P f args H K) (hk : ∀ r H, K r H → K' r H) : ACalls P f args H K' :=
  ⟨h.1, fun G w vs h0 h1 h2 => (h.2 G w vs h0 h1 h2).mono fun e w' ⟨r, v, G, H, a, b, c, d, k⟩ => ⟨r, v, G, H, a, b, c, d, hk _ _ k⟩⟩

def cellsAt (v : AV) (loc : Loc) (H : Heap) : Option (List AV) :=
  match v with
  | .iptr cs => some cs
  | .lptr i off => (loc[i]?).map (·.drop off)
  | .ptr b off => match H b with
    | some (.box cs) => some (cs.drop off)
    | _ => none
  | _ => none

/-- A list, written out as far as it can be, for k. -/
def forceL {α β : Type} : List α → (List α → β) → β
  | [], k => k []
  | a :: r, k => forceL r fun r => k (a :: r)

theorem forceL_eq {α β : Type} (l : List α) : ∀ k : List α → β, forceL l k = k l := by
  induction l with
  | nil => intro k; rfl
  | cons a r ih => intro k; simp only [forceL, ih]

/-- A variable's value out of the cells from its address on. -/
def ofCells (i : TI) (cs : List AV) : Option AV :=
  if i.kind.isAgg then (if i.size ≤ cs.length then forceL (cs.take i.size) fun l => some (.agg l) else none)
  else cs.head?

def aresult (p : Pr) (σ : Frame) (loc : Loc) (H : Heap) : ResultVar → Option AV
  | .tmp t => flook σ t
  | .cell a t => match flook σ a, p.ty t with
    | some v, some i => match cellsAt v loc H with
      | some cs => ofCells i cs
      | none => none
    | _, _ => none

def aresultsL (p : Pr) (σ : Frame) (loc : Loc) (H : Heap) : List ResultVar → Option (List AV)
  | [] => some []
  | r :: l => match aresult p σ loc H r, aresultsL p σ loc H l with
    | some v, some vs => some (v :: vs)
    | _, _ => none

def aresults (p : Pr) (rs : List ResultVar) (σ : Frame) (loc : Loc) (H : Heap) : Option AV :=
  match aresultsL p σ loc H rs with
  | some [v] => some v
  | some vs => some (.tuple vs)
  | none => none

end Go.Am

/- How memory changes: new blocks, stores, and what stays related. -/
set_option linter.unusedVariables false
namespace Go.Am
open Go

def AV.one : AV → Bool
  | .any | .agg _ | .tuple _ => false
  | _ => true

def AV.known : AV → Bool
  | .any => false
  | _ => true

def AV.ones : List AV → Bool
  | [] => true
  | v :: r => v.one && AV.ones r

theorem ones_getD : ∀ (l : List AV) (i : Nat), AV.ones l = true → i < l.length → (l.getD i .any).one = true
  | v :: r, 0, h, _ => by simp [AV.ones] at h; simpa using h.1
  | v :: r, i + 1, h, hi => by simp [AV.ones] at h; simpa using ones_getD r i h.2 (by simpa using hi)

theorem VR.one {G B v x} (h : VR G B v x) (hv : v.one = true) : x.oneCell' = true := by
  cases h <;> first | rfl | simp [AV.one] at hv

theorem VR.cells {G B v x} (h : VR G B v x) (hv : v.known = true) : v.cells.length = x.cells.size ∧ ∀ i, i < v.cells.length → VR G B (v.cells.getD i .any) (x.cells.getD i undef) := by
  have one : ∀ {v x}, VR G B v x → v.cells = [v] → x.cells = #[x] → v.cells.length = x.cells.size ∧ ∀ i, i < v.cells.length → VR G B (v.cells.getD i .any) (x.cells.getD i undef) := by
    intro v x h h1 h2
    rw [h1, h2]
    refine ⟨rfl, fun i hi => ?_⟩
    obtain rfl : i = 0 := by simpa using hi
    simpa using h
  cases h with
  | any => simp [AV.known] at hv
  | agg _ cs xs h1 h2 => exact ⟨h1, h2⟩
  | _ => refine one (by constructor <;> assumption) rfl rfl

theorem MRel.later {G G' : Gh} {B : List Nat} {loc : Loc} {H : Heap} {w w' : World} (h : MRel G B loc H w) (hsz : w.heap.size ≤ w'.heap.size)
    (hk : ∀ k, k < w.heap.size → w'.heap[k]? = w.heap[k]? ∧ (∀ o, G'.im k o = G.im k o) ∧ G'.row k = G.row k)
    (him : ∀ b o v, w.heap.size ≤ b → G'.im b o = some v → ∃ cells E fr, w'.heap[b]? = some (.cells cells E fr) ∧ cells[o]? = some v)
    (hfr : ∀ b, w'.heap.size ≤ b → G'.row b = none) : G.le G' ∧ MRel G' B loc H w' := by
  have hle : G.le G' := ⟨fun b o v e => by rw [(hk b (h.imlt e)).2.1]; exact e, fun g x e => by
    have : g < w.heap.size := Nat.lt_of_not_le fun c => by rw [h.fresh g c] at e; cases e
    rw [(hk g this).2.2]; exact e⟩
  refine ⟨hle, ?_, ?_, hfr, h.len, h.nodup, ?_, h.apart⟩
  · intro b o v e
    by_cases hb : b < w.heap.size
    · rw [(hk b hb).2.1] at e
      obtain ⟨c, E, fr, h1, h2⟩ := h.im b o v e
      exact ⟨c, E, fr, (hk b hb).1.trans h1, h2⟩
    · exact him b o v (by omega) e
  · intro b x e
    have ho := h.obj b x e
    have := hk b ho.lt
    exact ho.kept hle this.1 this.2.1 this.2.2
  · intro i hi
    have hl := h.loc i hi
    have := hk _ hl.lt
    exact hl.kept hle (List.prefix_refl _) this.1 this.2.1

theorem MRel.addObj {G B loc H w} (h : MRel G B loc H w) {b : Nat} {x : AObj} (hb : b ∉ B) (ho : ObjR G w b x) : MRel G B loc (H.set b x) w := by
  refine ⟨h.im, ?_, h.fresh, h.len, h.nodup, h.loc, ?_⟩
  · intro k y e
    unfold Heap.set at e
    split at e
    · rename_i hk; subst hk; cases e; exact ho
    · exact h.obj k y e
  · intro k hk
    unfold Heap.set
    rw [if_neg (fun e : k = b => hb (e ▸ hk))]
    exact h.apart k hk

theorem MRel.addLoc {G B loc H w} (h : MRel G B loc H w) {b : Nat} {cs : List AV} (hb : b ∉ B) (hH : H b = none) (hl : LocR G (B ++ [b]) w b cs) : MRel G (B ++ [b]) (loc ++ [cs]) H w := by
  have hp : B <+: B ++ [b] := List.prefix_append _ _
  refine ⟨h.im, h.obj, h.fresh, by simp [h.len], ?_, ?_, ?_⟩
  · rw [List.nodup_append]; exact ⟨h.nodup, by simp, fun x hx y hy => by simp at hy; subst hy; exact fun e => hb (e ▸ hx)⟩
  · intro i hi
    by_cases c : i < loc.length
    · have := (h.loc i c).kept (Gh.le.refl G) hp rfl (fun _ => rfl)
      simpa [List.getD_eq_getElem?_getD, List.getElem?_append_left c, List.getElem?_append_left (h.len ▸ c : i < B.length)] using this
    · have : i = loc.length := by simp at hi; omega
      subst this
      have e2 : (B ++ [b])[loc.length]? = some b := by rw [← h.len]; simp
      simpa [List.getD_eq_getElem?_getD, e2] using hl
  · intro k hk
    rcases List.mem_append.1 hk with c | c
    · exact h.apart k c
    · simp at c; subst c; exact hH

/-- One block that is owned has changed. -/
theorem MRel.touch {G G' B loc H w w'} (h : MRel G B loc H w) {b : Nat} {x : AObj} (hB : b ∉ B) (hsz : w'.heap.size = w.heap.size)
    (hk : ∀ k, k ≠ b → w'.heap[k]? = w.heap[k]? ∧ ∀ o, G'.im k o = G.im k o) (hrow : ∀ k, G'.row k = G.row k) (hle : G.le G')
    (him : ∀ o v, G'.im b o = some v → ∃ cells E fr, w'.heap[b]? = some (.cells cells E fr) ∧ cells[o]? = some v) (ho : ObjR G' w' b x) : MRel G' B loc (H.set b x) w' := by
  refine ⟨?_, ?_, fun k hk => (hrow k).trans (h.fresh k (hsz ▸ hk)), h.len, h.nodup, ?_, ?_⟩
  · intro k o v e
    by_cases c : k = b
    · subst c; exact him o v e
    · rw [(hk k c).2] at e
      obtain ⟨cs, E, fr, h1, h2⟩ := h.im k o v e
      exact ⟨cs, E, fr, (hk k c).1.trans h1, h2⟩
  · intro k y e
    unfold Heap.set at e
    split at e
    · rename_i c; subst c; cases e; exact ho
    · rename_i c; exact (h.obj k y e).kept hle (hk k c).1 (hk k c).2 (hrow k)
  · intro i hi
    have hm : B.getD i 0 ∈ B := by
      have : i < B.length := h.len ▸ hi
      simp [List.getD_eq_getElem?_getD, this]
    have c : B.getD i 0 ≠ b := fun e => hB (e ▸ hm)
    exact (h.loc i hi).kept hle (List.prefix_refl _) (hk _ c).1 (hk _ c).2
  · intro k hk'
    unfold Heap.set
    rw [if_neg (fun e : k = b => hB (e ▸ hk'))]
    exact h.apart k hk'

theorem MRel.touchLoc {G B loc H w w'} (h : MRel G B loc H w) {i : Nat} {cs : List AV} (hi : i < loc.length) (hsz : w'.heap.size = w.heap.size)
    (hk : ∀ k, k ≠ B.getD i 0 → w'.heap[k]? = w.heap[k]?) (hl : LocR G B w' (B.getD i 0) cs) : MRel G B (loc.set i cs) H w' := by
  have hiB : i < B.length := h.len ▸ hi
  have hm : B.getD i 0 ∈ B := by simp [List.getD_eq_getElem?_getD, hiB]
  have him0 : ∀ o, G.im (B.getD i 0) o = none := (h.loc i hi).choose_spec.choose_spec.2.2.2
  refine ⟨?_, ?_, fun k hk => h.fresh k (hsz ▸ hk), by simp [h.len], h.nodup, ?_, h.apart⟩
  · intro k o v e
    have c : k ≠ B.getD i 0 := fun e' => by subst e'; rw [him0] at e; cases e
    obtain ⟨c', E, fr, h1, h2⟩ := h.im k o v e
    exact ⟨c', E, fr, (hk k c).trans h1, h2⟩
  · intro k y e
    have c : k ≠ B.getD i 0 := fun e' => by rw [e', h.apart _ hm] at e; cases e
    exact (h.obj k y e).kept (Gh.le.refl G) (hk k c) (fun _ => rfl) rfl
  · intro j hj
    by_cases c : j = i
    · subst c
      simpa [List.getD_eq_getElem?_getD, hi] using hl
    · have hj' : j < loc.length := by simpa using hj
      have hjB : j < B.length := h.len ▸ hj'
      have ne : B.getD j 0 ≠ B.getD i 0 := fun e => by
        simp [List.getD_eq_getElem?_getD, hjB, hiB] at e
        rcases Nat.lt_or_gt_of_ne c with d | d
        · exact (List.pairwise_iff_getElem.1 h.nodup j i hjB hiB d) e
        · exact (List.pairwise_iff_getElem.1 h.nodup i j hiB hjB d) e.symm
      have := (h.loc j hj').kept (Gh.le.refl G) (List.prefix_refl B) (hk _ ne) (fun _ => rfl)
      have e2 : (loc.set i cs)[j]? = loc[j]? := by simp [Ne.symm c]
      simpa [List.getD_eq_getElem?_getD, e2] using this

theorem nomem {G B loc H w} (h : MRel G B loc H w) : w.heap.size ∉ B := fun m => by have := h.blt m; omega
theorem Hnone {G B loc H w} (h : MRel G B loc H w) : H w.heap.size = none := by
  cases e : H w.heap.size with
  | none => rfl
  | some x => have := (h.obj _ _ e).lt; omega
theorem imnone {G B loc H w} (h : MRel G B loc H w) (o : Nat) : G.im w.heap.size o = none := by
  cases e : G.im w.heap.size o with
  | none => rfl
  | some x => have := h.imlt e; omega

theorem heap_new (w : World) (o : Obj) : (w.alloc o).heap[w.heap.size]? = some o := heap_alloc_new w o

/-- A new block of cells; nothing is said of it. -/
theorem MRel.alloc {G B loc H w} (h : MRel G B loc H w) (o : Obj) : MRel G B loc H (w.alloc o) :=
  (h.later (G' := G) (by simp) (fun k hk => ⟨heap_alloc_old w o hk, fun _ => rfl, rfl⟩) (fun b o' v hb e => by have := h.imlt e; omega)
    (fun b hb => h.fresh b (by simp at hb; omega))).2

theorem Ext.alloc {w G H B} (o : Obj) : Ext w G H B (w.alloc o) G H B :=
  ⟨rfl, rfl, rfl, by simp, .refl G, List.prefix_refl _, fun k hk _ _ => ⟨heap_alloc_old w o hk, fun _ => rfl⟩, fun _ h => .inl h, fun _ h => .inl h, fun _ _ => rfl⟩

theorem Ext.drew {w G H B} : Ext w G H B w.drew G H B :=
  ⟨rfl, rfl, rfl, Nat.le_refl _, .refl G, List.prefix_refl _, fun k hk _ _ => ⟨rfl, fun _ => rfl⟩, fun _ h => .inl h, fun _ h => .inl h, fun _ _ => rfl⟩

theorem MRel.drew {G B loc H w} (h : MRel G B loc H w) : MRel G B loc H w.drew := ⟨h.im, h.obj, h.fresh, h.len, h.nodup, h.loc, h.apart⟩

/-- A new local variable. -/
theorem MRel.allocLoc {G B loc H w} (h : MRel G B loc H w) (cs : List AV) (cells : Array Value) (E : TypeId) (hl : cs.length = cells.size)
    (hv : ∀ i, i < cs.length → VR G B (cs.getD i .any) (cells.getD i undef)) :
    MRel G (B ++ [w.heap.size]) (loc ++ [cs]) H (w.alloc (.cells cells E)) ∧ Ext w G H B (w.alloc (.cells cells E)) G H (B ++ [w.heap.size]) := by
  refine ⟨(h.alloc _).addLoc (nomem h) (Hnone h) ⟨cells, E, heap_new _ _, hl, fun i hi => (hv i hi).mono (.refl G) (List.prefix_append _ _), imnone h⟩, ?_⟩
  exact { Ext.alloc (w := w) (G := G) (H := H) (B := B) (.cells cells E) with
    pre := List.prefix_append _ _
    new := fun k hk => by
      rcases List.mem_append.1 hk with c | c
      · exact .inl c
      · simp at c; exact .inr (by omega) }

/-- A new variable of the heap. -/
theorem MRel.allocBox {G B loc H w} (h : MRel G B loc H w) (cs : List AV) (cells : Array Value) (E : TypeId) (hl : cs.length = cells.size)
    (hv : ∀ i, i < cs.length → VR G [] (cs.getD i .any) (cells.getD i undef)) :
    MRel G B loc (H.set w.heap.size (.box cs)) (w.alloc (.cells cells E)) ∧ Ext w G H B (w.alloc (.cells cells E)) G (H.set w.heap.size (.box cs)) B := by
  refine ⟨(h.alloc _).addObj (nomem h) ⟨cells, E, heap_new _ _, Nat.le_of_eq hl, hv, imnone h, fun E' cap sz e => by rw [h.fresh _ (Nat.le_refl _)] at e; cases e⟩, ?_⟩
  exact { Ext.alloc (w := w) (G := G) (H := H) (B := B) (.cells cells E) with
    own := fun k hk => by
      unfold Heap.set at hk
      by_cases c : k = w.heap.size
      · exact .inr (by omega)
      · rw [if_neg c] at hk; exact .inl hk }

def Gh.addIm (G : Gh) (b : Nat) (cells : Array Value) : Gh := { G with im := fun k o => if k = b then cells[o]? else G.im k o }

/-- A new block that no one writes any more. -/
theorem MRel.allocIm {G B loc H w} (h : MRel G B loc H w) (cells : Array Value) (E : TypeId) :
    MRel (G.addIm w.heap.size cells) B loc H (w.alloc (.cells cells E)) ∧ Ext w G H B (w.alloc (.cells cells E)) (G.addIm w.heap.size cells) H B := by
  have hk : ∀ k, k < w.heap.size → ∀ o, (G.addIm w.heap.size cells).im k o = G.im k o := fun k hk o => by simp [Gh.addIm]; intro e; omega
  have key := h.later (G' := G.addIm w.heap.size cells) (w' := w.alloc (.cells cells E)) (by simp) (fun k hk' => ⟨heap_alloc_old w _ hk', hk k hk', rfl⟩)
    (fun b o v hb e => by
      simp only [Gh.addIm] at e
      by_cases c : b = w.heap.size
      · subst c; rw [if_pos rfl] at e; exact ⟨cells, E, (0, 0), heap_new _ _, e⟩
      · rw [if_neg c] at e; have := h.imlt e; omega)
    (fun b hb => h.fresh b (by simp at hb; omega))
  exact ⟨key.2, { Ext.alloc (w := w) (G := G) (H := H) (B := B) (.cells cells E) with
    le := key.1
    heap := fun k hk' _ _ => ⟨heap_alloc_old w _ hk', hk k hk'⟩ }⟩

end Go.Am

/- Operations that give a value out of their operands alone. -/
set_option linter.unusedVariables false
set_option linter.unusedSimpArgs false
namespace Go.Am
open Go

def abinI (op : BinOp) (k : IntKind) (a b : Int) : Option AV :=
  match op with
  | .add => some (.int k (k.wrap (a + b)))
  | .sub => some (.int k (k.wrap (a - b)))
  | .mul => some (.int k (k.wrap (a * b)))
  | .quo => if b = 0 then none else some (.int k (k.wrap (a.tdiv b)))
  | .rem => if b = 0 then none else some (.int k (a.tmod b))
  | .and => some (.int k (bits .and k a b))
  | .or => some (.int k (bits .or k a b))
  | .xor => some (.int k (bits .xor k a b))
  | .eql => some (.bool (a == b))
  | .neq => some (.bool (a != b))
  | .lss => some (.bool (decide (a < b)))
  | .leq => some (.bool (decide (a ≤ b)))
  | .gtr => some (.bool (decide (a > b)))
  | .geq => some (.bool (decide (a ≥ b)))
  | _ => none

def abinS (op : BinOp) (a b : List UInt8) : Option AV :=
  match op with
  | .eql => some (.bool (a == b))
  | .neq => some (.bool (!(a == b)))
  | .lss => some (.bool (Op.bytesLess a b))
  | .leq => some (.bool (Op.bytesLess a b || a == b))
  | .gtr => some (.bool (!(Op.bytesLess a b || a == b)))
  | .geq => some (.bool (!Op.bytesLess a b))
  | _ => none

def ashift (op : BinOp) (k : IntKind) (a b : Int) : Option AV :=
  if b < 0 then none else
  match op with
  | .shl => some (.int k (k.wrap (a * 2 ^ (min b.toNat k.bits))))
  | .shr => some (.int k (a.fdiv (2 ^ (min b.toNat k.bits))))
  | _ => none

def AV.isPtr : AV → Bool
  | .ptr _ _ | .lptr _ _ | .iptr _ => true
  | _ => false

/-- Is a value nil? -/
def AV.nilQ : AV → Option Bool
  | .nilp | .nilmap | .niface | .nilf => some true
  | .ptr _ _ | .lptr _ _ | .iptr _ | .map _ | .func _ _ _ | .iface _ _ => some false
  | _ => none

def TK.isPtr : TK → Bool
  | .ptr _ => true
  | _ => false

def TK.isBool : TK → Bool
  | .bool => true
  | _ => false

def abin (tk : TK) (op : BinOp) (x y : AV) : Option AV :=
  match op, x, y with
  | .shl, .int k a, .int _ b => ashift .shl k a b
  | .shr, .int k a, .int _ b => ashift .shr k a b
  | op, .int k a, .int k' b => if k = k' then abinI op k a b else none
  | op, .str a, .str b => abinS op a b
  | .eql, .bool a, .bool b => if tk.isBool then some (.bool (a == b)) else none
  | .neq, .bool a, .bool b => if tk.isBool then some (.bool (!(a == b))) else none
  | .eql, .nilp, .nilp => if tk.isPtr then some (.bool true) else none
  | .neq, .nilp, .nilp => if tk.isPtr then some (.bool false) else none
  | .eql, x, .nilp => if x.isPtr && tk.isPtr then some (.bool false) else none
  | .neq, x, .nilp => if x.isPtr && tk.isPtr then some (.bool true) else none
  | _, _, _ => none

theorem abin_int {P : Program} {op : BinOp} {k : IntKind} {a b : Int} {t : TypeId} {w : World} {r : AV} (h : abinI op k a b = some r) :
    ∃ v, (binOp op t (.int k a) (.int k b)).run P w = .ok v w ∧ ∀ G B, VR G B r v := by
  cases op <;> simp only [abinI, reduceCtorEq] at h
  case quo =>
    by_cases e : b = 0
    · simp [e] at h
    · rw [if_neg e] at h; cases h
      exact ⟨_, by simp [binOp, Op.intDiv, e], fun _ _ => .int _ _ _⟩
  case rem =>
    by_cases e : b = 0
    · simp [e] at h
    · rw [if_neg e] at h; cases h
      exact ⟨_, by simp [binOp, Op.intDiv, e], fun _ _ => .int _ _ _⟩
  all_goals
    cases h
    first
      | exact ⟨_, by simp [binOp]; rfl, fun _ _ => .int _ _ _⟩
      | exact ⟨_, by simp [binOp, Op.intCmp], fun _ _ => .bool _ _⟩
      | exact ⟨_, by simp only [binOp, ne_eq, not_true_eq_false, if_false]; rfl, fun _ _ => .int _ _ _⟩

theorem abin_shift {P : Program} {op : BinOp} {k k' : IntKind} {a b : Int} {w : World} {r : AV} (h : ashift op k a b = some r) :
    ∃ v, (Op.shift op k a k' b).run P w = .ok v w ∧ ∀ G B, VR G B r v := by
  unfold ashift at h
  split at h
  · cases h
  · rename_i hb
    split at h <;> cases h
    · exact ⟨_, by simp [Op.shift, hb], fun _ _ => .int _ _ _⟩
    · exact ⟨_, by simp [Op.shift, hb], fun _ _ => .int _ _ _⟩

theorem abin_str {P : Program} {op : BinOp} {a b : List UInt8} {t : TypeId} {w : World} {r : AV} (h : abinS op a b = some r) :
    ∃ v, (binOp op t (.string ⟨a.toArray⟩) (.string ⟨b.toArray⟩)).run P w = .ok v w ∧ ∀ G B, VR G B r v := by
  cases op <;> simp only [abinS, reduceCtorEq] at h
  all_goals
    cases h
    exact ⟨_, by simp [binOp, Op.stringOp], fun _ _ => .bool _ _⟩

theorem run_eqGuard_none {P : Program} (op : BinOp) (t : TypeId) (x y : Operand) (a b : Value) (w : World) (h : (∀ c, a = .agg c → False)) (h2 : a ≠ .nilIface) :
    (eqGuard op t x y a b).run P w = .ok () w := by
  cases a <;> cases op <;> first | rfl | exact (h2 rfl).elim | exact (h _ rfl).elim

theorem run_test {P : Program} {op : BinOp} {t : TypeId} {x y : Operand} {a b v : Value} {w : World} (h : ∀ c, a = .agg c → False) (h2 : a ≠ .nilIface) (hr : (binOp op t a b).run P w = .ok v w) :
    (do eqGuard op t x y a b; binOp op t a b : Sem Value).run P w = .ok v w := by
  rw [Sem.run_bind, run_eqGuard_none _ _ _ _ _ _ _ h h2]; exact hr

theorem equal_bool {P : Program} {t : TypeId} (hu : P.underlying t = some .bool) (a b : Bool) (w : World) (d : Nat) : (Op.equalIn (d + 1) t (.bool a) (.bool b)).run P w = .ok (a == b) w := by
  simp [Op.equalIn, run_underlying hu]
theorem equal_nil {P : Program} {t e : TypeId} (hu : P.underlying t = some (.pointer e)) (w : World) (d : Nat) : (Op.equalIn (d + 1) t (.pointer none) (.pointer none)).run P w = .ok true w := by
  simp [Op.equalIn, run_underlying hu]
theorem equal_nil2 {P : Program} {t e : TypeId} (hu : P.underlying t = some (.pointer e)) (a : Addr) (w : World) (d : Nat) : (Op.equalIn (d + 1) t (.pointer (some a)) (.pointer none)).run P w = .ok false w := by
  simp [Op.equalIn, run_underlying hu]
theorem equal_bool' {P : Program} {t : TypeId} (hu : P.underlying t = some .bool) (a b : Bool) (w : World) : (Op.equal t (.bool a) (.bool b)).run P w = .ok (a == b) w := equal_bool hu a b w 9999
theorem equal_nil' {P : Program} {t e : TypeId} (hu : P.underlying t = some (.pointer e)) (w : World) : (Op.equal t (.pointer none) (.pointer none)).run P w = .ok true w := equal_nil hu w 9999
theorem equal_nil2' {P : Program} {t e : TypeId} (hu : P.underlying t = some (.pointer e)) (a : Addr) (w : World) : (Op.equal t (.pointer (some a)) (.pointer none)).run P w = .ok false w := equal_nil2 hu a w 9999

theorem abin_run {p : Pr} {op : BinOp} {t : TypeId} {x y : Operand} {ρ : Operand → Value} {G : Gh} {B : List Nat} {a b r : AV} {w : World} {i : TI} (hx : VR G B a (ρ x)) (hy : VR G B b (ρ y))
    (hi : p.ty t = some i) (h : abin i.kind op a b = some r) :
    ∃ v, (do eqGuard op t x y (ρ x) (ρ y); binOp op t (ρ x) (ρ y) : Sem Value).run p.prog w = .ok v w ∧ VR G B r v := by
  generalize ρ x = c at *
  generalize ρ y = d at *
  obtain ⟨dd, n, z, hu, hn, hkd, -⟩ := p.info hi
  unfold abin at h
  split at h
  · cases hx; cases hy
    obtain ⟨v, e, hv⟩ := abin_shift (P := p.prog) (w := w) (k' := _) h
    exact ⟨v, by simp [run_eqGuard_none, binOp_shl]; exact e, hv _ _⟩
  · cases hx; cases hy
    obtain ⟨v, e, hv⟩ := abin_shift (P := p.prog) (w := w) (k' := _) h
    exact ⟨v, by simp [run_eqGuard_none, binOp_shr]; exact e, hv _ _⟩
  · cases hx; cases hy
    split at h
    · rename_i e; subst e
      obtain ⟨v, e, hv⟩ := abin_int (P := p.prog) (w := w) (t := t) h
      exact ⟨v, by simp [run_eqGuard_none]; exact e, hv _ _⟩
    · cases h
  · cases hx; cases hy
    obtain ⟨v, e, hv⟩ := abin_str (P := p.prog) (w := w) (t := t) h
    exact ⟨v, by simp [run_eqGuard_none]; exact e, hv _ _⟩
  · cases hx; cases hy
    split at h
    · rename_i e; cases h
      have hb : dd = .bool := by rw [← hkd] at e; cases dd <;> simp [tkOf, TK.isBool] at e; rfl
      subst hb
      exact ⟨_, run_test (by simp) (by simp) (by simp only [binOp, Sem.run_bind, equal_bool' hu, Result.andThen_ok, Sem.run_pure]), .bool _ _⟩
    · cases h
  · cases hx; cases hy
    split at h
    · rename_i e; cases h
      have hb : dd = .bool := by rw [← hkd] at e; cases dd <;> simp [tkOf, TK.isBool] at e; rfl
      subst hb
      exact ⟨_, run_test (by simp) (by simp) (by simp only [binOp, Sem.run_bind, equal_bool' hu, Result.andThen_ok, Sem.run_pure]), .bool _ _⟩
    · cases h
  · cases hx; cases hy
    split at h
    · rename_i e; cases h
      obtain ⟨q, rfl⟩ : ∃ q, dd = .pointer q := by rw [← hkd] at e; cases dd <;> simp [tkOf, TK.isPtr] at e; exact ⟨_, rfl⟩
      exact ⟨_, run_test (by simp) (by simp) (by simp only [binOp, Sem.run_bind, equal_nil' hu, Result.andThen_ok, Sem.run_pure, Bool.not_true]), .bool _ _⟩
    · cases h
  · cases hx; cases hy
    split at h
    · rename_i e; cases h
      obtain ⟨q, rfl⟩ : ∃ q, dd = .pointer q := by rw [← hkd] at e; cases dd <;> simp [tkOf, TK.isPtr] at e; exact ⟨_, rfl⟩
      exact ⟨_, run_test (by simp) (by simp) (by simp only [binOp, Sem.run_bind, equal_nil' hu, Result.andThen_ok, Sem.run_pure, Bool.not_true]), .bool _ _⟩
    · cases h
  · cases hy
    split at h
    · rename_i e; cases h
      simp at e
      obtain ⟨q, rfl⟩ : ∃ q, dd = .pointer q := by have e := e.2; rw [← hkd] at e; cases dd <;> simp [tkOf, TK.isPtr] at e; exact ⟨_, rfl⟩
      obtain ⟨ad, rfl⟩ : ∃ ad, c = .pointer (some ad) := by cases hx <;> simp [AV.isPtr] at e <;> exact ⟨_, rfl⟩
      exact ⟨_, run_test (by simp) (by simp) (by simp only [binOp, Sem.run_bind, equal_nil2' hu, Result.andThen_ok, Sem.run_pure, Bool.not_false]), .bool _ _⟩
    · cases h
  · cases hy
    split at h
    · rename_i e; cases h
      simp at e
      obtain ⟨q, rfl⟩ : ∃ q, dd = .pointer q := by have e := e.2; rw [← hkd] at e; cases dd <;> simp [tkOf, TK.isPtr] at e; exact ⟨_, rfl⟩
      obtain ⟨ad, rfl⟩ : ∃ ad, c = .pointer (some ad) := by cases hx <;> simp [AV.isPtr] at e <;> exact ⟨_, rfl⟩
      exact ⟨_, run_test (by simp) (by simp) (by simp only [binOp, Sem.run_bind, equal_nil2' hu, Result.andThen_ok, Sem.run_pure, Bool.not_false]), .bool _ _⟩
    · cases h
  · cases h

end Go.Am

/- The pure operations as one function, and that it is right. -/
set_option linter.unusedVariables false
set_option linter.unusedSimpArgs false
namespace Go.Am
open Go

def addOff (v : AV) (n : Nat) : Option AV :=
  match v with
  | .ptr b o => some (.ptr b (o + n))
  | .lptr i o => some (.lptr i (o + n))
  | .iptr cs => some (.iptr (cs.drop n))
  | _ => none

def splice (cs : List AV) (off : Nat) (new : List AV) : List AV := cs.take off ++ new ++ cs.drop (off + new.length)

def fillA (place : Nat → Option (Nat × Nat)) (cells : List AV) : List (Nat × AV) → Option (List AV)
  | [] => some cells
  | (i, v) :: r =>
    match place i with
    | none => none
    | some (off, size) =>
      if v.known && (Nat.beq v.cells.length size && Nat.ble (off + size) cells.length) then fillA place (splice cells off v.cells) r else none

def parts (ρ : Operand → Option AV) : List (Nat × Operand) → Option (List (Nat × AV))
  | [] => some []
  | (i, x) :: r => match ρ x, parts ρ r with
    | some v, some vs => some ((i, v) :: vs)
    | _, _ => none

def vals (ρ : Operand → Option AV) : List Operand → Option (List AV)
  | [] => some []
  | x :: r => match ρ x, vals ρ r with
    | some v, some vs => some (v :: vs)
    | _, _ => none

def fieldPlaces (p : Pr) : List (Nat × Nat) → Option (List (Nat × Nat))
  | [] => some []
  | (o, t) :: r => match p.ty t, fieldPlaces p r with
    | some i, some l => some ((o, i.size) :: l)
    | _, _ => none

def abuild (p : Pr) (t : TypeId) (ps : List (Nat × AV)) : Option AV :=
  match p.ty t with
  | some i => match i.kind with
    | .struct fs => match fieldPlaces p fs with
      | some pl => match fillA (fun k => pl[k]?) i.zero ps with
        | some cs => forceL cs fun cs => some (.agg cs)
        | none => none
      | none => none
    | .arr _ e => match p.ty e with
      | some ie => match fillA (fun k => some (k * ie.size, ie.size)) i.zero ps with
        | some cs => forceL cs fun cs => some (.agg cs)
        | none => none
      | none => none
    | _ => none
  | none => none

def AV.isPtrA : AV → Bool
  | .ptr _ _ | .lptr _ _ | .iptr _ => true
  | _ => false

def alen (p : Pr) (ρ : Operand → Option AV) (as : List Operand) (ts : List TypeId) : Option AV :=
  match as, ts with
  | [x], [t] => match p.ty t, ρ x with
    | some i, some v => match i.kind, v with
      | .sl _, .sl els _ => some (.int .i64 els.length)
      | .sl _, .msl _ n _ => some (.int .i64 n)
      | .str, .str s => some (.int .i64 s.length)
      | .arr n _, _ => some (.int .i64 n)
      | _, _ => none
    | _, _ => none
  | _, _ => none

def apick (c a b : Option AV) : Option AV :=
  match c with
  | some (.bool t) => match a, b with
    | some (.bool x), some (.bool y) => some (.bool (bif t then x else y))
    | a, b => match t with
      | true => a
      | false => b
  | _ => none

def aop (p : Pr) (op : Op) (ρ : Operand → Option AV) : Option AV :=
  match op with
  | .move x => ρ x
  | .assign x => ρ x
  | .pick c a b => apick (ρ c) (ρ a) (ρ b)
  | .binOp o t x y _ => match p.ty t, ρ x, ρ y with
    | some i, some a, some b => abin i.kind o a b
    | _, _, _ => none
  | .unOp o _ x => match o, ρ x with
    | .not, some (.bool b) => some (.bool (!b))
    | .neg, some (.int k n) => some (.int k (k.wrap (0 - n)))
    | .xor, some (.int k n) => some (.int k (bits .xor k (if k.signed then -1 else k.max) n))
    | _, _ => none
  | .convert s t x => match p.ty s, p.ty t, ρ x with
    | some i, some j, some (.int _ n) => match j.kind with
      | .int k => some (.int k (k.wrap n))
      | _ => none
    | some i, some j, some (.str s) => match i.kind, j.kind with
      | .str, .str => some (.str s)
      | _, _ => none
    | _, _, _ => none
  | .nilCheck x => match ρ x with
    | some v => if v.isPtrA then some v else none
    | none => none
  | .fieldAddr s x f => match p.ty s, ρ x with
    | some i, some v => match i.kind with
      | .struct fs => match fs[f]? with
        | some (o, t) => match p.ty t with
          | some j => if Nat.beq j.size 0 then none else addOff v o
          | none => none
        | none => none
      | _ => none
    | _, _ => none
  | .field s x f => match p.ty s, ρ x with
    | some i, some (.agg cs) => match i.kind with
      | .struct fs => match fs[f]? with
        | some (o, t) => match p.ty t with
          | some j => ofCells j (cs.drop o)
          | none => none
        | none => none
      | _ => none
    | _, _ => none
  | .indexAddr t x ix => match p.ty t, ρ x, ρ ix with
    | some i, some v, some (.int _ n) => match i.kind with
      | .arr len e => match p.ty e with
        | some j => if v.isPtrA then (if 0 ≤ n ∧ n < len then addOff v (n.toNat * j.size) else none) else none
        | none => none
      | _ => none
    | _, _, _ => none
  | .index t x ix => match p.ty t, ρ x, ρ ix with
    | some i, some (.agg cs), some (.int _ n) => match i.kind with
      | .arr len e => match p.ty e with
        | some j => if 0 ≤ n ∧ n < len then ofCells j (cs.drop (n.toNat * j.size)) else none
        | none => none
      | _ => none
    | _, _, _ => none
  | .build t ps => match parts ρ ps.toList with
    | some vs => abuild p t vs
    | none => none
  | .extract x i => match ρ x with
    | some (.tuple vs) => vs[i]?
    | _ => none
  | .makeFunc (.func f) fs cs => match vals ρ fs.toList, vals ρ cs.toList with
    | some a, some b => some (.func f a b)
    | _, _ => none
  | .call { callee := .builtin .len, args := as, argTypes := ts } => alen p ρ as.toList ts.toList
  | _ => none

section
variable {ro : Option Nat} {p : Pr} {G : Gh} {B : List Nat} {w : World}

theorem VR.ptrA {v : AV} {x : Value} (h : VR G B v x) (hv : v.isPtrA = true) : ∃ b o, x = .pointer (some ⟨b, o, none⟩) := by
  cases h <;> simp [AV.isPtrA] at hv <;> exact ⟨_, _, rfl⟩

theorem addOff_rel {v r : AV} {b o n : Nat} (h : VR G B v (.pointer (some ⟨b, o, none⟩))) (hr : addOff v n = some r) : VR G B r (.pointer (some ⟨b, o + n, none⟩)) := by
  unfold addOff at hr
  split at hr <;> cases hr
  · cases h; exact .ptr _ _ _
  · cases h with
    | lptr _ _ _ _ h => exact .lptr _ _ _ _ h
  · cases h with
    | iptr _ cs _ _ cv h1 h2 =>
      refine .iptr _ _ _ _ (fun j => cv (n + j)) ?_ ?_
      · intro j hj
        simp at hj
        have := h1 (n + j) (by omega)
        rw [← Nat.add_assoc] at this; exact this
      · intro j hj
        simp at hj
        have := h2 (n + j) (by omega)
        simpa [List.getD_eq_getElem?_getD] using this

theorem ofCells_part {i : TI} {t : TypeId} {cs : List AV} {xs : Array Value} {off : Nat} {r : AV} (hi : p.ty t = some i) (hl : cs.length = xs.size)
    (hv : ∀ k, k < cs.length → VR G B (cs.getD k .any) (xs.getD k undef)) (hr : ofCells i (cs.drop off) = some r) :
    ∃ v, (part t xs off).run p.prog w = .ok v w ∧ VR G B r v := by
  obtain ⟨d, n, z, hu, hn, hk, hs, hb, hz, hz2⟩ := p.info hi
  have hag : (isAgg t).run p.prog w = .ok i.kind.isAgg w := by
    unfold isAgg
    simp only [Sem.run_bind, run_underlying hu, Result.andThen_ok]
    rw [← hk]
    cases d <;> rfl
  have hsz : (sizeOf t).run p.prog w = .ok i.size w := by
    unfold sizeOf typeInfo
    simp [hn, hs]
  unfold ofCells at hr
  unfold part
  simp only [Sem.run_bind, hag, Result.andThen_ok]
  by_cases hA : i.kind.isAgg = true
  · simp only [hA, if_true, forceL_eq] at hr ⊢
    split at hr
    · rename_i hle
      cases hr
      simp only [Sem.run_bind, hsz, Result.andThen_ok, Sem.run_pure]
      refine ⟨_, rfl, .agg _ _ _ ?_ ?_⟩
      · simp at hle ⊢; omega
      · intro k hk'
        simp at hle hk'
        have := hv (off + k) (by omega)
        have e1 : ((cs.drop off).take i.size).getD k .any = cs.getD (off + k) .any := by
          simp [List.getD_eq_getElem?_getD, List.getElem?_take, show k < i.size by omega]
        have e2 : (xs.extract off (off + i.size)).getD k undef = xs.getD (off + k) undef := by
          rw [Array.getD_eq_getD_getElem?, Array.getD_eq_getD_getElem?, Array.getElem?_extract, if_pos (by omega)]
        rw [e1, e2]; exact this
    · cases hr
  · simp only [hA, Bool.false_eq_true, if_false] at hr ⊢
    have hlt : off < cs.length := by
      rcases Nat.lt_or_ge off cs.length with h | h
      · exact h
      · rw [List.drop_eq_nil_of_le h] at hr; cases hr
    have := hv off hlt
    have e1 : cs.getD off .any = r := by
      rw [List.head?_drop] at hr
      simp [List.getD_eq_getElem?_getD, hr]
    have e2 : xs[off]? = some (xs.getD off undef) := by simp [show off < xs.size by omega]
    rw [e2]
    exact ⟨_, rfl, e1 ▸ this⟩
theorem foldl_set (vs : List Value) (off : Nat) : ∀ (k : Nat) (cs : Array Value), off + k + vs.length ≤ cs.size →
    ((vs.zipIdx k).foldl (fun cs (c, j) => cs.setIfInBounds (off + j) c) cs).size = cs.size ∧
    ∀ i, ((vs.zipIdx k).foldl (fun cs (c, j) => cs.setIfInBounds (off + j) c) cs).getD i undef = if off + k ≤ i ∧ i < off + k + vs.length then vs.getD (i - (off + k)) undef else cs.getD i undef := by
  induction vs with
  | nil => intro k cs h; exact ⟨rfl, fun i => by simp; intro h1 h2; omega⟩
  | cons v vs ih =>
    intro k cs h
    have hl : (v :: vs).length = vs.length + 1 := rfl
    obtain ⟨h1, h2⟩ := ih (k + 1) (cs.setIfInBounds (off + k) v) (by simp; omega)
    simp only [List.zipIdx_cons, List.foldl_cons]
    refine ⟨by rw [h1]; simp, fun i => ?_⟩
    rw [h2 i]
    by_cases e : i = off + k
    · subst e
      rw [if_neg (by omega), if_pos (by omega), Nat.sub_self]
      simp [show off + k < cs.size by omega]
    · have e3 : (cs.setIfInBounds (off + k) v).getD i undef = cs.getD i undef := by
        rw [Array.getD_eq_getD_getElem?, Array.getD_eq_getD_getElem?, Array.getElem?_setIfInBounds_ne (Ne.symm e)]
      rw [e3]
      by_cases c : off + (k + 1) ≤ i ∧ i < off + (k + 1) + vs.length
      · rw [if_pos c, if_pos (by omega)]
        rw [show i - (off + k) = (i - (off + (k + 1))) + 1 by omega]
        simp
      · rw [if_neg c, if_neg (by omega)]

theorem splice_getD (cs new : List AV) (off i : Nat) (h : off + new.length ≤ cs.length) :
    (splice cs off new).getD i .any = if off ≤ i ∧ i < off + new.length then new.getD (i - off) .any else cs.getD i .any := by
  unfold splice
  simp only [List.getD_eq_getElem?_getD, List.append_assoc]
  by_cases h1 : i < off
  · rw [List.getElem?_append_left (by simp; omega), if_neg (by omega), List.getElem?_take, if_pos h1]
  · rw [List.getElem?_append_right (by simp; omega)]
    have e : (cs.take off).length = off := by simp; omega
    rw [e]
    by_cases h2 : i < off + new.length
    · rw [List.getElem?_append_left (by omega), if_pos ⟨by omega, h2⟩]
    · rw [List.getElem?_append_right (by omega), if_neg (by omega), List.getElem?_drop]
      congr 2; omega

theorem splice_length (cs new : List AV) (off : Nat) (h : off + new.length ≤ cs.length) : (splice cs off new).length = cs.length := by
  unfold splice; simp; omega

theorem fill_run {place : Nat → Option (Nat × Nat)} {place' : Nat → Option (Nat × Nat)} (hpl : ∀ k x, place k = some x → place' k = some x) :
    ∀ (vs : List (Nat × AV)) (xs : List (Nat × Value)) (cs : List AV) (cells : Array Value) (r : List AV), vs.length = xs.length →
      (∀ i, i < vs.length → (vs.getD i (0, .any)).1 = (xs.getD i (0, undef)).1 ∧ VR G B (vs.getD i (0, .any)).2 (xs.getD i (0, undef)).2) →
      cs.length = cells.size → (∀ k, k < cs.length → VR G B (cs.getD k .any) (cells.getD k undef)) → fillA place cs vs = some r →
      ∃ cells', Instr.fill place' cells xs = some cells' ∧ r.length = cells'.size ∧ cells'.size = cells.size ∧ ∀ k, k < r.length → VR G B (r.getD k .any) (cells'.getD k undef) := by
  intro vs
  induction vs with
  | nil =>
    intro xs cs cells r hl hv hc hr hf
    cases xs with
    | nil => cases hf; exact ⟨cells, rfl, hc, rfl, hr⟩
    | cons => cases hl
  | cons v vs ih =>
    intro xs cs cells r hl hv hc hr hf
    cases xs with
    | nil => cases hl
    | cons x xs =>
      obtain ⟨i, v⟩ := v
      obtain ⟨i', x⟩ := x
      have h0 := hv 0 (by simp)
      simp at h0
      obtain ⟨rfl, hvx⟩ := h0
      simp only [fillA] at hf
      split at hf
      · cases hf
      · rename_i off size hp
        split at hf
        · rename_i hb
          simp only [Bool.and_eq_true] at hb
          obtain ⟨hk, hs, hle⟩ := hb
          have hs := Nat.eq_of_beq_eq_true hs
          have hle := Nat.le_of_ble_eq_true hle
          obtain ⟨c1, c2⟩ := hvx.cells hk
          have hp' := hpl _ _ hp
          obtain ⟨f1, f2⟩ := foldl_set x.cells.toList off 0 cells (by simp; omega)
          have key := ih xs (splice cs off v.cells) ((x.cells.toList.zipIdx 0).foldl (fun cs (c, j) => cs.setIfInBounds (off + j) c) cells) r (by simpa using hl)
            (fun j hj => by have := hv (j + 1) (by simpa using hj); simpa using this)
            (by rw [splice_length _ _ _ (by omega), f1]; exact hc)
            (fun k hk => by
              rw [splice_length _ _ _ (by omega)] at hk
              rw [splice_getD _ _ _ _ (by omega), f2 k]
              by_cases c : off ≤ k ∧ k < off + v.cells.length
              · rw [if_pos c, if_pos (by simp; omega)]
                have := c2 (k - off) (by omega)
                simpa [Array.getD_eq_getD_getElem?, List.getD_eq_getElem?_getD] using this
              · rw [if_neg c, if_neg (by simp; omega)]
                exact hr k hk) hf
          obtain ⟨cells', g1, g2, g3, g4⟩ := key
          refine ⟨cells', ?_, g2, by rw [g3, f1], g4⟩
          simp only [Instr.fill, hp']
          rw [if_neg (by simp; omega)]
          rw [← g1]
          congr 1
          rw [← Array.foldl_toList, Array.toList_zipIdx]
        · cases hf
end

end Go.Am

/- The pure operations are right; the rule for them. -/
set_option linter.unusedVariables false
set_option linter.unusedSimpArgs false
namespace Go.Am
open Go

section
variable {ro : Option Nat} {p : Pr} {G : Gh} {B : List Nat} {w : World} {ρ : Operand → Option AV} {ρc : Operand → Value}

theorem vals_rel (hρ : ∀ x v, ρ x = some v → VR G B v (ρc x)) : ∀ (xs : List Operand) (vs : List AV), vals ρ xs = some vs →
    vs.length = xs.length ∧ ∀ i, i < vs.length → VR G B (vs.getD i .any) ((xs.map ρc).getD i undef) := by
  intro xs
  induction xs with
  | nil => intro vs h; cases h; exact ⟨rfl, fun i hi => absurd hi (by simp)⟩
  | cons x xs ih =>
    intro vs h
    simp only [vals] at h
    split at h
    · rename_i v vs' h1 h2
      cases h
      obtain ⟨a, b⟩ := ih vs' h2
      refine ⟨by simp [a], fun i hi => ?_⟩
      cases i with
      | zero => simpa using hρ x v h1
      | succ i => simpa using b i (by simpa using hi)
    · cases h

theorem vals_rel_array (hρ : ∀ x v, ρ x = some v → VR G B v (ρc x)) (xs : Array Operand) (vs : List AV) (h : vals ρ xs.toList = some vs) :
    vs.length = (xs.map ρc).size ∧ ∀ i, i < vs.length → VR G B (vs.getD i .any) ((xs.map ρc).getD i undef) := by
  obtain ⟨a, b⟩ := vals_rel hρ xs.toList vs h
  refine ⟨by simpa using a, fun i hi => ?_⟩
  have := b i hi
  rw [Array.getD_eq_getD_getElem?]
  simpa [List.getD_eq_getElem?_getD] using this

theorem parts_rel (hρ : ∀ x v, ρ x = some v → VR G B v (ρc x)) : ∀ (xs : List (Nat × Operand)) (vs : List (Nat × AV)), parts ρ xs = some vs →
    vs.length = xs.length ∧ ∀ i, i < vs.length → (vs.getD i (0, .any)).1 = ((xs.map fun (i, x) => (i, ρc x)).getD i (0, undef)).1 ∧
      VR G B (vs.getD i (0, .any)).2 ((xs.map fun (i, x) => (i, ρc x)).getD i (0, undef)).2 := by
  intro xs
  induction xs with
  | nil => intro vs h; cases h; exact ⟨rfl, fun i hi => absurd hi (by simp)⟩
  | cons x xs ih =>
    intro vs h
    obtain ⟨k, x⟩ := x
    simp only [parts] at h
    split at h
    · rename_i v vs' h1 h2
      cases h
      obtain ⟨a, b⟩ := ih vs' h2
      refine ⟨by simp [a], fun i hi => ?_⟩
      cases i with
      | zero => simpa using hρ x v h1
      | succ i => simpa using b i (by simpa using hi)
    · cases h

theorem run_sizeOf {t : TypeId} {i : TI} (h : p.ty t = some i) : (sizeOf t).run p.prog w = .ok i.size w := by
  obtain ⟨d, n, z, hu, hn, hk, hs, hb, hz, hz2⟩ := p.info h
  unfold sizeOf typeInfo
  simp [hn, hs]

theorem run_zeroValue {t : TypeId} {i : TI} (h : p.ty t = some i) : ∃ z, (zeroValue t).run p.prog w = .ok z w ∧ i.zero.length = z.cells.size ∧
    ∀ k, k < i.zero.length → VR G B (i.zero.getD k .any) (z.cells.getD k undef) := by
  obtain ⟨d, n, z, hu, hn, hk, hs, hb, hz, hz2⟩ := p.info h
  refine ⟨z, ?_, by simp [hz2], fun k hk' => ?_⟩
  · unfold zeroValue typeInfo
    simp [hn, hz]
  · rw [hz2] at hk' ⊢
    simp at hk'
    have := ofConst_rel G B z.cells[k]
    simpa [List.getD_eq_getElem?_getD, Array.getD_eq_getD_getElem?, hk'] using this

theorem field_ok {s f : Nat} {i : TI} {fs : List (Nat × Nat)} {o t : Nat} (hi : p.ty s = some i) (hk : i.kind = .struct fs) (hf : fs[f]? = some (o, t)) :
    ∃ fields fld, p.prog.underlying s = some (.struct fields) ∧ fields[f]? = some fld ∧ fld.offset = o ∧ fld.type = t := by
  obtain ⟨d, n, z, hu, hn, hkd, -⟩ := p.info hi
  rw [hk] at hkd
  cases d <;> simp [tkOf] at hkd
  rename_i fields
  subst hkd
  simp at hf
  obtain ⟨fld, h1, h2, h3⟩ := hf
  exact ⟨fields, fld, hu, h1, h2, h3⟩

theorem arr_ok {t : Nat} {i : TI} {n e : Nat} (hi : p.ty t = some i) (hk : i.kind = .arr n e) : p.prog.underlying t = some (.array n e) := by
  obtain ⟨d, n', z, hu, hn, hkd, -⟩ := p.info hi
  rw [hk] at hkd
  cases d <;> simp [tkOf] at hkd
  obtain ⟨rfl, rfl⟩ := hkd
  exact hu

theorem sl_ok {t : Nat} {i : TI} {e : Nat} (hi : p.ty t = some i) (hk : i.kind = .sl e) : p.prog.underlying t = some (.slice e) := by
  obtain ⟨d, n', z, hu, hn, hkd, -⟩ := p.info hi
  rw [hk] at hkd
  cases d <;> simp [tkOf] at hkd
  subst hkd
  exact hu

theorem str_ok {t : Nat} {i : TI} (hi : p.ty t = some i) (hk : i.kind = .str) : p.prog.underlying t = some .string := by
  obtain ⟨d, n', z, hu, hn, hkd, -⟩ := p.info hi
  rw [hk] at hkd
  cases d <;> simp [tkOf] at hkd
  exact hu

theorem int_ok {t : Nat} {i : TI} {k : IntKind} (hi : p.ty t = some i) (hk : i.kind = .int k) : p.prog.underlying t = some (.int k) := by
  obtain ⟨d, n', z, hu, hn, hkd, -⟩ := p.info hi
  rw [hk] at hkd
  cases d <;> simp [tkOf] at hkd
  subst hkd
  exact hu

theorem places_ok : ∀ (fs : List (Nat × Nat)) (pl : List (Nat × Nat)) (fields : List Field), fs = (fields.map fun f => (f.offset, f.type)) → fieldPlaces p fs = some pl →
    ((fields.mapM fun f => do pure (f.offset, ← sizeOf f.type) : Sem (List (Nat × Nat)))).run p.prog w = .ok pl w := by
  intro fs
  induction fs with
  | nil => intro pl fields h1 h2; cases fields with
    | nil => cases h2; rfl
    | cons => cases h1
  | cons f fs ih =>
    intro pl fields h1 h2
    cases fields with
    | nil => cases h1
    | cons g fields =>
      simp at h1
      obtain ⟨rfl, h1⟩ := h1
      simp only [fieldPlaces] at h2
      split at h2
      · rename_i i l h3 h4
        cases h2
        have := ih l fields h1 h4
        rw [List.mapM_cons]
        simp only [Sem.run_bind, run_sizeOf h3, Result.andThen_ok, Sem.run_pure, this]
      · cases h2

theorem abuild_run {t : TypeId} {vs : List (Nat × AV)} {xs : Array (Nat × Value)} {r : AV} (hl : vs.length = xs.size)
    (hv : ∀ i, i < vs.length → (vs.getD i (0, .any)).1 = (xs.toList.getD i (0, undef)).1 ∧ VR G B (vs.getD i (0, .any)).2 (xs.toList.getD i (0, undef)).2) (h : abuild p t vs = some r) :
    ∃ v, (Instr.build t xs).run p.prog w = .ok v w ∧ VR G B r v := by
  unfold abuild at h
  split at h
  · rename_i i hi
    obtain ⟨z, hz, hzl, hzr⟩ := run_zeroValue (p := p) (G := G) (B := B) (w := w) hi
    split at h
    · rename_i fs hk
      split at h
      · rename_i pl hpl
        split at h
        · rename_i cs hf
          rw [forceL_eq] at h
          cases h
          obtain ⟨d, n', z', hu, hn, hkd, -⟩ := p.info hi
          rw [hk] at hkd
          cases d <;> simp [tkOf] at hkd
          rename_i fields
          have hm := places_ok (p := p) (w := w) fs pl fields.toList hkd.symm hpl
          obtain ⟨cells', g1, g2, g3, g4⟩ := fill_run (G := G) (B := B) (place' := fun k => pl.toArray[k]?) (fun k x e => by simpa using e) vs xs.toList i.zero z.cells cs (by simpa using hl) hv hzl hzr hf
          refine ⟨.agg cells', ?_, .agg _ _ _ g2 g4⟩
          unfold Instr.build
          simp only [Sem.run_bind, hz, Result.andThen_ok, run_underlying hu]
          rw [Array.mapM_eq_mapM_toList]
          simp only [Sem.run_map, hm, Result.andThen_ok, g1, Sem.run_pure]
        · cases h
      · cases h
    · rename_i m e hk
      split at h
      · rename_i ie hie
        split at h
        · rename_i cs hf
          rw [forceL_eq] at h
          cases h
          obtain ⟨cells', g1, g2, g3, g4⟩ := fill_run (G := G) (B := B) (place' := fun k => some (k * ie.size, ie.size)) (fun k x e => e) vs xs.toList i.zero z.cells cs (by simpa using hl) hv hzl hzr hf
          refine ⟨.agg cells', ?_, .agg _ _ _ g2 g4⟩
          unfold Instr.build
          simp only [Sem.run_bind, hz, Result.andThen_ok, run_underlying (arr_ok hi hk), run_sizeOf hie, g1, Sem.run_pure]
        · cases h
      · cases h
    · cases h
  · cases h

theorem alen_run {as : Array Operand} {ts : Array TypeId} {dst : Option Tmp} {ty : TypeId} {pos : String} {after : Array Edge} {g : Option (Nat × Bool)} {r : AV} (hρ : ∀ x v, ρ x = some v → VR G B v (ρc x))
    (h : alen p ρ as.toList ts.toList = some r) : ∃ v, (execOp ρc ⟨dst, .call { callee := .builtin .len, args := as, argTypes := ts }, ty, pos, after, g⟩).run p.prog w = .ok (.value v) w ∧ VR G B r v := by
  unfold alen at h
  split at h
  · rename_i x t ha ht
    have ha : as = #[x] := by rw [← Array.toArray_toList (xs := as), ha]
    have ht : ts = #[t] := by rw [← Array.toArray_toList (xs := ts), ht]
    subst ha; subst ht
    split at h
    · rename_i i v h1 h2
      have e1 := hρ _ _ h2
      have pre : ∀ vx, ρc x = vx → ∀ rv, (Builtin.len_ #[t] ty #[vx]).run p.prog w = .ok rv w → (execOp ρc ⟨dst, .call { callee := .builtin .len, args := #[x], argTypes := #[t] }, ty, pos, after, g⟩).run p.prog w = .ok (.value rv) w := by
        intro vx hx rv hr
        simp only [execOp, resolve, invoke, builtin, Sem.run_bind, Sem.run_pure, Result.andThen_ok, List.map_toArray, List.map_cons, List.map_nil, hx, hr]
      generalize hx : ρc x = vx at *
      split at h
      · rename_i e els tag hk
        cases h
        have hu := sl_ok h1 hk
        cases e1 <;> exact ⟨_, pre _ rfl _ (by simp [Builtin.len_, run_underlying hu]; rfl), .int _ _ _⟩
      · rename_i e g' n hk
        cases h
        have hu := sl_ok h1 hk
        cases e1
        exact ⟨_, pre _ rfl _ (by simp [Builtin.len_, run_underlying hu]; rfl), .int _ _ _⟩
      · rename_i s hk
        cases h
        have hu := str_ok h1 hk
        cases e1
        have hsz : (⟨s.toArray⟩ : ByteArray).size = s.length := rfl
        exact ⟨_, pre _ rfl (.int .i64 s.length) (by simp [Builtin.len_, run_underlying hu, hsz, goInt]), .int _ _ _⟩
      · rename_i n e hk
        cases h
        have hu := arr_ok h1 hk
        exact ⟨_, pre _ rfl _ (by cases e1 <;> simp [Builtin.len_, run_underlying hu] <;> rfl), .int _ _ _⟩
      · cases h
    · cases h
  · cases h

set_option maxHeartbeats 1000000 in
theorem aop_run {op : Op} {dst : Option Tmp} {ty : TypeId} {pos : String} {after : Array Edge} {g : Option (Nat × Bool)} {r : AV} (hρ : ∀ x v, ρ x = some v → VR G B v (ρc x))
    (h : aop p op ρ = some r) : ∃ v, (execOp ρc ⟨dst, op, ty, pos, after, g⟩).run p.prog w = .ok (.value v) w ∧ VR G B r v := by
  unfold aop at h
  split at h
  · exact ⟨_, rfl, hρ _ _ h⟩
  · exact ⟨_, rfl, hρ _ _ h⟩
  · -- pick
    rename_i c a b
    unfold apick at h
    split at h
    · rename_i t h1
      have e1 := hρ _ _ h1
      split at h
      · rename_i x y h2 h3
        cases h
        have e2 := hρ _ _ h2; have e3 := hρ _ _ h3
        generalize hc : ρc c = vc at *; generalize ha : ρc a = va at *; generalize hb : ρc b = vb at *
        cases e1; cases e2; cases e3
        refine ⟨.bool (bif t then x else y), ?_, .bool _ _⟩
        simp only [execOp, hc, ha, hb, asBool, Sem.run_bind, Sem.run_pure, Result.andThen_ok]
        cases t <;> rfl
      · generalize hc : ρc c = vc at *
        cases e1
        split at h
        · refine ⟨ρc a, ?_, hρ _ _ h⟩
          simp only [execOp, hc, asBool, Sem.run_bind, Sem.run_pure, Result.andThen_ok, if_true]
        · refine ⟨ρc b, ?_, hρ _ _ h⟩
          simp only [execOp, hc, asBool, Sem.run_bind, Sem.run_pure, Result.andThen_ok, Bool.false_eq_true, if_false]
    · cases h
  · -- binOp
    rename_i o t x y yt
    split at h
    · rename_i i a b h1 h2 h3
      obtain ⟨v, e, hv⟩ := abin_run (x := _) (y := _) (hρ _ _ h2) (hρ _ _ h3) h1 h
      exact ⟨v, by simp only [execOp]; rw [Sem.run_bind, e]; rfl, hv⟩
    · cases h
  · -- unOp
    rename_i o ut x
    split at h
    · rename_i b h1
      cases h
      have e1 := hρ _ _ h1
      generalize hc : ρc x = vc at *
      cases e1
      exact ⟨_, by simp only [execOp, hc]; rfl, .bool _ _⟩
    · rename_i k n h1
      cases h
      have e1 := hρ _ _ h1
      generalize hc : ρc x = vc at *
      cases e1
      exact ⟨_, by simp only [execOp, hc]; rfl, .int _ _ _⟩
    · rename_i k n h1
      cases h
      have e1 := hρ _ _ h1
      generalize hc : ρc x = vc at *
      cases e1
      exact ⟨_, by simp only [execOp, hc]; rfl, .int _ _ _⟩
    · cases h
  · -- convert
    rename_i s t x
    split at h
    · rename_i i j k0 n h1 h2 h3
      split at h
      · rename_i k hk
        cases h
        have e1 := hρ _ _ h3
        generalize hc : ρc x = vc at *
        cases e1
        obtain ⟨d, n', z, hu, -⟩ := p.info h1
        refine ⟨.int k (k.wrap n), ?_, .int _ _ _⟩
        simp only [execOp, hc, convert, Sem.run_bind, run_underlying hu, run_underlying (int_ok h2 hk), Result.andThen_ok]
        rfl
      · cases h
    · rename_i i j l h1 h2 h3
      split at h
      · rename_i hk1 hk2
        cases h
        have e1 := hρ _ _ h3
        generalize hc : ρc x = vc at *
        cases e1
        refine ⟨.string ⟨l.toArray⟩, ?_, .str _ _⟩
        simp only [execOp, hc, convert, Sem.run_bind, run_underlying (str_ok h1 hk1), run_underlying (str_ok h2 hk2), Result.andThen_ok]
        rfl
      · cases h
    · cases h
  · -- nilCheck
    rename_i x
    split at h
    · rename_i v h1
      split at h
      · rename_i hp
        cases h
        have e1 := hρ _ _ h1
        obtain ⟨b, o, e2⟩ := e1.ptrA hp
        rw [e2] at e1
        refine ⟨_, ?_, e1⟩
        simp only [execOp, e2]
        rfl
      · cases h
    · cases h
  · -- fieldAddr
    rename_i s x f
    split at h
    · rename_i i v h1 h2
      split at h
      · rename_i fs hk
        split at h
        · rename_i o t hf
          split at h
          · rename_i j hj
            split at h
            · cases h
            · rename_i hz
              have hz : j.size ≠ 0 := fun e => hz (by rw [e]; rfl)
              have e1 := hρ _ _ h2
              have hp : v.isPtrA = true := by unfold addOff at h; split at h <;> first | rfl | cases h
              obtain ⟨b, oo, e2⟩ := e1.ptrA hp
              rw [e2] at e1
              obtain ⟨fields, fld, hu, g1, g2, g3⟩ := field_ok h1 hk hf
              refine ⟨_, ?_, addOff_rel e1 h⟩
              simp only [execOp, e2, Instr.fieldAt, Sem.run_bind, run_underlying hu, Result.andThen_ok, g1, Instr.sureAddr, Sem.run_pure, fieldPlace, g3, run_sizeOf hj, if_neg hz, g2, Addr.add_lit]
          · cases h
        · cases h
      · cases h
    · cases h
  · -- field
    rename_i s x f
    split at h
    · rename_i i cs h1 h2
      split at h
      · rename_i fs hk
        split at h
        · rename_i o t hf
          split at h
          · rename_i j hj
            have e1 := hρ _ _ h2
            generalize hc : ρc x = vc at *
            cases e1 with
            | agg _ _ xs hl hv =>
            obtain ⟨fields, fld, hu, g1, g2, g3⟩ := field_ok h1 hk hf
            obtain ⟨v, e3, e4⟩ := ofCells_part (w := w) hj hl hv h
            refine ⟨v, ?_, e4⟩
            simp only [execOp, hc, Instr.field, Sem.run_bind, run_underlying hu, Result.andThen_ok, g1, asAgg, Sem.run_pure, g2, g3, e3]
          · cases h
        · cases h
      · cases h
    · cases h
  · -- indexAddr
    rename_i t x ix
    split at h
    · rename_i i v k n h1 h2 h3
      split at h
      · rename_i len e hk
        split at h
        · rename_i j hj
          split at h
          · rename_i hp
            split at h
            · rename_i hn
              have e1 := hρ _ _ h2
              have e3 := hρ _ _ h3
              generalize hc : ρc ix = vc at *
              cases e3
              obtain ⟨b, oo, e2⟩ := e1.ptrA hp
              rw [e2] at e1
              refine ⟨_, ?_, addOff_rel e1 h⟩
              simp only [execOp, e2, hc, Instr.indexAt, asIntOf, Sem.run_bind, Sem.run_pure, run_underlying (arr_ok h1 hk), Result.andThen_ok, Instr.sureAddr, if_pos hn, run_sizeOf hj, Addr.add_lit]
            · cases h
          · cases h
        · cases h
      · cases h
    · cases h
  · -- index
    rename_i t x ix
    split at h
    · rename_i i cs k n h1 h2 h3
      split at h
      · rename_i len e hk
        split at h
        · rename_i j hj
          split at h
          · rename_i hn
            have e1 := hρ _ _ h2
            have e3 := hρ _ _ h3
            generalize hc : ρc ix = vc at *
            generalize hx : ρc x = vx at *
            cases e3
            cases e1 with
            | agg _ _ xs hl hv =>
            obtain ⟨v, e4, e5⟩ := ofCells_part (w := w) hj hl hv h
            refine ⟨v, ?_, e5⟩
            simp only [execOp, hx, hc, Instr.index, asIntOf, Sem.run_bind, Sem.run_pure, run_underlying (arr_ok h1 hk), Result.andThen_ok, if_pos hn, run_sizeOf hj, e4]
          · cases h
        · cases h
      · cases h
    · cases h
  · -- build
    rename_i t ps
    split at h
    · rename_i vs h1
      obtain ⟨a, b⟩ := parts_rel hρ ps.toList vs h1
      obtain ⟨v, e1, e2⟩ := abuild_run (w := w) (xs := ps.map fun (i, x) => (i, ρc x)) (by simpa using a) (fun i hi => by have := b i hi; simpa using this) h
      refine ⟨v, ?_, e2⟩
      simp only [execOp, Sem.run_bind, e1, Result.andThen_ok, Sem.run_pure]
    · cases h
  · -- extract
    rename_i x i
    split at h
    · rename_i vs h1
      have e1 := hρ _ _ h1
      generalize hx : ρc x = vx at *
      cases e1 with
      | tuple _ _ xs hl hv =>
      have hi : i < vs.length := (List.getElem?_eq_some_iff.1 h).1
      have := hv i hi
      have e2 : vs.getD i .any = r := by simp [List.getD_eq_getElem?_getD, h]
      have e3 : xs[i]? = some (xs.getD i undef) := by simp [show i < xs.size by omega]
      refine ⟨_, ?_, e2 ▸ this⟩
      simp only [execOp, hx, Instr.extract, e3, Sem.run_bind, Sem.run_pure, Result.andThen_ok]
    · cases h
  · -- makeFunc
    rename_i f fs cs
    split at h
    · rename_i a b h1 h2
      cases h
      obtain ⟨l1, v1⟩ := vals_rel_array hρ fs a h1
      obtain ⟨l2, v2⟩ := vals_rel_array hρ cs b h2
      exact ⟨_, rfl, .func _ _ _ _ _ _ l1 l2 v1 v2⟩
    · cases h
  · -- len
    rename_i as ts
    exact alen_run hρ h
  · cases h

end
end Go.Am

/- Rules for operations: pure ones, loads, stores, variables, calls. -/
set_option linter.unusedVariables false
set_option linter.unusedSimpArgs false
namespace Go.Am
open Go

section
variable {ro : Option Nat} {p : Pr} {N : Nat} {ops : Array Oper} {rest : List Oper} {σ : Frame} {loc : Loc} {H : Heap} {K : Kont} {ty : TypeId} {pos : String} {after : Array Edge} {g : Option (Nat × Bool)}
  {dst : Option Tmp} {Q : AV → Loc → Heap → Prop}

theorem ev_rel {G B} {ρc : Operand → Value} (h : ∀ x, VR G B (ev σ x) (ρc x)) : ∀ x v, evo σ x = some v → VR G B v (ρc x) := fun x v e => by
  have := h x
  rwa [ev_of e] at this

theorem OpT.aop {op : Op} {r : AV} (h : aop p op (evo σ) = some r) (hq : Q r loc H) : OpT p.prog ⟨dst, op, ty, pos, after, g⟩ (ev σ) loc H Q :=
  OpT.pure r (fun G B w ρc h1 h2 => aop_run (ev_rel h1) h) hq

/-- The rule for an operation that gives a value out of its operands. -/
theorem AOps.op {op : Op} {d : Tmp} {r : AV} (h : Am.aop p op (evo σ) = some r) (hd : Nat.blt d N = true) (hk : AOps ro p.prog N ops rest ((d, r) :: σ) loc H K) :
    AOps ro p.prog N ops (⟨some d, op, ty, pos, after, none⟩ :: rest) σ loc H K :=
  AOps.step rfl hd (OpT.aop h hk)

theorem cells_rel {G B} {w : World} {v : AV} {x : Value} {cs : List AV} (hm : MRel G B loc H w) (hv : VR G B v x) (hc : cellsAt v loc H = some cs) :
    ∃ b off, x = .pointer (some ⟨b, off, none⟩) ∧ ∀ j, j < cs.length → ∃ u, w.cell? ⟨b, off + j, none⟩ = some u ∧ VR G B (cs.getD j .any) u := by
  unfold cellsAt at hc
  split at hc
  · rename_i l
    cases hc
    cases hv with
    | iptr _ _ b off cv h1 h2 =>
      refine ⟨b, off, rfl, fun j hj => ⟨cv j, ?_, (h2 j hj).up⟩⟩
      obtain ⟨c, E, fr, h3, h4⟩ := hm.im _ _ _ (h1 j hj)
      rw [cell_of_row w b (off + j) c E fr h3]; exact h4
  · rename_i i off
    cases hv with
    | lptr _ _ _ b hb =>
      cases hl : loc[i]? with
      | none => simp [hl] at hc
      | some l =>
        simp [hl] at hc
        subst hc
        have hi : i < loc.length := (List.getElem?_eq_some_iff.1 hl).1
        have hL := hm.loc i hi
        have e1 : B.getD i 0 = b := by simp [List.getD_eq_getElem?_getD, hb]
        have e2 : loc.getD i [] = l := by simp [List.getD_eq_getElem?_getD, hl]
        rw [e1, e2] at hL
        obtain ⟨c, E, h1, h2, h3, h4⟩ := hL
        refine ⟨b, off, rfl, fun j hj => ?_⟩
        simp at hj
        refine ⟨c.getD (off + j) undef, ?_, ?_⟩
        · rw [cell_of_row w b (off + j) c E _ h1]; simp [show off + j < c.size by omega]
        · have := h3 (off + j) (by omega)
          simpa [List.getD_eq_getElem?_getD] using this
  · rename_i b off
    cases hv
    cases ho : H b with
    | none => simp [ho] at hc
    | some o =>
      cases o with
      | box l =>
        simp [ho] at hc
        subst hc
        obtain ⟨c, E, h1, h2, h3, h4, h5⟩ := hm.obj _ _ ho
        refine ⟨b, off, rfl, fun j hj => ?_⟩
        simp at hj
        refine ⟨c.getD (off + j) undef, ?_, ?_⟩
        · rw [cell_of_row w b (off + j) c E _ h1]; simp [show off + j < c.size by omega]
        · have := (h3 (off + j) (by omega)).up (B := B)
          simpa [List.getD_eq_getElem?_getD] using this
      | map => simp [ho] at hc
      | tail => simp [ho] at hc
      | loop => simp [ho] at hc
  · cases hc

theorem loadVar_run {G B} {w : World} {t : TypeId} {i : TI} {b off : Nat} {cs : List AV} {r : AV} (hi : p.ty t = some i)
    (hc : ∀ j, j < cs.length → ∃ u, w.cell? ⟨b, off + j, none⟩ = some u ∧ VR G B (cs.getD j .any) u) (hr : ofCells i cs = some r) :
    ∃ v, (loadVar t ⟨b, off, none⟩).run p.prog w = .ok v w ∧ VR G B r v := by
  obtain ⟨d, n, z, hu, hn, hk, hs, hb, hz, hz2⟩ := p.info hi
  have hag : (isAgg t).run p.prog w = .ok i.kind.isAgg w := by
    unfold isAgg
    simp only [Sem.run_bind, run_underlying hu, Result.andThen_ok]
    rw [← hk]
    cases d <;> rfl
  unfold ofCells at hr
  unfold loadVar
  simp only [Sem.run_bind, hag, Result.andThen_ok]
  by_cases hA : i.kind.isAgg = true
  · simp only [hA, if_true, forceL_eq] at hr ⊢
    split at hr
    · rename_i hle
      cases hr
      let vs : List Value := (List.range i.size).map fun j => (w.cell? ⟨b, off + j, none⟩).getD undef
      have hvs : ∀ j v, vs[j]? = some v → w.cell? ((⟨b, off, none⟩ : Addr).add j) = some v := by
        intro j v e
        simp only [vs, List.getElem?_map, List.getElem?_range] at e
        by_cases hj : j < i.size
        · simp [hj] at e
          obtain ⟨u, h1, h2⟩ := hc j (by omega)
          rw [Addr.add_lit, h1]
          rw [h1] at e
          simpa using e
        · simp [hj] at e
      have hl := run_loadCells_list (P := p.prog) (w := w) ⟨b, off, none⟩ vs hvs
      have hlen : vs.length = i.size := by simp [vs]
      rw [hlen] at hl
      simp only [Sem.run_bind, run_sizeOf hi, Result.andThen_ok, hl, Sem.run_pure]
      refine ⟨_, rfl, .agg _ _ _ (by simp [vs]; omega) fun k hk' => ?_⟩
      simp at hk'
      obtain ⟨u, h1, h2⟩ := hc k (by omega)
      have e1 : (cs.take i.size).getD k .any = cs.getD k .any := by simp [List.getD_eq_getElem?_getD, List.getElem?_take, show k < i.size by omega]
      have e2 : vs.toArray.getD k undef = u := by simp [vs, show k < i.size by omega, h1]
      rw [e1, e2]; exact h2
    · cases hr
  · simp only [hA, Bool.false_eq_true, if_false] at hr ⊢
    cases cs with
    | nil => cases hr
    | cons c cs =>
      cases hr
      obtain ⟨u, h1, h2⟩ := hc 0 (by simp)
      refine ⟨u, ?_, by simpa using h2⟩
      rw [run_load]
      simp at h1
      rw [h1]

theorem OpT.load {T : TypeId} {x : Operand} {pv v : AV} {cs : List AV} {i : TI} (hx : evo σ x = some pv) (hc : cellsAt pv loc H = some cs) (ht : p.ty T = some i) (hv : ofCells i cs = some v)
    (hq : Q v loc H) : OpT p.prog ⟨dst, .load T x, ty, pos, after, g⟩ (ev σ) loc H Q := by
  refine OpT.pure v (fun G B w ρc h1 h2 => ?_) hq
  obtain ⟨b, off, e, h3⟩ := cells_rel h2 (ev_rel h1 _ _ hx) hc
  obtain ⟨u, h4, h5⟩ := loadVar_run (G := G) (B := B) ht h3 hv
  refine ⟨u, ?_, h5⟩
  simp only [execOp, e, Instr.loadAt, Instr.sureAddr, Sem.run_bind, Sem.run_pure, Result.andThen_ok, h4]

theorem AOps.load {T : TypeId} {x : Operand} {d : Tmp} {pv v : AV} {cs : List AV} {i : TI} (hx : evo σ x = some pv) (hc : cellsAt pv loc H = some cs) (ht : p.ty T = some i) (hv : ofCells i cs = some v)
    (hd : Nat.blt d N = true) (hk : AOps ro p.prog N ops rest ((d, v) :: σ) loc H K) : AOps ro p.prog N ops (⟨some d, .load T x, ty, pos, after, none⟩ :: rest) σ loc H K :=
  AOps.step rfl hd (OpT.load hx hc ht hv hk)

theorem cellsAt_ptr {b off : Nat} {cs : List AV} (h : H b = some (.box cs)) : cellsAt (.ptr b off) loc H = some (cs.drop off) := by simp [cellsAt, h]

/-- A call of a function by its name. -/
theorem OpT.callF {f : FuncId} {as : Array Operand} {ts : Array TypeId} {vs : List AV} (hv : vals (evo σ) as.toList = some vs) (hf : AV.frees vs = true) (h : ACalls p.prog f vs H fun r H' => Q r loc H') :
    OpT p.prog ⟨dst, .call { callee := .value (.func f), args := as, argTypes := ts }, ty, pos, after, g⟩ (ev σ) loc H Q := by
  intro G B w ρc h1 h2 hcc
  obtain ⟨⟨fn, hfn, hb, hn⟩, hc⟩ := h
  obtain ⟨l1, v1⟩ := vals_rel_array (ev_rel h1) as vs hv
  have hx : ρc (.func f) = .func (.func f) #[] #[] := by
    have := h1 (.func f)
    rw [show ev σ (.func f) = .func f [] [] from rfl] at this
    generalize ρc (.func f) = z at this
    cases this with
    | func _ _ _ _ xs ys a b =>
      have : xs = #[] := by simpa using a.symm
      have : ys = #[] := by simpa using b.symm
      subst_vars; rfl
  unfold OpRuns
  have hrun : (execOp ρc ⟨dst, .call { callee := .value (.func f), args := as, argTypes := ts }, ty, pos, after, g⟩).run p.prog w = .ok (.enter f (as.map ρc)) w := by
    simp only [execOp, resolve, hx, Deferred.ofValue, invoke, callFunc, Sem.run_bind, Sem.run_pure, Result.andThen_ok, run_program, hfn, hn, hb, Bool.false_eq_true, if_false, Array.empty_append, Array.append_empty]
  rw [hrun]
  refine (hc G w (as.map ρc) l1 (fun i hi => (v1 i hi).down (frees_getD _ _ hf)) ⟨h2.im, h2.obj, h2.fresh, rfl, List.nodup_nil, fun i hi => absurd hi (by simp), fun b hb => absurd hb (by simp)⟩).mono ?_
  rintro e w' ⟨r, v, G', H', rfl, hr, hm, he, hk⟩
  refine ⟨v, rfl, r, loc, H', G', B, hr.up, ?_, ?_, hk⟩
  · refine ⟨hm.im, hm.obj, hm.fresh, h2.len, h2.nodup, fun i hi => ?_, fun b hb => ?_⟩
    · have hl := h2.loc i hi
      have hm' : B.getD i 0 ∈ B := by simp [List.getD_eq_getElem?_getD, show i < B.length from h2.len ▸ hi]
      have := he.heap _ hl.lt (h2.apart _ hm') (by simp)
      exact hl.kept he.le (List.prefix_refl _) this.1 this.2
    · cases e : H' b with
      | none => rfl
      | some x => rcases he.own b (by simp [e]) with c | c
                  · exact absurd (h2.apart b hb) c
                  · have := h2.blt hb; omega
  · exact ⟨he.os, he.tape, he.output, he.size, he.le, List.prefix_refl _, fun k h1 h2 h3 => he.heap k h1 h2 (by simp), he.own, fun k h => .inl h, he.row⟩

theorem AOps.call {f : FuncId} {as : Array Operand} {ts : Array TypeId} {vs : List AV} {d : Tmp} (hv : vals (evo σ) as.toList = some vs) (hf : AV.frees vs = true) (hd : Nat.blt d N = true)
    (h : ACalls p.prog f vs H fun r H' => AOps ro p.prog N ops rest ((d, r) :: σ) loc H' K) :
    AOps ro p.prog N ops (⟨some d, .call { callee := .value (.func f), args := as, argTypes := ts }, ty, pos, after, none⟩ :: rest) σ loc H K :=
  AOps.step rfl hd (OpT.callF hv hf h)

theorem AOps.call0 {f : FuncId} {as : Array Operand} {ts : Array TypeId} {vs : List AV} (hv : vals (evo σ) as.toList = some vs) (hf : AV.frees vs = true)
    (h : ACalls p.prog f vs H fun r H' => AOps ro p.prog N ops rest σ loc H' K) :
    AOps ro p.prog N ops (⟨none, .call { callee := .value (.func f), args := as, argTypes := ts }, ty, pos, after, none⟩ :: rest) σ loc H K :=
  AOps.step rfl rfl (OpT.callF hv hf h)

end
end Go.Am

/- A function's entry and end; stores; new variables; slices written out. -/
set_option linter.unusedVariables false
set_option linter.unusedSimpArgs false
namespace Go.Am
open Go

def argF : Nat → List AV → Frame
  | _, [] => []
  | i, v :: r => (i, v) :: argF (i + 1) r

theorem argF_get : ∀ (l : List AV) (i t : Nat), fget (argF i l) t = if i ≤ t ∧ t < i + l.length then l.getD (t - i) .any else .any
  | [], i, t => by simp [argF, fget, flook]
  | v :: r, i, t => by
    rw [argF, fget_cons, argF_get r (i + 1) t]
    by_cases h : i = t
    · subst h; simp
    · rw [if_neg h]
      by_cases c : i + 1 ≤ t ∧ t < i + 1 + r.length
      · rw [if_pos c, if_pos (by simp; omega)]
        rw [show t - i = (t - (i + 1)) + 1 by omega]; simp
      · rw [if_neg c, if_neg (by simp; omega)]

abbrev Fin (p : Pr) (rs : List ResultVar) (K : AV → Heap → Prop) : Exit → Kont := fun e σ loc H => match e with
  | .normal | .ret => ∃ r H', aresults p rs σ loc H = some r ∧ r.free = true ∧ H'.le H ∧ K r H'
  | _ => False

section
variable {ro : Option Nat} {p : Pr} {N : Nat} {σ : Frame} {loc : Loc} {H : Heap}

theorem aresult_run {G B} {a : Act} {w : World} {r : ResultVar} {v : AV} (hs : SRel N G B σ loc H a w) (h : aresult p σ loc H r = some v) :
    ∃ x, ((match r with
      | .tmp t => pure (a.tmps.getD t undef)
      | .cell c t => do loadVar t (← asAddr (a.tmps.getD c undef)) : Sem Value)).run p.prog w = .ok x w ∧ VR G B v x := by
  unfold aresult at h
  split at h
  · rename_i t
    have := hs.fr t
    simp only [fget, h, Option.getD_some] at this
    exact ⟨_, rfl, this⟩
  · rename_i c t
    split at h
    · rename_i pv i h1 h2
      split at h
      · rename_i cs h3
        have := hs.fr c
        simp only [fget, h1, Option.getD_some] at this
        obtain ⟨b, off, e, h4⟩ := cells_rel hs.mem this h3
        obtain ⟨u, h5, h6⟩ := loadVar_run (G := G) (B := B) h2 h4 h
        refine ⟨u, ?_, h6⟩
        simp only [e, asAddr, Sem.run_bind, Sem.run_pure, Result.andThen_ok, h5]
      · cases h
    · cases h

theorem aresultsL_run {G B} {a : Act} {w : World} (hs : SRel N G B σ loc H a w) (f : ResultVar → Sem Value) (hf : ∀ r, f r = (match r with
      | .tmp t => pure (a.tmps.getD t undef)
      | .cell c t => do loadVar t (← asAddr (a.tmps.getD c undef)) : Sem Value)) : ∀ (rs : List ResultVar) (vs : List AV), aresultsL p σ loc H rs = some vs →
    ∃ xs : List Value, (rs.mapM f).run p.prog w = .ok xs w ∧ vs.length = xs.length ∧ ∀ i, i < vs.length → VR G B (vs.getD i .any) (xs.getD i undef) := by
  intro rs
  induction rs with
  | nil => intro vs h; cases h; exact ⟨[], rfl, rfl, fun i hi => absurd hi (by simp)⟩
  | cons r rs ih =>
    intro vs h
    simp only [aresultsL] at h
    split at h
    · rename_i v vs' h1 h2
      cases h
      obtain ⟨x, hx, hr⟩ := aresult_run hs h1
      rw [← hf] at hx
      obtain ⟨xs, hxs, hl, hv⟩ := ih vs' h2
      refine ⟨x :: xs, ?_, by simp [hl], fun i hi => ?_⟩
      · rw [List.mapM_cons]
        simp only [Sem.run_bind, hx, Result.andThen_ok, hxs, Sem.run_pure]
      · cases i with
        | zero => simpa using hr
        | succ i => simpa using hv i (by simpa using hi)
    · cases h

theorem aresults_run {G B} {a : Act} {w : World} {fn : Func} {v : AV} (hs : SRel N G B σ loc H a w) (h : aresults p fn.results.toList σ loc H = some v) :
    ∃ x, (results fn a.tmps).run p.prog w = .ok x w ∧ VR G B v x := by
  unfold aresults at h
  have key : ∀ vs, aresultsL p σ loc H fn.results.toList = some vs → ∃ xs : List Value, (results fn a.tmps).run p.prog w = .ok (if h : xs.toArray.size = 1 then xs.toArray[0] else .tuple xs.toArray) w ∧
      vs.length = xs.length ∧ ∀ i, i < vs.length → VR G B (vs.getD i .any) (xs.getD i undef) := by
    intro vs hvs
    unfold results
    rw [Array.mapM_eq_mapM_toList]
    obtain ⟨xs, h1, h2, h3⟩ := aresultsL_run hs (fun x => match x with
      | .tmp t => pure (a.tmps.getD t undef)
      | .cell c t => do loadVar t (← asAddr (a.tmps.getD c undef))) (fun r => by cases r <;> rfl) _ vs hvs
    refine ⟨xs, ?_, h2, h3⟩
    rw [Sem.run_bind, Sem.run_map]
    erw [h1]
    rfl
  split at h
  · rename_i u hvs
    cases h
    obtain ⟨xs, h1, h2, h3⟩ := key _ hvs
    match xs, h2 with
    | [x], _ => exact ⟨x, by simpa using h1, by simpa using h3 0 (by simp)⟩
  · rename_i vs hvs hne
    cases h
    obtain ⟨xs, h1, h2, h3⟩ := key _ hne
    have hn : xs.toArray.size ≠ 1 := by
      simp
      rw [← h2]
      intro e
      match vs, e with
      | [u], _ => exact hvs u rfl
    rw [dif_neg hn] at h1
    refine ⟨_, h1, .tuple _ _ _ (by simpa using h2) (fun i hi => by simpa [List.getD_eq_getElem?_getD] using h3 i hi)⟩
  · cases h

theorem MRel.mark {G : Gh} {B : List Nat} {w : World} {D : Nat} {ds : Option (List Deferred)} {o : Obj} (h : MRel G B loc H w) (hD : w.heap[D]? = some (.deferred ds)) (hH : H D = none) (hB : D ∉ B) :
    MRel G B loc H (w.putObj D o) := by
  have other : ∀ k, k ≠ D → (w.putObj D o).heap[k]? = w.heap[k]? := fun k hk => World.putObj_heap_other hk
  refine ⟨fun b o' v e => ?_, fun b x e => ?_, fun b hb => h.fresh b (by simpa using hb), h.len, h.nodup, fun i hi => ?_, h.apart⟩
  · obtain ⟨c, E, fr, h1, h2⟩ := h.im b o' v e
    have : b ≠ D := fun q => by rw [q, hD] at h1; cases h1
    exact ⟨c, E, fr, (other b this).trans h1, h2⟩
  · have : b ≠ D := fun q => by rw [q, hH] at e; cases e
    exact (h.obj b x e).kept (.refl G) (other b this) (fun _ => rfl) rfl
  · have hm : B.getD i 0 ∈ B := by simp [List.getD_eq_getElem?_getD, show i < B.length from h.len ▸ hi]
    have : B.getD i 0 ≠ D := fun q => hB (q ▸ hm)
    exact (h.loc i hi).kept (.refl G) (List.prefix_refl _) (other _ this) (fun _ => rfl)

theorem Ext.mark {b : Base} {G : Gh} {B : List Nat} {w : World} {D : Nat} {o : Obj} (h : Ext b.w b.G b.H b.B w G H B) (hD : b.w.heap.size ≤ D) : Ext b.w b.G b.H b.B (w.putObj D o) G H B :=
  { h with
    size := by simpa using h.size
    heap := fun k hk h1 h2 => ⟨(World.putObj_heap_other (by omega)).trans (h.heap k hk h1 h2).1, (h.heap k hk h1 h2).2⟩ }

theorem leaves_marks {P : Program} {fn : Func} {tmps : Array Value} {R : Ending → World → Prop} {b : Base} {G : Gh} {B : List Nat}
    (hend : ∀ w, MRel G B loc H w → Ext b.w b.G b.H b.B w G H B → ∃ v, (results fn tmps).run P w = .ok v w ∧ R (.returned v) w) : ∀ (l : List Nat) (w : World), l.Nodup →
    (∀ D ∈ l, b.w.heap.size ≤ D ∧ D < w.heap.size ∧ w.heap[D]? = some (.deferred (some [])) ∧ H D = none ∧ D ∉ B) → MRel G B loc H w → Ext b.w b.G b.H b.B w G H B →
    LeavesInM Fence.wide 0 P fn tmps R (l.map markOf) .returning w
  | [], w, _, _, hm, he => hend w hm he
  | D :: l, w, hn, hl, hm, he => by
    obtain ⟨h1, h2, h3, h4, h5⟩ := hl D (by simp)
    rw [List.nodup_cons] at hn
    refine ⟨by simp, .inl ⟨D, _, rfl, run_takeDeferred h3, ?_⟩⟩
    refine leaves_marks hend l _ hn.2 (fun k hk => ?_) (hm.mark h3 h4 h5) (he.mark h1)
    obtain ⟨a1, a2, a3, a4, a5⟩ := hl k (by simp [hk])
    have : k ≠ D := fun q => hn.1 (q ▸ hk)
    exact ⟨a1, by simpa using a2, (World.putObj_heap_other this).trans a3, a4, a5⟩

/-- A function that is walked from its entry to its end. -/
theorem ACalls.body {f : FuncId} {fn : Func} {c : Code} {args : List AV} {K : AV → Heap → Prop} (hf : p.prog.funcs[f]? = some fn) (hb : fn.body = some c)
    (hn : (fn.name == "runtime.NumGoroutine") = false) (hN : fn.ntmps = N) (hl : Nat.ble args.length N = true)
    (h : AWP none p.prog N c (argF 0 args) [] H (Fin p fn.results.toList K)) : ACalls p.prog f args H K := by
  refine ⟨⟨fn, hf, by simp [hb], hn⟩, fun G w vs h0 h1 h2 => (callsIn_wide (n := 0)).1 (callsIn_of_wp_marks hf hb trivial ?_)⟩
  have hl := Nat.le_of_ble_eq_true hl
  refine wpIn_mono (h ⟨w, G, H, []⟩ G [] _ w ⟨?_, ?_, h2⟩ ⟨Ext.refl _ _ _ _, [], rfl, List.nodup_nil, fun D hD => absurd hD (by simp)⟩) ?_
  · simp; omega
  · intro t
    rw [argF_get]
    by_cases c : 0 ≤ t ∧ t < 0 + args.length
    · rw [if_pos c]
      have := h1 t (by omega)
      have e : (vs ++ Array.replicate (fn.ntmps - vs.size) undef).getD t undef = vs.getD t undef := by
        rw [Array.getD_eq_getD_getElem?, Array.getD_eq_getD_getElem?, Array.getElem?_append_left (by omega)]
      rw [e]; simpa using this
    · rw [if_neg c]; exact .any _ _
  · intro e a' w' ⟨σ', loc', H', G', B', hs, he, hk⟩
    have fin : ∀ r H'', aresults p fn.results.toList σ' loc' H' = some r → r.free = true → H''.le H' → K r H'' →
        LeavesInM Fence.wide 0 p.prog fn a'.tmps (fun e w' => ∃ r v G' H', e = .returned v ∧ VR G' [] r v ∧ MRel G' [] [] H' w' ∧ Ext w G H [] w' G' H' [] ∧ K r H') a'.defers .returning w' := by
      intro r H'' e1 e2 e3 e4
      obtain ⟨l, m1, m2, m3⟩ := he.marks
      rw [m1]
      refine leaves_marks (b := ⟨w, G, H, []⟩) (G := G') (B := B') (loc := loc') (H := H') (fun w' hm he => ?_) l w' m2 m3 hs.mem he.ext
      obtain ⟨x, hx, hr⟩ := aresults_run (a := a') ⟨hs.size, hs.fr, hm⟩ e1
      refine ⟨x, hx, r, x, G', H'', rfl, hr.down e2, ?_, ?_, e4⟩
      · have := hm.less e3
        exact ⟨this.im, this.obj, this.fresh, rfl, List.nodup_nil, fun i hi => absurd hi (by simp), fun b hb => absurd hb (by simp)⟩
      · have := he.less e3
        exact ⟨this.os, this.tape, this.output, this.size, this.le, List.prefix_refl _, this.heap, this.own, fun k hk => absurd hk (by simp), this.row⟩
    cases e with
    | normal => obtain ⟨r, H'', e1, e2, e3, e4⟩ := hk; exact fin r H'' e1 e2 e3 e4
    | ret => obtain ⟨r, H'', e1, e2, e3, e4⟩ := hk; exact fin r H'' e1 e2 e3 e4
    | exit => exact hk.elim
    | goto => exact hk.elim
    | panic => exact hk.elim
    | outgrown => exact hk.elim
end

end Go.Am

/- Stores and new variables. -/
set_option linter.unusedVariables false
set_option linter.unusedSimpArgs false
namespace Go.Am
open Go

theorem setRow_same (w : World) (b : Nat) (cs : Array Value) (k : Nat) (h : k ≠ b) : (w.setRow b cs).heap[k]? = w.heap[k]? := by
  unfold World.setRow
  simp only [Array.getElem?_modify]
  rw [if_neg (fun e => h e.symm)]

def sameBut (w w' : World) (b : Nat) : Prop :=
  w'.os = w.os ∧ w'.tape = w.tape ∧ w'.output = w.output ∧ w'.heap.size = w.heap.size ∧ ∀ k, k ≠ b → w'.heap[k]? = w.heap[k]?

theorem sameBut_setRow (w : World) (b : Nat) (cs : Array Value) : sameBut w (w.setRow b cs) b :=
  ⟨rfl, rfl, rfl, by simp, fun k hk => setRow_same w b cs k hk⟩

theorem sameBut.extB {w w' G H B b} (h : sameBut w w' b) (hb : b ∈ B) : Ext w G H B w' G H B :=
  ⟨h.1, h.2.1, h.2.2.1, Nat.le_of_eq h.2.2.2.1.symm, .refl G, List.prefix_refl _, fun k _ _ h3 => ⟨h.2.2.2.2 k (fun e => h3 (e ▸ hb)), fun _ => rfl⟩, fun _ h => .inl h, fun _ h => .inl h, fun _ _ => rfl⟩

theorem sameBut.extH {w w' G H B b x} (h : sameBut w w' b) (hb : H b ≠ none) : Ext w G H B w' G (H.set b x) B :=
  ⟨h.1, h.2.1, h.2.2.1, Nat.le_of_eq h.2.2.2.1.symm, .refl G, List.prefix_refl _, fun k _ h2 _ => ⟨h.2.2.2.2 k (fun e => hb (e ▸ h2)), fun _ => rfl⟩,
    fun k hk => by
      unfold Heap.set at hk
      by_cases c : k = b
      · exact .inl (c ▸ hb)
      · rw [if_neg c] at hk; exact .inl hk, fun _ h => .inl h, fun _ _ => rfl⟩

def spliceV (cells new : Array Value) (off : Nat) : Array Value := (cells.toList.take (off + 0) ++ new.toList ++ cells.toList.drop (off + 0 + new.toList.length)).toArray

theorem spliceV_size (cells new : Array Value) (off : Nat) (h : off + new.size ≤ cells.size) : (spliceV cells new off).size = cells.size := by
  unfold spliceV; simp; omega

theorem spliceV_getD (cells new : Array Value) (off i : Nat) (h : off + new.size ≤ cells.size) :
    (spliceV cells new off).getD i undef = if off ≤ i ∧ i < off + new.size then new.getD (i - off) undef else cells.getD i undef := by
  unfold spliceV
  simp only [Array.getD_eq_getD_getElem?, List.getElem?_toArray, List.append_assoc, Nat.add_zero]
  by_cases h1 : i < off
  · rw [List.getElem?_append_left (by simp; omega), if_neg (by omega), List.getElem?_take, if_pos h1]; simp
  · rw [List.getElem?_append_right (by simp; omega)]
    have e : (cells.toList.take off).length = off := by simp; omega
    rw [e]
    by_cases h2 : i < off + new.size
    · rw [List.getElem?_append_left (by simp; omega), if_pos ⟨by omega, h2⟩]; simp
    · rw [List.getElem?_append_right (by simp; omega), if_neg (by omega), List.getElem?_drop]
      simp
      congr 2; omega

section
variable {ro : Option Nat} {p : Pr} {N : Nat} {ops : Array Oper} {rest : List Oper} {σ : Frame} {loc : Loc} {H : Heap} {K : Kont} {ty : TypeId} {pos : String} {after : Array Edge} {g : Option (Nat × Bool)}
  {dst : Option Tmp} {Q : AV → Loc → Heap → Prop}

theorem storeAt_run {w : World} {b off : Nat} {cells : Array Value} {E T : TypeId} {ti : TI} {x : Value} (hg : w.heap[b]? = some (.cells cells E (0, 0))) (ht : p.ty T = some ti)
    (hsz : x.cells.size = ti.size) (hle : off + ti.size ≤ cells.size) (hone : ∀ u ∈ x.cells.toList, u.oneCell' = true) :
    (Instr.storeAt T (.pointer (some ⟨b, off, none⟩)) x).run p.prog w = .ok () (w.setRow b (spliceV cells x.cells off)) := by
  have h := run_storeCells_at p.prog b off E x.cells.toList 0 cells w hg (by simp; omega) hone
  unfold Instr.storeAt storeVar
  simp only [Instr.sureAddr, Sem.run_bind, Sem.run_pure, Result.andThen_ok, run_sizeOf ht, hsz, ne_eq, not_true_eq_false, if_false, h]
  rfl

/-- The cells of a variable behind a store. -/
def stored (ti : TI) (off : Nat) (v : AV) (cs : List AV) : Option (List AV) :=
  if v.known && (AV.ones v.cells && (Nat.beq v.cells.length ti.size && Nat.ble (off + ti.size) cs.length)) then forceL (splice cs off v.cells) some else none

def storedL (ti : TI) (i off : Nat) (v : AV) (loc : Loc) : Option Loc :=
  match loc[i]? with
  | some cs => match stored ti off v cs with
    | some cs' => forceL (loc.set i cs') some
    | none => none
  | none => none

theorem stored_ok {ti : TI} {off : Nat} {v : AV} {cs cs' : List AV} (h : stored ti off v cs = some cs') :
    v.known = true ∧ AV.ones v.cells = true ∧ v.cells.length = ti.size ∧ off + ti.size ≤ cs.length ∧ cs' = splice cs off v.cells := by
  unfold stored at h
  split at h
  · rename_i hb
    simp only [Bool.and_eq_true] at hb
    rw [forceL_eq] at h
    cases h
    exact ⟨hb.1, hb.2.1, Nat.eq_of_beq_eq_true hb.2.2.1, Nat.le_of_ble_eq_true hb.2.2.2, rfl⟩
  · cases h

theorem one_cells {G B v x} (h : VR G B v x) (hk : v.known = true) (ho : AV.ones v.cells = true) : ∀ u ∈ x.cells.toList, u.oneCell' = true := by
  intro u hu
  obtain ⟨h1, h2⟩ := h.cells hk
  obtain ⟨i, hi, rfl⟩ := List.getElem_of_mem hu
  have hi' : i < x.cells.size := by simpa using hi
  have := (h2 i (by omega)).one (ones_getD _ _ ho (by omega))
  simpa [hi'] using this

theorem frees_mem : ∀ (l : List AV), AV.frees l = true → ∀ i, (l.getD i .any).free = true := fun l h i => frees_getD l i h

theorem OpT.storeL {T : TypeId} {x y : Operand} {i off : Nat} {v : AV} {ti : TI} {loc' : Loc} (hx : evo σ x = some (.lptr i off)) (hy : evo σ y = some v) (ht : p.ty T = some ti)
    (h : storedL ti i off v loc = some loc') (hq : Q .any loc' H) : OpT p.prog ⟨dst, .store T x y, ty, pos, after, g⟩ (ev σ) loc H Q := by
  intro G B w ρc h1 h2 hcc
  unfold storedL at h
  split at h
  · rename_i cs hl
    split at h
    · rename_i cs' hs
      rw [forceL_eq] at h
      cases h
      obtain ⟨k1, k2, k3, k4, rfl⟩ := stored_ok hs
      have e1 := ev_rel h1 _ _ hx
      have e2 := ev_rel h1 _ _ hy
      obtain ⟨c1, c2⟩ := e2.cells k1
      have hi : i < loc.length := (List.getElem?_eq_some_iff.1 hl).1
      have eL : loc.getD i [] = cs := by simp [List.getD_eq_getElem?_getD, hl]
      have hL := h2.loc i hi
      rw [eL] at hL
      obtain ⟨cells, E, m1, m2, m3, m4⟩ := hL
      generalize hcx : ρc x = vx at *
      cases e1 with
      | lptr _ _ _ b hb =>
      have eB : B.getD i 0 = b := by simp [List.getD_eq_getElem?_getD, hb]
      rw [eB] at m1 m4
      have hbm : b ∈ B := List.mem_of_getElem? hb
      have hrun := storeAt_run (p := p) (off := off) m1 ht (by omega) (by omega) (one_cells e2 k1 k2)
      unfold OpRuns
      simp only [execOp, hcx, Sem.run_bind, hrun, Result.andThen_ok, Sem.run_pure]
      have hsb := sameBut_setRow w b (spliceV cells (ρc y).cells off)
      refine ⟨.any, _, H, G, B, .any _ _, h2.touchLoc hi hsb.2.2.2.1 (fun k hk => hsb.2.2.2.2 k (eB ▸ hk)) ?_, hsb.extB hbm, hq⟩
      rw [eB]
      refine ⟨_, E, setRow_heap w b cells _ E (0, 0) m1, ?_, ?_, m4⟩
      · rw [splice_length _ _ _ (by omega), spliceV_size _ _ _ (by omega)]; exact m2
      · intro k hk
        rw [splice_length _ _ _ (by omega)] at hk
        rw [splice_getD _ _ _ _ (by omega), spliceV_getD _ _ _ _ (by omega)]
        by_cases c : off ≤ k ∧ k < off + v.cells.length
        · rw [if_pos c, if_pos (by omega)]; exact c2 _ (by omega)
        · rw [if_neg c, if_neg (by omega)]; exact m3 k hk
    · cases h
  · cases h

theorem OpT.storeH {T : TypeId} {x y : Operand} {b off : Nat} {v : AV} {ti : TI} {cs cs' : List AV} (hx : evo σ x = some (.ptr b off)) (hy : evo σ y = some v) (ht : p.ty T = some ti)
    (hH : H b = some (.box cs)) (hf : AV.frees v.cells = true) (h : stored ti off v cs = some cs') (hq : Q .any loc (H.set b (.box cs'))) :
    OpT p.prog ⟨dst, .store T x y, ty, pos, after, g⟩ (ev σ) loc H Q := by
  intro G B w ρc h1 h2 hcc
  obtain ⟨k1, k2, k3, k4, rfl⟩ := stored_ok h
  have e1 := ev_rel h1 _ _ hx
  have e2 := ev_rel h1 _ _ hy
  obtain ⟨c1, c2⟩ := e2.cells k1
  obtain ⟨cells, E, m1, m2, m3, m4, m5⟩ := h2.obj _ _ hH
  generalize hcx : ρc x = vx at *
  cases e1
  have hbm : b ∉ B := fun m => by rw [h2.apart b m] at hH; cases hH
  have hrun := storeAt_run (p := p) (off := off) m1 ht (by omega) (by omega) (one_cells e2 k1 k2)
  unfold OpRuns
  simp only [execOp, hcx, Sem.run_bind, hrun, Result.andThen_ok, Sem.run_pure]
  have hsb := sameBut_setRow w b (spliceV cells (ρc y).cells off)
  refine ⟨.any, loc, _, G, B, .any _ _, h2.touch hbm hsb.2.2.2.1 (fun k hk => ⟨hsb.2.2.2.2 k hk, fun _ => rfl⟩) (fun _ => rfl) (.refl G) (fun o v e => by rw [m4] at e; cases e) ?_,
    hsb.extH (by rw [hH]; simp), hq⟩
  refine ⟨_, E, setRow_heap w b cells _ E (0, 0) m1, ?_, ?_, m4, fun E' cap sz e => ?_⟩
  · rw [splice_length _ _ _ (by omega), spliceV_size _ _ _ (by omega)]; exact m2
  · intro k hk
    rw [splice_length _ _ _ (by omega)] at hk
    rw [splice_getD _ _ _ _ (by omega), spliceV_getD _ _ _ _ (by omega)]
    by_cases c : off ≤ k ∧ k < off + v.cells.length
    · rw [if_pos c, if_pos (by omega)]; exact (c2 _ (by omega)).down (frees_getD _ _ hf)
    · rw [if_neg c, if_neg (by omega)]; exact m3 k hk
  · rw [spliceV_size _ _ _ (by omega)]; exact m5 E' cap sz e

theorem AOps.storeL {T : TypeId} {x y : Operand} {i off : Nat} {v : AV} {ti : TI} {loc' : Loc} (hx : evo σ x = some (.lptr i off)) (hy : evo σ y = some v) (ht : p.ty T = some ti)
    (h : storedL ti i off v loc = some loc') (hk : AOps ro p.prog N ops rest σ loc' H K) : AOps ro p.prog N ops (⟨none, .store T x y, ty, pos, after, none⟩ :: rest) σ loc H K :=
  AOps.step rfl rfl (OpT.storeL hx hy ht h hk)

theorem AOps.storeH {T : TypeId} {x y : Operand} {b off : Nat} {v : AV} {ti : TI} {cs cs' : List AV} (hx : evo σ x = some (.ptr b off)) (hy : evo σ y = some v) (ht : p.ty T = some ti)
    (hH : H b = some (.box cs)) (hf : AV.frees v.cells = true) (h : stored ti off v cs = some cs') (hk : AOps ro p.prog N ops rest σ loc (H.set b (.box cs')) K) :
    AOps ro p.prog N ops (⟨none, .store T x y, ty, pos, after, none⟩ :: rest) σ loc H K :=
  AOps.step rfl rfl (OpT.storeH hx hy ht hH hf h hk)

/-- A new variable of the call's own, at its zero value. -/
theorem OpT.allocL {T : TypeId} {ti : TI} {n : Nat} {loc' : Loc} (ht : p.ty T = some ti) (hn : loc.length = n) (hl : forceL (loc ++ [ti.zero]) some = some loc') (hq : Q (.lptr n 0) loc' H) :
    OpT p.prog ⟨dst, .alloc T, ty, pos, after, g⟩ (ev σ) loc H Q := by
  intro G B w ρc h1 h2 hcc
  rw [forceL_eq] at hl
  cases hl
  subst hn
  obtain ⟨z, hz, hzl, hzr⟩ := run_zeroValue (p := p) (G := G) (B := B) (w := w) ht
  obtain ⟨k1, k2⟩ := h2.allocLoc ti.zero z.cells T hzl hzr
  unfold OpRuns
  simp only [execOp, Instr.alloc, Sem.run_bind, hz, Result.andThen_ok, newVar, newRow, run_newObj, Sem.run_pure]
  refine ⟨_, _, H, G, _, .lptr _ _ _ w.heap.size ?_, k1, k2, hq⟩
  rw [← h2.len]; simp

theorem OpT.allocH {T : TypeId} {ti : TI} (ht : p.ty T = some ti) (hq : ∀ b, H b = none → Q (.ptr b 0) loc (H.set b (.box ti.zero))) :
    OpT p.prog ⟨dst, .alloc T, ty, pos, after, g⟩ (ev σ) loc H Q := by
  intro G B w ρc h1 h2 hcc
  obtain ⟨z, hz, hzl, hzr⟩ := run_zeroValue (p := p) (G := G) (B := []) (w := w) ht
  obtain ⟨k1, k2⟩ := h2.allocBox ti.zero z.cells T hzl hzr
  unfold OpRuns
  simp only [execOp, Instr.alloc, Sem.run_bind, hz, Result.andThen_ok, newVar, newRow, run_newObj, Sem.run_pure]
  exact ⟨_, loc, _, G, _, .ptr _ _ _, k1, k2, hq _ (Hnone h2)⟩

theorem OpT.boxL {T : TypeId} {x : Operand} {v : AV} {n : Nat} {loc' : Loc} (hx : evo σ x = some v) (hk : v.known = true) (hn : loc.length = n) (hl : forceL (loc ++ [v.cells]) some = some loc')
    (hq : Q (.lptr n 0) loc' H) : OpT p.prog ⟨dst, .box T x, ty, pos, after, g⟩ (ev σ) loc H Q := by
  intro G B w ρc h1 h2 hcc
  rw [forceL_eq] at hl
  cases hl
  subst hn
  obtain ⟨c1, c2⟩ := (ev_rel h1 _ _ hx).cells hk
  obtain ⟨k1, k2⟩ := h2.allocLoc v.cells (ρc x).cells T c1 c2
  unfold OpRuns
  simp only [execOp, Instr.box, Sem.run_bind, Result.andThen_ok, newVar, newRow, run_newObj, Sem.run_pure]
  refine ⟨_, _, H, G, _, .lptr _ _ _ w.heap.size ?_, k1, k2, hq⟩
  rw [← h2.len]; simp

theorem OpT.boxH {T : TypeId} {x : Operand} {v : AV} (hx : evo σ x = some v) (hk : v.known = true) (hf : AV.frees v.cells = true) (hq : ∀ b, H b = none → Q (.ptr b 0) loc (H.set b (.box v.cells))) :
    OpT p.prog ⟨dst, .box T x, ty, pos, after, g⟩ (ev σ) loc H Q := by
  intro G B w ρc h1 h2 hcc
  obtain ⟨c1, c2⟩ := (ev_rel h1 _ _ hx).cells hk
  obtain ⟨k1, k2⟩ := h2.allocBox v.cells (ρc x).cells T c1 (fun i hi => (c2 i hi).down (frees_getD _ _ hf))
  unfold OpRuns
  simp only [execOp, Instr.box, Sem.run_bind, Result.andThen_ok, newVar, newRow, run_newObj, Sem.run_pure]
  exact ⟨_, loc, _, G, _, .ptr _ _ _, k1, k2, hq _ (Hnone h2)⟩

theorem AOps.allocL {T : TypeId} {ti : TI} {d : Tmp} (n : Nat) {loc' : Loc} (ht : p.ty T = some ti) (hn : loc.length = n) (hl : forceL (loc ++ [ti.zero]) some = some loc') (hd : Nat.blt d N = true)
    (hk : AOps ro p.prog N ops rest ((d, .lptr n 0) :: σ) loc' H K) : AOps ro p.prog N ops (⟨some d, .alloc T, ty, pos, after, none⟩ :: rest) σ loc H K :=
  AOps.step rfl hd (OpT.allocL ht hn hl hk)

theorem AOps.allocH {T : TypeId} {ti : TI} {d : Tmp} (ht : p.ty T = some ti) (hd : Nat.blt d N = true)
    (hk : ∀ b, H b = none → AOps ro p.prog N ops rest ((d, .ptr b 0) :: σ) loc (H.set b (.box ti.zero)) K) : AOps ro p.prog N ops (⟨some d, .alloc T, ty, pos, after, none⟩ :: rest) σ loc H K :=
  AOps.step rfl hd (OpT.allocH ht hk)

theorem AOps.boxL {T : TypeId} {x : Operand} {v : AV} {d : Tmp} (n : Nat) {loc' : Loc} (hx : evo σ x = some v) (hkn : v.known = true) (hn : loc.length = n)
    (hl : forceL (loc ++ [v.cells]) some = some loc') (hd : Nat.blt d N = true) (hk : AOps ro p.prog N ops rest ((d, .lptr n 0) :: σ) loc' H K) :
    AOps ro p.prog N ops (⟨some d, .box T x, ty, pos, after, none⟩ :: rest) σ loc H K :=
  AOps.step rfl hd (OpT.boxL hx hkn hn hl hk)

theorem AOps.boxH {T : TypeId} {x : Operand} {v : AV} {d : Tmp} (hx : evo σ x = some v) (hkn : v.known = true) (hf : AV.frees v.cells = true) (hd : Nat.blt d N = true)
    (hk : ∀ b, H b = none → AOps ro p.prog N ops rest ((d, .ptr b 0) :: σ) loc (H.set b (.box v.cells)) K) :
    AOps ro p.prog N ops (⟨some d, .box T x, ty, pos, after, none⟩ :: rest) σ loc H K :=
  AOps.step rfl hd (OpT.boxH hx hkn hf hk)

end
end Go.Am
