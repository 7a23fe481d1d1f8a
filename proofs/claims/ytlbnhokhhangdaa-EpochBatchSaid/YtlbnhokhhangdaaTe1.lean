/- The texts of this part, one behind the other: what is proved of the model and of the functions that the law reaches. -/
import Derived.Lib.Zigzag
import Derived.Lib.BitFns
/- Numbers as bytes: what is told and what is read, in plain Lean. -/
namespace Go.Pk
open Go.Lib

abbrev Str := List UInt8

def vsize (n : Nat) : Nat := max ((bitLen n + 6) / 7) 1

/-- What is read from byte i on, acc behind. -/
def vgo : Nat → Nat → Str → Nat × Nat × Nat
  | _, _, [] => (0, 0, 2)
  | i, acc, c :: r =>
    if i = 9 ∧ 1 < c.toNat then (0, 0, 3)
    else if c.toNat < 128 then (if vsize (acc + c.toNat * 2 ^ (7 * i)) = i + 1 then (acc + c.toNat * 2 ^ (7 * i), i + 1, 0) else (0, 0, 3))
    else vgo (i + 1) (acc + (c.toNat - 128) * 2 ^ (7 * i)) r

/-- The number, how many bytes, why not. -/
def vtake (b : Str) : Nat × Nat × Nat := vgo 0 0 b

theorem vsize_eq (n : Nat) (h : n < 2 ^ 64) : (uvarint n).length = vsize n := by
  induction n using Nat.strongRecOn with
  | _ n ih =>
    unfold vsize
    by_cases c : n < 128
    · rw [uvarint_small c]
      have := bitLen_le n 7 (by decide) (by omega)
      simp; omega
    · rw [uvarint_big (by omega), List.length_cons, ih (n / 128) (by omega) (by omega)]
      have h1 := bitLen_shift 7 n (by omega) h
      have h2 := bitLen_half (n / 2 ^ 7) (by omega) (by omega)
      unfold vsize
      have e : n / 2 ^ 7 = n / 128 := rfl
      rw [e] at h1 h2
      omega

theorem pow7 (i : Nat) : 2 ^ (7 * (i + 1)) = 128 * 2 ^ (7 * i) := by
  rw [show 7 * (i + 1) = 7 * i + 7 by omega, Nat.pow_add]; omega

theorem pow7_le {i : Nat} (h : i ≤ 8) : 128 * 2 ^ (7 * i) ≤ 2 ^ 63 := by
  rw [← pow7]; exact Nat.pow_le_pow_right (by decide) (by omega)

theorem shl_div (acc n P : Nat) (hP : 0 < P) (h : acc < P) : (acc + n * P) / P = n := by
  rw [Nat.add_mul_div_right _ _ hP, Nat.div_eq_of_lt h, Nat.zero_add]

/-- The size of a number whose last seven bits are n. -/
theorem vsize_top {i acc n : Nat} (ha : acc < 2 ^ (7 * i)) (hn : n < 128) (hx : acc + n * 2 ^ (7 * i) < 2 ^ 64) (h0 : i = 0 ∨ n ≠ 0) : vsize (acc + n * 2 ^ (7 * i)) = i + 1 := by
  have hP : 0 < 2 ^ (7 * i) := Nat.pow_pos (by decide)
  unfold vsize
  by_cases c : n = 0
  · subst c
    have hi : i = 0 := by omega
    subst hi
    have : acc = 0 := by simpa using ha
    subst this
    simp [bitLen, bitLenAux]
  · have hge : 2 ^ (7 * i) ≤ acc + n * 2 ^ (7 * i) := by
      have : 1 * 2 ^ (7 * i) ≤ n * 2 ^ (7 * i) := Nat.mul_le_mul_right _ (by omega)
      omega
    have h1 := bitLen_shift (7 * i) _ hge hx
    rw [shl_div _ _ _ hP ha] at h1
    have h2 := bitLen_half n c (by omega)
    have h3 := bitLen_le n 7 (by decide) (by omega)
    omega

/-- What was told is read. -/
theorem vgo_uvarint (n : Nat) : ∀ (i acc : Nat) (r : Str), acc < 2 ^ (7 * i) → acc + n * 2 ^ (7 * i) < 2 ^ 64 → (i = 0 ∨ n ≠ 0) → i ≤ 9 →
    vgo i acc (uvarint n ++ r) = (acc + n * 2 ^ (7 * i), i + (uvarint n).length, 0) := by
  induction n using Nat.strongRecOn with
  | _ n ih =>
    intro i acc r ha hx h0 hi
    have h63 : i = 9 → n ≤ 1 := by
      intro e
      subst e
      have e2 : 2 ^ (7 * 9) = 9223372036854775808 := by decide
      rw [e2] at hx
      omega
    by_cases c : n < 128
    · rw [uvarint_small c]
      have hc : (n.toUInt8).toNat = n := by simp; omega
      simp only [List.cons_append, List.nil_append, vgo, hc, List.length_cons, List.length_nil]
      rw [if_neg (by omega), if_pos c, if_pos (vsize_top ha c hx h0)]
    · rw [uvarint_big (by omega)]
      have hc : ((n % 128 + 128).toUInt8).toNat = n % 128 + 128 := by simp; omega
      simp only [List.cons_append, vgo, hc, List.length_cons]
      rw [if_neg (by omega), if_neg (by omega)]
      have hp := pow7 i
      have key : acc + (n % 128) * 2 ^ (7 * i) + n / 128 * 2 ^ (7 * (i + 1)) = acc + n * 2 ^ (7 * i) := by
        rw [hp, ← Nat.mul_assoc, Nat.add_assoc, ← Nat.add_mul]
        congr 2
        omega
      have hlt : acc + (n % 128) * 2 ^ (7 * i) < 2 ^ (7 * (i + 1)) := by
        rw [hp]
        have : n % 128 * 2 ^ (7 * i) ≤ 127 * 2 ^ (7 * i) := Nat.mul_le_mul_right _ (by omega)
        omega
      have := ih (n / 128) (by omega) (i + 1) (acc + (n % 128) * 2 ^ (7 * i)) r hlt (by rw [key]; exact hx) (by omega) (by omega)
      rw [show n % 128 + 128 - 128 = n % 128 by omega, this, key]
      congr 2
      omega

theorem vtake_uvarint {n : Nat} (h : n < 2 ^ 64) (r : Str) : vtake (uvarint n ++ r) = (n, (uvarint n).length, 0) := by
  have := vgo_uvarint n 0 0 r (by decide) (by simpa using h) (.inl rfl) (by decide)
  simpa [vtake] using this

/-- What is read was told. -/
theorem vgo_inv : ∀ (b : Str) (i acc n' s : Nat), acc < 2 ^ (7 * i) → i ≤ 9 → vgo i acc b = (n', s, 0) →
    ∃ n r, n' = acc + n * 2 ^ (7 * i) ∧ s = i + (uvarint n).length ∧ b = uvarint n ++ r ∧ n' < 2 ^ 64 ∧ (i = 0 ∨ n ≠ 0)
  | [], i, acc, n', s, _, _, h => by simp [vgo] at h
  | c :: r, i, acc, n', s, ha, hi, h => by
    have hP : 0 < 2 ^ (7 * i) := Nat.pow_pos (by decide)
    have hp := pow7 i
    simp only [vgo] at h
    split at h
    · simp at h
    · rename_i h9
      split at h
      · rename_i hc
        split at h
        · rename_i hs
          simp only [Prod.mk.injEq] at h
          obtain ⟨rfl, rfl, -⟩ := h
          refine ⟨c.toNat, r, rfl, by rw [uvarint_small hc]; simp, by rw [uvarint_small hc]; simp, ?_, ?_⟩
          · by_cases e : i = 9
            · subst e
              have e2 : 2 ^ (7 * 9) = 9223372036854775808 := by decide
              rw [e2] at ha ⊢
              have : c.toNat ≤ 1 := by omega
              omega
            · have := pow7_le (i := i) (by omega)
              have : c.toNat * 2 ^ (7 * i) ≤ 127 * 2 ^ (7 * i) := Nat.mul_le_mul_right _ (by omega)
              omega
          · by_cases e : c.toNat = 0
            · left
              rw [e, Nat.zero_mul, Nat.add_zero] at hs
              have := bitLen_le acc (7 * i) (by omega) ha
              unfold vsize at hs
              omega
            · exact .inr e
        · simp at h
      · rename_i hc
        have hi9 : i ≠ 9 := fun e => h9 ⟨e, by omega⟩
        have hc2 := c.toNat_lt
        have hlt : acc + (c.toNat - 128) * 2 ^ (7 * i) < 2 ^ (7 * (i + 1)) := by
          rw [hp]
          have : (c.toNat - 128) * 2 ^ (7 * i) ≤ 127 * 2 ^ (7 * i) := Nat.mul_le_mul_right _ (by omega)
          omega
        obtain ⟨n, q, e1, e2, e3, e4, e5⟩ := vgo_inv r (i + 1) _ n' s hlt (by omega) h
        have hn : n ≠ 0 := by omega
        have hbig : uvarint (c.toNat - 128 + 128 * n) = c :: uvarint n := by
          rw [uvarint_big (by omega), show (c.toNat - 128 + 128 * n) % 128 + 128 = c.toNat by omega, show (c.toNat - 128 + 128 * n) / 128 = n by omega]
          congr 1
          exact UInt8.toNat.inj (by simp)
        refine ⟨c.toNat - 128 + 128 * n, q, ?_, ?_, ?_, e4, .inr (by omega)⟩
        · rw [e1, hp, Nat.add_mul, Nat.add_assoc]
          congr 2
          rw [← Nat.mul_assoc, Nat.mul_comm n 128]
        · rw [hbig, e2, List.length_cons]; omega
        · rw [hbig, e3]; rfl

theorem vtake_inv {b : Str} {n s : Nat} (h : vtake b = (n, s, 0)) : n < 2 ^ 64 ∧ s = (uvarint n).length ∧ ∃ r, b = uvarint n ++ r := by
  obtain ⟨m, r, e1, e2, e3, e4, -⟩ := vgo_inv b 0 0 n s (by decide) (by decide) h
  simp at e1 e2
  subst e1
  exact ⟨e4, e2, r, e3⟩

/-- Why not. -/
theorem vgo_err : ∀ (b : Str) (i acc : Nat), i ≤ 9 → (vgo i acc b).2.2 ≠ 0 → vgo i acc b = (0, 0, if i + b.length < 10 ∧ ∀ c ∈ b, 128 ≤ c.toNat then 2 else 3)
  | [], i, acc, hi, _ => by simp [vgo]; omega
  | c :: r, i, acc, hi, h => by
    simp only [vgo] at h ⊢
    split
    · rename_i h9
      rw [if_neg]
      rintro ⟨h1, -⟩
      simp at h1; omega
    · rename_i h9
      rw [if_neg h9] at h
      split
      · rename_i hc
        rw [if_pos hc] at h
        split
        · rename_i hs; simp [hs] at h
        · rw [if_neg]
          rintro ⟨-, h2⟩
          have := h2 c (by simp)
          omega
      · rename_i hc
        rw [if_neg hc] at h
        have hi9 : i ≠ 9 := fun e => h9 ⟨e, by omega⟩
        rw [vgo_err r (i + 1) _ (by omega) h]
        congr 2
        have : (i + 1 + r.length < 10 ∧ ∀ c ∈ r, 128 ≤ c.toNat) ↔ (i + (c :: r).length < 10 ∧ ∀ x ∈ c :: r, 128 ≤ x.toNat) := by
          simp only [List.length_cons, List.mem_cons, forall_eq_or_imp]
          constructor
          · rintro ⟨a, b⟩; exact ⟨by omega, by omega, b⟩
          · rintro ⟨a, -, b⟩; exact ⟨by omega, b⟩
        simp only [this]

theorem vtake_err {b : Str} (h : (vtake b).2.2 ≠ 0) : vtake b = (0, 0, if b.length < 10 ∧ ∀ c ∈ b, 128 ≤ c.toNat then 2 else 3) := by
  have := vgo_err b 0 0 (by decide) h
  simpa [vtake] using this

theorem vtake_le (b : Str) : (vtake b).2.1 ≤ b.length ∧ (vtake b).2.1 ≤ 10 ∧ (vtake b).1 < 2 ^ 64 ∧ ((vtake b).2.2 = 0 ∨ (vtake b).2.2 = 2 ∨ (vtake b).2.2 = 3) := by
  by_cases h : (vtake b).2.2 = 0
  · obtain ⟨h1, h2, r, h3⟩ := vtake_inv (b := b) (n := (vtake b).1) (s := (vtake b).2.1) (by rw [← h])
    have := uvarint_length64 h1
    refine ⟨?_, by omega, h1, .inl h⟩
    have e : b.length = (uvarint (vtake b).1).length + r.length := by rw [← List.length_append, ← h3]
    omega
  · rw [vtake_err h]
    simp only
    split <;> simp

/-- The number with a sign that is told by one. -/
def zag (u : Nat) : Int := if u % 2 = 0 then ((u / 2 : Nat) : Int) else -((u / 2 : Nat) : Int) - 1

theorem zag_zigzag (n : Int) : zag (zigzag n) = n := by
  unfold zag zigzag
  by_cases c : 0 ≤ n
  · rw [if_pos c, if_pos (by omega)]; omega
  · rw [if_neg c, if_neg (by omega)]; omega

theorem zigzag_zag (u : Nat) : zigzag (zag u) = u := by
  unfold zag zigzag
  by_cases c : u % 2 = 0
  · rw [if_pos c, if_pos (by omega)]; omega
  · rw [if_neg c, if_neg (by omega)]; omega

end Go.Pk

/- Clocks, in plain Lean. -/
namespace Go.Pk
open Go.Lib

structure Clk where
  a : Int
  b : Int
  c : Int
  deriving DecidableEq

def top : Int := 4611686018427387903

def nok (n : Int) : Bool := decide (0 ≤ n) && decide (n ≤ top)
theorem nok_iff (n : Int) : nok n = true ↔ 0 ≤ n ∧ n ≤ 4611686018427387903 := by unfold nok top; simp
theorem nok_not (n : Int) (h : n < 0 ∨ 4611686018427387903 < n) : nok n = false := by
  cases e : nok n with
  | false => rfl
  | true => have := (nok_iff n).1 e; omega

def Clk.ok (c : Clk) : Bool := nok c.a && (nok c.b && nok c.c)
def Clk.zero : Clk := ⟨0, 0, 0⟩

def cput (p c : Clk) : Str := uvarint (zigzag (c.a - p.a)) ++ (uvarint (zigzag (c.b - p.b)) ++ uvarint (zigzag (c.c - p.c)))

/-- One number of a clock behind another one's: the number, how many bytes, why not. -/
def ctake1 (n : Int) (b : Str) : Int × Nat × Nat :=
  if (vtake b).2.2 ≠ 0 then (0, 0, (vtake b).2.2)
  else if zag (vtake b).1 < -n ∨ zag (vtake b).1 > top - n then (0, 0, 3)
  else (n + zag (vtake b).1, (vtake b).2.1, 0)

def ctake (p : Clk) (b : Str) : Clk × Nat × Nat :=
  if p.ok = false then (Clk.zero, 0, 1) else
  let x := ctake1 p.a b
  if x.2.2 ≠ 0 then (Clk.zero, 0, x.2.2) else
  let y := ctake1 p.b (b.drop x.2.1)
  if y.2.2 ≠ 0 then (Clk.zero, 0, y.2.2) else
  let z := ctake1 p.c (b.drop (x.2.1 + y.2.1))
  if z.2.2 ≠ 0 then (Clk.zero, 0, z.2.2) else
  (⟨x.1, y.1, z.1⟩, x.2.1 + y.2.1 + z.2.1, 0)

end Go.Pk

/- Numbers read by definition. -/
namespace Go.Pk
open Go.Lib

def hor : Str → Nat
  | [] => 0
  | c :: r => c.toNat % 128 + 128 * hor r

theorem hor_uvarint (m : Nat) : hor (uvarint m) = m := by
  induction m using Nat.strongRecOn with
  | _ m ih =>
    by_cases c : m < 128
    · rw [uvarint_small c]; simp [hor]; omega
    · rw [uvarint_big (by omega)]
      simp only [hor, ih (m / 128) (by omega)]
      simp; omega

theorem uvarint_last (m : Nat) : ∃ init last, uvarint m = init ++ [last] ∧ last.toNat < 128 ∧ ∀ c ∈ init, 128 ≤ c.toNat := by
  induction m using Nat.strongRecOn with
  | _ m ih =>
    by_cases c : m < 128
    · rw [uvarint_small c]; exact ⟨[], m.toUInt8, rfl, by simp; omega, by simp⟩
    · rw [uvarint_big (by omega)]
      obtain ⟨i, l, h1, h2, h3⟩ := ih (m / 128) (by omega)
      refine ⟨(m % 128 + 128).toUInt8 :: i, l, by rw [h1]; rfl, h2, ?_⟩
      intro c hc
      simp only [List.mem_cons] at hc
      rcases hc with rfl | hc
      · simp; omega
      · exact h3 c hc

/-- The s-th byte is the first one below 128. -/
def First (b : Str) (s : Nat) : Prop := 1 ≤ s ∧ s ≤ b.length ∧ (∀ c, b[s - 1]? = some c → c.toNat < 128) ∧ ∀ j c, j < s - 1 → b[j]? = some c → 128 ≤ c.toNat

theorem First.eq {b : Str} {s t : Nat} (h : First b s) (k : First b t) : s = t := by
  obtain ⟨h1, h2, h3, h4⟩ := h
  obtain ⟨k1, k2, k3, k4⟩ := k
  rcases Nat.lt_trichotomy s t with c | c | c
  · have e : b[s - 1]? = some (b[s - 1]'(by omega)) := List.getElem?_eq_getElem _
    have a := h3 _ e
    have b := k4 (s - 1) _ (by omega) e
    omega
  · exact c
  · have e : b[t - 1]? = some (b[t - 1]'(by omega)) := List.getElem?_eq_getElem _
    have a := k3 _ e
    have b := h4 (t - 1) _ (by omega) e
    omega

theorem First.uvarint (m : Nat) (r : Str) : First (uvarint m ++ r) (uvarint m).length := by
  obtain ⟨i, l, h1, h2, h3⟩ := uvarint_last m
  rw [h1]
  refine ⟨by simp, by simp, ?_, ?_⟩
  · intro c hc
    simp at hc
    subst hc; exact h2
  · intro j c hj hc
    simp at hj
    rw [List.append_assoc, List.getElem?_append_left hj] at hc
    exact h3 c (List.mem_of_getElem? hc)

/-- What the document says of bytes whose first one below 128 is the s-th. -/
theorem vtake_first {b : Str} {s : Nat} (h : First b s) : vtake b = if uvarint (hor (b.take s) % 2 ^ 64) = b.take s then (hor (b.take s) % 2 ^ 64, s, 0) else (0, 0, 3) := by
  by_cases e : (vtake b).2.2 = 0
  · obtain ⟨h1, h2, r, h3⟩ := vtake_inv (b := b) (n := (vtake b).1) (s := (vtake b).2.1) (by rw [← e])
    generalize (vtake b).1 = m at *
    have hs : s = (uvarint m).length := h.eq (by rw [h3]; exact First.uvarint m r)
    have ht : b.take s = uvarint m := by rw [h3, hs]; simp
    rw [ht, hor_uvarint, Nat.mod_eq_of_lt h1, if_pos rfl, hs]
    rw [h3]; exact vtake_uvarint h1 r
  · rw [if_neg, vtake_err e, if_neg]
    · rintro ⟨-, h2⟩
      obtain ⟨h1, h2', h3, -⟩ := h
      have e : b[s - 1]? = some (b[s - 1]'(by omega)) := List.getElem?_eq_getElem _
      have := h3 _ e
      have := h2 _ (List.mem_of_getElem? e)
      omega
    · intro h2
      have h3 : b = uvarint (hor (b.take s) % 2 ^ 64) ++ b.drop s := by rw [h2, List.take_append_drop]
      apply e
      rw [h3, vtake_uvarint (Nat.mod_lt _ (by decide))]

/-- Bytes of which none of the first ten is below 128. -/
theorem vtake_none {b : Str} (h : ∀ j c, j < 10 → b[j]? = some c → 128 ≤ c.toNat) : vtake b = (0, 0, if b.length < 10 then 2 else 3) := by
  by_cases e : (vtake b).2.2 = 0
  · obtain ⟨h1, h2, r, h3⟩ := vtake_inv (b := b) (n := (vtake b).1) (s := (vtake b).2.1) (by rw [← e])
    generalize (vtake b).1 = m at *
    obtain ⟨i, l, k1, k2, k3⟩ := uvarint_last m
    have hl := uvarint_length64 h1
    rw [k1] at hl h3
    simp at hl
    have : b[i.length]? = some l := by rw [h3]; simp
    have := h i.length l (by omega) this
    omega
  · rw [vtake_err e]
    congr 2
    by_cases c : b.length < 10
    · rw [if_pos c, if_pos]
      refine ⟨c, fun x hx => ?_⟩
      obtain ⟨j, hj, rfl⟩ := List.getElem_of_mem hx
      exact h j _ (by omega) (List.getElem?_eq_getElem hj)
    · rw [if_neg c, if_neg (fun h => c h.1)]

theorem hor_drop {b : Str} {s k : Nat} {c : UInt8} (hk : k < s) (h : b[k]? = some c) : hor ((b.take s).drop k) = c.toNat % 128 + 128 * hor ((b.take s).drop (k + 1)) := by
  have : (b.take s)[k]? = some c := by rw [List.getElem?_take, if_pos hk, h]
  obtain ⟨h1, h2⟩ := List.getElem?_eq_some_iff.1 this
  rw [List.drop_eq_getElem_cons h1, h2]; rfl

end Go.Pk

/- Dictionaries, in plain Lean. -/
namespace Go.Pk
open Go.Lib

/-- Keys by their places; how many came. -/
structure Dic where
  keys : List Str
  now : Nat

def Dic.nil : Dic := ⟨[], 0⟩
def Dic.ok (d : Dic) : Prop := d.keys.length = min d.now 8 ∧ d.keys.Nodup
/-- The place of the next key, when there is no room. -/
def Dic.eldest (d : Dic) : Nat := if d.now < 8 then 0 else d.now % 8
def Dic.at (d : Dic) (k : Str) : Option Nat := d.keys.findIdx? (· == k)
def Dic.comes (d : Dic) (k : Str) : Dic := if d.keys.length < 8 then ⟨d.keys ++ [k], d.now + 1⟩ else ⟨d.keys.set (d.now % 8) k, d.now + 1⟩

theorem Dic.at_some {d : Dic} {k : Str} {i : Nat} (h : d.at k = some i) : d.keys[i]? = some k := by
  unfold Dic.at at h
  obtain ⟨h1, h2, -⟩ := List.findIdx?_eq_some_iff_getElem.1 h
  rw [List.getElem?_eq_getElem h1]; simpa using h2

theorem Dic.at_none {d : Dic} {k : Str} (h : d.at k = none) : k ∉ d.keys := by
  unfold Dic.at at h
  intro hk
  have := List.findIdx?_eq_none_iff.1 h k hk
  simp at this

theorem Dic.at_of {d : Dic} (hd : d.ok) {k : Str} {i : Nat} (h : d.keys[i]? = some k) : d.at k = some i := by
  cases e : d.at k with
  | none => exact absurd (List.mem_of_getElem? h) (Dic.at_none e)
  | some j =>
    have hj := Dic.at_some e
    obtain ⟨h1, h2⟩ := List.getElem?_eq_some_iff.1 h
    obtain ⟨k1, k2⟩ := List.getElem?_eq_some_iff.1 hj
    congr 1
    have hp := List.pairwise_iff_getElem.1 hd.2
    rcases Nat.lt_trichotomy j i with c | c | c
    · exact absurd (k2.trans h2.symm) (hp j i k1 h1 c)
    · exact c
    · exact absurd (h2.trans k2.symm) (hp i j h1 k1 c)

theorem Dic.nil_ok : Dic.nil.ok := ⟨rfl, List.nodup_nil⟩

theorem Dic.comes_ok {d : Dic} (hd : d.ok) {k : Str} (hk : d.at k = none) : (d.comes k).ok := by
  have hn := Dic.at_none hk
  obtain ⟨h1, h2⟩ := hd
  unfold Dic.comes
  split
  · rename_i c
    refine ⟨by simp; omega, ?_⟩
    rw [List.nodup_append]
    exact ⟨h2, by simp, fun x hx y hy => by simp at hy; subst hy; exact fun e => hn (e ▸ hx)⟩
  · rename_i c
    refine ⟨by simp; omega, ?_⟩
    refine List.pairwise_iff_getElem.2 ?_
    intro i j hi hj hij
    simp only [List.length_set] at hi hj
    rw [List.getElem_set, List.getElem_set]
    have hne : ∀ t (ht : t < d.keys.length), d.keys[t] ≠ k := fun t ht e => hn (e ▸ List.getElem_mem ht)
    split
    · split
      · omega
      · exact fun e => hne j hj e.symm
    · split
      · exact hne i hi
      · exact List.pairwise_iff_getElem.1 h2 i j hi hj hij

theorem Dic.comes_now (d : Dic) (k : Str) : (d.comes k).now = d.now + 1 := by unfold Dic.comes; split <;> rfl

/-- A key's bytes, and what is known then; why not. -/
def dput (d : Dic) (k : Str) : Str × Nat × Dic :=
  if 64 < k.length then ([], 4, d) else
  match d.at k with
  | some i => (uvarint (i + 1), 0, d)
  | none => (uvarint 0 ++ (uvarint k.length ++ k), 0, d.comes k)

/-- The key of bytes, how many these are, why not, what is known then. -/
def dtake (d : Dic) (b : Str) : Str × Nat × Nat × Dic :=
  if (vtake b).2.2 ≠ 0 then ([], 0, (vtake b).2.2, d)
  else if (vtake b).1 > d.keys.length then ([], 0, 9, d)
  else if 0 < (vtake b).1 then (d.keys.getD ((vtake b).1 - 1) [], (vtake b).2.1, 0, d)
  else
    let u := (vtake b).2.1
    let y := vtake (b.drop u)
    if y.2.2 ≠ 0 then ([], 0, y.2.2, d)
    else if y.1 > 64 then ([], 0, 4, d)
    else if b.length - (u + y.2.1) < y.1 then ([], 0, 2, d)
    else
      let k := (b.take (u + y.2.1 + y.1)).drop (u + y.2.1)
      if (d.at k).isSome then ([], 0, 3, d) else (k, u + y.2.1 + y.1, 0, d.comes k)

end Go.Pk

/- Transactions, in plain Lean. -/
namespace Go.Pk
open Go.Lib

structure Wr where
  key : Str
  value : Str
  gone : Bool
  deriving DecidableEq

structure Txn where
  origin : Int
  seq : Int
  deps : Clk
  writes : List Wr
  deriving DecidableEq

def Txn.zero : Txn := ⟨0, 0, Clk.zero, []⟩

def Clk.get (c : Clk) (o : Int) : Int := if o = 0 then c.a else if o = 1 then c.b else c.c

def Wr.long (w : Wr) : Bool := decide (64 < w.key.length) || decide (256 < w.value.length)
def Wr.odd (w : Wr) : Bool := w.gone && !(w.value == [])

/-- Why a transaction may not be. -/
def tcheck (t : Txn) : Nat :=
  if t.origin < 0 ∨ 2 < t.origin then 9
  else if (t.seq < 1 ∨ 4611686018427387903 < t.seq) ∨ t.deps.ok = false then 1
  else if t.deps.get t.origin ≠ t.seq - 1 then 11
  else if 16 < t.writes.length ∨ t.writes.any Wr.long = true then 4
  else if t.writes.any Wr.odd = true then 3
  else 0

def vput (w : Wr) : Str := if w.gone then [0] else uvarint (w.value.length + 1) ++ w.value

def wput (D : Dic) : List Wr → Str × Dic
  | [] => ([], D)
  | w :: r => let x := dput D w.key
    let y := wput x.2.2 r
    (x.1 ++ (vput w ++ y.1), y.2)

/-- A coder: what is known, its clock. -/
structure Cod where
  d : Dic
  c : Clk

def Cod.nil : Cod := ⟨Dic.nil, Clk.zero⟩

def tput (s : Cod) (t : Txn) : Str × Cod :=
  (uvarint t.origin.toNat ++ (uvarint t.seq.toNat ++ (cput s.c t.deps ++ (uvarint t.writes.length ++ (wput s.d t.writes).1))), ⟨(wput s.d t.writes).2, t.deps⟩)

/-- A write of bytes from the a-th on: it, where it ends, what is known then; or why not. -/
def wone (D : Dic) (b : Str) (a : Nat) : Except Nat (Wr × Nat × Dic) :=
  let x := dtake D (b.drop a)
  if x.2.2.1 ≠ 0 then .error x.2.2.1 else
  let a1 := a + x.2.1
  let y := vtake (b.drop a1)
  if y.2.2 ≠ 0 then .error y.2.2 else
  if y.1 > 257 then .error 4 else
  let a2 := a1 + y.2.1
  if y.1 = 0 then .ok (⟨x.1, [], true⟩, a2, x.2.2.2) else
  if b.length - a2 < y.1 - 1 then .error 2 else
  .ok (⟨x.1, (b.take (a2 + (y.1 - 1))).drop a2, false⟩, a2 + (y.1 - 1), x.2.2.2)

def wtake (b : Str) : Nat → Dic → Nat → Except Nat (List Wr × Nat × Dic)
  | 0, D, a => .ok ([], a, D)
  | n + 1, D, a => match wone D b a with
    | .error e => .error e
    | .ok (w, a', D') => match wtake b n D' a' with
      | .error e => .error e
      | .ok (r, a'', D'') => .ok (w :: r, a'', D'')

/-- The transaction of bytes, how many these are, the coder then; or why not. -/
def ttake (s : Cod) (b : Str) : Except Nat (Txn × Nat × Cod) :=
  let o := vtake b
  if o.2.2 ≠ 0 then .error o.2.2 else
  if o.1 > 4611686018427387903 then .error 1 else
  let a1 := o.2.1
  let q := vtake (b.drop a1)
  if q.2.2 ≠ 0 then .error q.2.2 else
  if q.1 > 4611686018427387903 then .error 1 else
  let a2 := a1 + q.2.1
  let z := ctake s.c (b.drop a2)
  if z.2.2 ≠ 0 then .error z.2.2 else
  let a3 := a2 + z.2.1
  let m := vtake (b.drop a3)
  if m.2.2 ≠ 0 then .error m.2.2 else
  if m.1 > 16 then .error 4 else
  match wtake b m.1 s.d (a3 + m.2.1) with
  | .error e => .error e
  | .ok (ws, a4, D) =>
    let t : Txn := ⟨o.1, q.1, z.1, ws⟩
    if tcheck t ≠ 0 then .error (tcheck t) else .ok (t, a4, ⟨D, z.1⟩)

/-- The parts of a check that is passed. -/
theorem tcheck_ok {t : Txn} (h : tcheck t = 0) : (0 ≤ t.origin ∧ t.origin ≤ 2) ∧ (1 ≤ t.seq ∧ t.seq ≤ 4611686018427387903) ∧ t.deps.ok = true ∧ t.deps.get t.origin = t.seq - 1 ∧ t.writes.length ≤ 16 ∧
    (∀ w ∈ t.writes, w.key.length ≤ 64 ∧ w.value.length ≤ 256) ∧ ∀ w ∈ t.writes, w.gone = true → w.value = [] := by
  unfold tcheck at h
  split at h
  · cases h
  rename_i h0
  split at h
  · cases h
  rename_i h1
  split at h
  · cases h
  rename_i h2
  split at h
  · cases h
  rename_i h3
  split at h
  · cases h
  rename_i h4
  refine ⟨by omega, by omega, ?_, ?_, by omega, fun w hw => ?_, fun w hw hg => ?_⟩
  · cases e : t.deps.ok with
    | true => rfl
    | false => exact absurd (.inr e) h1
  · exact Decidable.of_not_not h2
  · have : ¬ w.long = true := fun e => h3 (.inr (List.any_eq_true.2 ⟨w, hw, e⟩))
    simp [Wr.long] at this; omega
  · have : ¬ w.odd = true := fun e => h4 (List.any_eq_true.2 ⟨w, hw, e⟩)
    simpa [Wr.odd, hg] using this

end Go.Pk

/- Reading part by part, up to the first error, in plain Lean. -/
namespace Go.Pk
open Go.Lib

/-- A number up to a greatest one: it, where it ends, why not. -/
def rnum (b : Str) (s : Nat × Nat) (most above : Nat) : Nat × Nat × Nat :=
  if s.2 ≠ 0 then (0, s.1, s.2) else
  let x := vtake (b.drop s.1)
  (x.1, s.1 + x.2.1, if x.2.2 = 0 ∧ most < x.1 then above else x.2.2)

/-- So many bytes. -/
def rtext (b : Str) (s : Nat × Nat) (n : Nat) : Str × Nat × Nat :=
  if s.2 ≠ 0 then ([], s.1, s.2) else
  if b.length - s.1 < n then ([], s.1, 2) else ((b.take (s.1 + n)).drop s.1, s.1 + n, 0)

def rwrite (b : Str) (D : Dic) (u : Nat) : Wr × Dic × Nat × Nat :=
  let x := dtake D (b.drop u)
  let y := rnum b (u + x.2.1, x.2.2.1) 257 4
  if y.2.2 ≠ 0 ∨ y.1 = 0 then (⟨x.1, [], true⟩, x.2.2.2, y.2.1, y.2.2) else
  let z := rtext b y.2 (y.1 - 1)
  (⟨x.1, z.1, false⟩, x.2.2.2, z.2.1, z.2.2)

def wloop (b : Str) : Nat → Dic → Nat → Nat → List Wr → List Wr × Dic × Nat × Nat
  | 0, D, u, e, acc => (acc, D, u, e)
  | n + 1, D, u, e, acc => if e ≠ 0 then (acc, D, u, e) else
    let x := rwrite b D u
    wloop b n x.2.1 x.2.2.1 x.2.2.2 (acc ++ [x.1])

def rclock (c : Clk) (b : Str) (s : Nat × Nat) : Clk × Nat × Nat :=
  if s.2 ≠ 0 then (Clk.zero, s.1, s.2) else
  let z := ctake c (b.drop s.1)
  (z.1, s.1 + z.2.1, z.2.2)

theorem dtake_le (D : Dic) (b : Str) : (dtake D b).2.1 ≤ b.length := by
  unfold dtake
  split
  · simp
  split
  · simp
  split
  · exact (vtake_le b).1
  dsimp only
  split
  · simp
  split
  · simp
  split
  · simp
  split
  · simp
  · have := (vtake_le b).1
    have h2 := (vtake_le (b.drop (vtake b).2.1)).1
    rw [List.length_drop] at h2
    simp only; omega

theorem rnum_le {b : Str} {s : Nat × Nat} (h : s.1 ≤ b.length) (most above : Nat) : (rnum b s most above).2.1 ≤ b.length := by
  unfold rnum
  split
  · exact h
  · have := (vtake_le (b.drop s.1)).1
    rw [List.length_drop] at this
    simp only; omega

theorem rnum_lt (b : Str) (s : Nat × Nat) (most above : Nat) : (rnum b s most above).1 < 2 ^ 64 := by
  unfold rnum
  split
  · show 0 < 2 ^ 64; decide
  · exact (vtake_le (b.drop s.1)).2.2.1

theorem rtext_le {b : Str} {s : Nat × Nat} (h : s.1 ≤ b.length) (n : Nat) : (rtext b s n).2.1 ≤ b.length := by
  unfold rtext
  split
  · exact h
  split
  · exact h
  · simp only; omega

theorem rwrite_le {b : Str} {D : Dic} {u : Nat} (h : u ≤ b.length) : (rwrite b D u).2.2.1 ≤ b.length := by
  have h1 := dtake_le D (b.drop u)
  rw [List.length_drop] at h1
  have h2 : (rnum b (u + (dtake D (b.drop u)).2.1, (dtake D (b.drop u)).2.2.1) 257 4).2.1 ≤ b.length := rnum_le (by simp only; omega) _ _
  unfold rwrite
  dsimp only
  split
  · exact h2
  · exact rtext_le h2 _

theorem ctake_le (c : Clk) (b : Str) : (ctake c b).2.1 ≤ b.length := by
  have one : ∀ n b, (ctake1 n b).2.1 ≤ b.length := by
    intro n b
    unfold ctake1
    split
    · simp
    split
    · simp
    · exact (vtake_le b).1
  unfold ctake
  split
  · simp
  dsimp only
  split
  · simp
  split
  · simp
  split
  · simp
  · have h1 := one c.a b
    have h2 := one c.b (b.drop (ctake1 c.a b).2.1)
    have h3 := one c.c (b.drop ((ctake1 c.a b).2.1 + (ctake1 c.b (b.drop (ctake1 c.a b).2.1)).2.1))
    rw [List.length_drop] at h2 h3
    simp only; omega

theorem rclock_le {c : Clk} {b : Str} {s : Nat × Nat} (h : s.1 ≤ b.length) : (rclock c b s).2.1 ≤ b.length := by
  unfold rclock
  split
  · exact h
  · have := ctake_le c (b.drop s.1)
    rw [List.length_drop] at this
    simp only; omega

theorem rnum_bad {b : Str} {s : Nat × Nat} {most above : Nat} (h : s.2 ≠ 0) : rnum b s most above = (0, s.1, s.2) := by unfold rnum; rw [if_pos h]
theorem rnum_err {b : Str} {s : Nat × Nat} {most above : Nat} (h : s.2 = 0) (he : (vtake (b.drop s.1)).2.2 ≠ 0) : rnum b s most above = ((vtake (b.drop s.1)).1, s.1 + (vtake (b.drop s.1)).2.1, (vtake (b.drop s.1)).2.2) := by
  unfold rnum; rw [if_neg (by simp [h])]; simp [he]
theorem rnum_above {b : Str} {s : Nat × Nat} {most above : Nat} (h : s.2 = 0) (he : (vtake (b.drop s.1)).2.2 = 0) (hm : most < (vtake (b.drop s.1)).1) : rnum b s most above = ((vtake (b.drop s.1)).1, s.1 + (vtake (b.drop s.1)).2.1, above) := by
  unfold rnum; rw [if_neg (by simp [h])]; simp [he, hm]
theorem rnum_good {b : Str} {s : Nat × Nat} {most above : Nat} (h : s.2 = 0) (he : (vtake (b.drop s.1)).2.2 = 0) (hm : ¬ most < (vtake (b.drop s.1)).1) : rnum b s most above = ((vtake (b.drop s.1)).1, s.1 + (vtake (b.drop s.1)).2.1, 0) := by
  unfold rnum; rw [if_neg (by simp [h])]; simp [he, hm]

theorem wone_rwrite (D : Dic) (b : Str) (u : Nat) : wone D b u = if (rwrite b D u).2.2.2 ≠ 0 then .error (rwrite b D u).2.2.2 else .ok ((rwrite b D u).1, (rwrite b D u).2.2.1, (rwrite b D u).2.1) := by
  rcases hx : dtake D (b.drop u) with ⟨k, sz, e0, D'⟩
  by_cases h1 : e0 = 0
  · subst h1
    rcases hv : vtake (b.drop (u + sz)) with ⟨n, s2, e2⟩
    by_cases h2 : e2 = 0
    · subst h2
      by_cases h3 : 257 < n
      · have e : rnum b (u + sz, 0) 257 4 = (n, u + sz + s2, 4) := by simp [rnum, hv, h3]
        simp [wone, rwrite, hx, hv, e, h3]
      · have e : rnum b (u + sz, 0) 257 4 = (n, u + sz + s2, 0) := by simp [rnum, hv, h3]
        by_cases h4 : n = 0
        · simp [wone, rwrite, hx, hv, e, h4]
        · by_cases h5 : b.length - (u + sz + s2) < n - 1
          · simp [wone, rwrite, rtext, hx, hv, e, h3, h4, h5]
          · simp [wone, rwrite, rtext, hx, hv, e, h3, h4, h5]
    · have e : rnum b (u + sz, 0) 257 4 = (n, u + sz + s2, e2) := by simp [rnum, hv, h2]
      simp [wone, rwrite, hx, hv, e, h2]
  · have e : rnum b (u + sz, e0) 257 4 = (0, u + sz, e0) := by simp [rnum, h1]
    simp [wone, rwrite, hx, e, h1]

theorem wloop_err {b : Str} : ∀ (n : Nat) {D : Dic} {u e : Nat} {acc : List Wr}, e ≠ 0 → wloop b n D u e acc = (acc, D, u, e)
  | 0, _, _, _, _, _ => rfl
  | n + 1, _, _, _, _, h => by simp [wloop, h]

theorem wloop_len (b : Str) : ∀ (n : Nat) (D : Dic) (u e : Nat) (acc : List Wr), (wloop b n D u e acc).1.length ≤ acc.length + n
  | 0, D, u, e, acc => by simp [wloop]
  | n + 1, D, u, e, acc => by
    simp only [wloop]
    split
    · simp
    · have := wloop_len b n (rwrite b D u).2.1 (rwrite b D u).2.2.1 (rwrite b D u).2.2.2 (acc ++ [(rwrite b D u).1])
      simp at this ⊢; omega

theorem wloop_wtake (b : Str) : ∀ (n : Nat) (D : Dic) (u : Nat) (acc : List Wr), match wtake b n D u with
    | .ok (ws, a, D') => wloop b n D u 0 acc = (acc ++ ws, D', a, 0)
    | .error e => (wloop b n D u 0 acc).2.2.2 = e ∧ e ≠ 0
  | 0, D, u, acc => by simp [wtake, wloop]
  | n + 1, D, u, acc => by
    simp only [wtake, wone_rwrite, wloop, if_neg (show ¬ (0 ≠ 0) by decide)]
    generalize rwrite b D u = x
    obtain ⟨w, D1, u1, e1⟩ := x
    by_cases h : e1 = 0
    · subst h
      simp only [if_neg (show ¬ (0 ≠ 0) by decide)]
      have ih := wloop_wtake b n D1 u1 (acc ++ [w])
      split at ih
      · rename_i ws a D' hw
        rw [hw]
        simp only
        rw [ih]; simp
      · rename_i e hw
        rw [hw]; exact ih
    · simp only [if_pos h, ne_eq]
      rw [wloop_err n h]
      exact ⟨rfl, h⟩

theorem rnum_ok {b : Str} {s : Nat × Nat} {most above : Nat} (ha : above ≠ 0) (h : (rnum b s most above).2.2 = 0) : s.2 = 0 ∧ (vtake (b.drop s.1)).2.2 = 0 ∧ (vtake (b.drop s.1)).1 ≤ most := by
  unfold rnum at h
  split at h
  · rename_i c; exact absurd h c
  · rename_i c
    simp only at h
    split at h
    · exact absurd h ha
    · rename_i d
      exact ⟨Decidable.of_not_not c, h, by omega⟩

/-- All parts, one behind the other. -/
theorem ttake_parts (S : Cod) (b : Str) : let x := rnum b (0, 0) 4611686018427387903 1
    let y := rnum b x.2 4611686018427387903 1
    let z := rclock S.c b y.2
    let m := rnum b z.2 16 4
    let w := wloop b m.1 S.d m.2.1 m.2.2 []
    (w.2.2.2 ≠ 0 → ttake S b = .error w.2.2.2) ∧ (w.2.2.2 = 0 → m.2.2 = 0 ∧ x.1 ≤ 4611686018427387903 ∧ y.1 ≤ 4611686018427387903 ∧ m.1 ≤ 16 ∧
      ttake S b = if tcheck ⟨x.1, y.1, z.1, w.1⟩ ≠ 0 then .error (tcheck ⟨x.1, y.1, z.1, w.1⟩) else .ok (⟨x.1, y.1, z.1, w.1⟩, w.2.2.1, ⟨w.2.1, z.1⟩)) := by
  intro x y z m w
  -- once something is wrong it stays so
  have badm : z.2.2 ≠ 0 → w.2.2.2 = z.2.2 := fun h => by
    have hm : m = (0, z.2.1, z.2.2) := rnum_bad h
    show (wloop b m.1 S.d m.2.1 m.2.2 []).2.2.2 = _
    rw [hm]; rfl
  have bady : y.2.2 ≠ 0 → w.2.2.2 = y.2.2 := fun h => by
    have hz : z = (Clk.zero, y.2.1, y.2.2) := by show rclock S.c b y.2 = _; unfold rclock; rw [if_pos h]
    have e : z.2.2 = y.2.2 := by rw [hz]
    rw [badm (by rw [e]; exact h), e]
  have badx : x.2.2 ≠ 0 → w.2.2.2 = x.2.2 := fun h => by
    have hy : y = (0, x.2.1, x.2.2) := rnum_bad h
    have e : y.2.2 = x.2.2 := by rw [hy]
    rw [bady (by rw [e]; exact h), e]
  have err : ∀ e : Nat, e ≠ 0 → w.2.2.2 = e → ttake S b = .error e → (w.2.2.2 ≠ 0 → ttake S b = .error w.2.2.2) ∧ (w.2.2.2 = 0 → m.2.2 = 0 ∧ x.1 ≤ 4611686018427387903 ∧ y.1 ≤ 4611686018427387903 ∧ m.1 ≤ 16 ∧
      ttake S b = if tcheck ⟨x.1, y.1, z.1, w.1⟩ ≠ 0 then .error (tcheck ⟨x.1, y.1, z.1, w.1⟩) else .ok (⟨x.1, y.1, z.1, w.1⟩, w.2.2.1, ⟨w.2.1, z.1⟩)) :=
    fun e h1 h2 h3 => ⟨fun _ => by rw [h2]; exact h3, fun h => absurd (h2.symm.trans h) h1⟩
  by_cases e1 : (vtake b).2.2 ≠ 0
  · have hx : x = ((vtake b).1, 0 + (vtake b).2.1, (vtake b).2.2) := rnum_err (b := b) (s := (0, 0)) rfl e1
    refine err (vtake b).2.2 e1 ?_ ?_
    · rw [badx (by rw [hx]; exact e1), hx]
    · unfold ttake; simp [e1]
  have e1 := Decidable.of_not_not e1
  by_cases e2 : 4611686018427387903 < (vtake b).1
  · have hx : x = ((vtake b).1, 0 + (vtake b).2.1, 1) := rnum_above (b := b) (s := (0, 0)) rfl e1 e2
    refine err 1 (by decide) ?_ ?_
    · rw [badx (by rw [hx]; exact Nat.one_ne_zero), hx]
    · unfold ttake; simp [e1, e2]
  have hx : x = ((vtake b).1, (vtake b).2.1, 0) := by rw [show x = rnum b (0, 0) 4611686018427387903 1 from rfl, rnum_good (b := b) (s := (0, 0)) rfl e1 e2]; simp
  have hx2 : x.2 = ((vtake b).2.1, 0) := by rw [hx]
  generalize hv2 : vtake (b.drop (vtake b).2.1) = v2 at *
  by_cases e3 : v2.2.2 ≠ 0
  · have hy : y = (v2.1, (vtake b).2.1 + v2.2.1, v2.2.2) := by show rnum b x.2 _ _ = _; rw [hx2, rnum_err rfl (by simp only [hv2]; exact e3)]; simp only [hv2]
    refine err v2.2.2 e3 ?_ ?_
    · rw [bady (by rw [hy]; exact e3), hy]
    · unfold ttake; simp [e1, e2, hv2, e3]
  have e3 := Decidable.of_not_not e3
  by_cases e4 : 4611686018427387903 < v2.1
  · have hy : y = (v2.1, (vtake b).2.1 + v2.2.1, 1) := by show rnum b x.2 _ _ = _; rw [hx2, rnum_above rfl (by simp only [hv2]; exact e3) (by simp only [hv2]; exact e4)]; simp only [hv2]
    refine err 1 (by decide) ?_ ?_
    · rw [bady (by rw [hy]; exact Nat.one_ne_zero), hy]
    · unfold ttake; simp [e1, e2, hv2, e3, e4]
  have hy : y = (v2.1, (vtake b).2.1 + v2.2.1, 0) := by show rnum b x.2 _ _ = _; rw [hx2, rnum_good rfl (by simp only [hv2]; exact e3) (by simp only [hv2]; exact e4)]; simp only [hv2]
  have hz : z = ((ctake S.c (b.drop ((vtake b).2.1 + v2.2.1))).1, (vtake b).2.1 + v2.2.1 + (ctake S.c (b.drop ((vtake b).2.1 + v2.2.1))).2.1, (ctake S.c (b.drop ((vtake b).2.1 + v2.2.1))).2.2) := by
    show rclock S.c b y.2 = _; rw [hy]; simp [rclock]
  generalize hc : ctake S.c (b.drop ((vtake b).2.1 + v2.2.1)) = c at *
  by_cases e5 : c.2.2 ≠ 0
  · refine err c.2.2 e5 ?_ ?_
    · rw [badm (by rw [hz]; exact e5), hz]
    · unfold ttake; simp [e1, e2, hv2, e3, e4, hc, e5]
  have e5 := Decidable.of_not_not e5
  have hz2 : z.2 = ((vtake b).2.1 + v2.2.1 + c.2.1, 0) := by rw [hz, e5]
  generalize hv3 : vtake (b.drop ((vtake b).2.1 + v2.2.1 + c.2.1)) = v3 at *
  by_cases e6 : v3.2.2 ≠ 0
  · have hm : m = (v3.1, (vtake b).2.1 + v2.2.1 + c.2.1 + v3.2.1, v3.2.2) := by show rnum b z.2 _ _ = _; rw [hz2, rnum_err rfl (by simp only [hv3]; exact e6)]; simp only [hv3]
    refine err v3.2.2 e6 ?_ ?_
    · show (wloop b m.1 S.d m.2.1 m.2.2 []).2.2.2 = _
      rw [hm, wloop_err _ e6]
    · unfold ttake; simp [e1, e2, hv2, e3, e4, hc, e5, hv3, e6]
  have e6 := Decidable.of_not_not e6
  by_cases e7 : 16 < v3.1
  · have hm : m = (v3.1, (vtake b).2.1 + v2.2.1 + c.2.1 + v3.2.1, 4) := by show rnum b z.2 _ _ = _; rw [hz2, rnum_above rfl (by simp only [hv3]; exact e6) (by simp only [hv3]; exact e7)]; simp only [hv3]
    refine err 4 (by decide) ?_ ?_
    · show (wloop b m.1 S.d m.2.1 m.2.2 []).2.2.2 = _
      rw [hm, wloop_err _ (show (4 : Nat) ≠ 0 by decide)]
    · unfold ttake; simp [e1, e2, hv2, e3, e4, hc, e5, hv3, e6, e7]
  have hm : m = (v3.1, (vtake b).2.1 + v2.2.1 + c.2.1 + v3.2.1, 0) := by show rnum b z.2 _ _ = _; rw [hz2, rnum_good rfl (by simp only [hv3]; exact e6) (by simp only [hv3]; exact e7)]; simp only [hv3]
  have hw : w = wloop b v3.1 S.d ((vtake b).2.1 + v2.2.1 + c.2.1 + v3.2.1) 0 [] := by show wloop b m.1 S.d m.2.1 m.2.2 [] = _; rw [hm]
  have key := wloop_wtake b v3.1 S.d ((vtake b).2.1 + v2.2.1 + c.2.1 + v3.2.1) []
  rw [← hw] at key
  split at key
  · rename_i ws a D' hk
    rw [List.nil_append] at key
    refine ⟨fun h => absurd (by rw [key]) h, fun _ => ⟨by rw [hm], by rw [hx]; simp only; omega, by rw [hy]; simp only; omega, by rw [hm]; simp only; omega, ?_⟩⟩
    rw [hx, hy, hz, key]
    unfold ttake
    simp [e1, e2, hv2, e3, e4, hc, e5, hv3, e6, e7, hk]
  · rename_i e hk
    refine err e key.2 key.1 ?_
    unfold ttake
    simp [e1, e2, hv2, e3, e4, hc, e5, hv3, e6, e7, hk]
end Go.Pk

/- When keys came, in plain Lean. -/
namespace Go.Pk
open Go.Lib

/-- When the key at place i came. -/
def Dic.came (d : Dic) (i : Nat) : Nat := d.now - (d.now - 1 - i) % 8
def Dic.when (d : Dic) : List Nat := (List.range d.keys.length).map d.came

theorem Dic.when_length (d : Dic) : d.when.length = d.keys.length := by simp [Dic.when]
theorem Dic.when_get (d : Dic) {i : Nat} (h : i < d.keys.length) : d.when[i]? = some (d.came i) := by simp [Dic.when, h]

theorem Dic.when_push {d : Dic} (hd : d.ok) (h : d.keys.length < 8) (k : Str) : (d.comes k).when = d.when ++ [d.now + 1] := by
  have hn : d.keys.length = d.now := by have := hd.1; omega
  unfold Dic.comes
  rw [if_pos h]
  unfold Dic.when
  simp only [List.length_append, List.length_cons, List.length_nil, Nat.zero_add, List.range_succ, List.map_append, List.map_cons, List.map_nil]
  congr 1
  · refine List.map_congr_left fun i hi => ?_
    simp only [List.mem_range] at hi
    simp only [Dic.came]; omega
  · simp only [Dic.came, hn]; simp

theorem Dic.came_first {d : Dic} (h : 8 ≤ d.now) {i : Nat} (hi : i < 8) (hne : i ≠ d.now % 8) : d.came (d.now % 8) < d.came i := by
  simp only [Dic.came]; omega

theorem Dic.when_set {d : Dic} (hd : d.ok) (h : ¬ d.keys.length < 8) (k : Str) : (d.comes k).when = d.when.set (d.now % 8) (d.now + 1) := by
  have hn : d.keys.length = 8 ∧ 8 ≤ d.now := by have := hd.1; omega
  unfold Dic.comes
  rw [if_neg h]
  refine List.ext_getElem? fun i => ?_
  by_cases hi : i < 8
  · rw [Dic.when_get _ (by simp; omega)]
    by_cases e : i = d.now % 8
    · subst e
      rw [List.getElem?_set_self (by rw [Dic.when_length]; omega)]
      simp only [Dic.came]; congr 1; omega
    · rw [List.getElem?_set_ne (Ne.symm e), Dic.when_get _ (by omega)]
      simp only [Dic.came]; congr 1; omega
  · rw [List.getElem?_eq_none (by rw [Dic.when_length]; simp; omega), List.getElem?_eq_none (by rw [List.length_set, Dic.when_length]; omega)]

theorem dput_now (D : Dic) (k : Str) : (dput D k).2.2.now ≤ D.now + 1 := by
  unfold dput
  split
  · simp
  · split
    · simp
    · rw [show (uvarint 0 ++ (uvarint k.length ++ k), 0, D.comes k).2.2 = D.comes k from rfl, Dic.comes_now]; omega

theorem dput_ok {D : Dic} (h : D.ok) (k : Str) : (dput D k).2.2.ok := by
  unfold dput
  split
  · exact h
  · split
    · exact h
    · rename_i e; exact Dic.comes_ok h e

theorem wput_now : ∀ (ws : List Wr) (D : Dic), (wput D ws).2.now ≤ D.now + ws.length
  | [], D => by simp [wput]
  | w :: r, D => by
    have h1 := dput_now D w.key
    have h2 := wput_now r (dput D w.key).2.2
    simp only [wput, List.length_cons]; omega

theorem dtake_now (D : Dic) (b : Str) : (dtake D b).2.2.2.now ≤ D.now + 1 := by
  unfold dtake
  repeat' split
  all_goals (try dsimp only)
  all_goals (repeat' split)
  all_goals (try simp)
  all_goals (try rw [Dic.comes_now])
  all_goals (try omega)

theorem dtake_ok {D : Dic} (h : D.ok) (b : Str) : (dtake D b).2.2.2.ok := by
  unfold dtake
  repeat' split
  all_goals (try dsimp only)
  all_goals (repeat' split)
  all_goals (try exact h)
  rename_i e
  refine Dic.comes_ok h ?_
  simpa using e

theorem ctake_ok {p : Clk} {b : Str} (h : (ctake p b).2.2 = 0) : (ctake p b).1.ok = true := by
  have one : ∀ n b, (ctake1 n b).2.2 = 0 → nok (ctake1 n b).1 = true := by
    intro n b h
    unfold ctake1 at h ⊢
    split
    · rename_i c
      rw [if_pos c] at h; exact absurd h c
    · rename_i c
      rw [if_neg c] at h
      split
      · rename_i d
        rw [if_pos d] at h; cases h
      · rename_i d
        simp only [nok_iff, top] at d ⊢
        omega
  unfold ctake at h ⊢
  split
  · rename_i c
    rw [if_pos c] at h; cases h
  rename_i c
  rw [if_neg c] at h
  dsimp only at h ⊢
  split
  · rename_i d
    rw [if_pos d] at h; exact absurd h d
  rename_i d1
  rw [if_neg d1] at h
  split
  · rename_i d
    rw [if_pos d] at h; exact absurd h d
  rename_i d2
  rw [if_neg d2] at h
  split
  · rename_i d
    rw [if_pos d] at h; exact absurd h d
  rename_i d3
  simp only [Clk.ok, one _ _ (Decidable.of_not_not d1), one _ _ (Decidable.of_not_not d2), one _ _ (Decidable.of_not_not d3), Bool.and_self]

end Go.Pk

/- What is told is read; what is read was told: keys, clocks. -/
namespace Go.Pk
open Go.Lib

theorem drop_app {a b : Str} : (a ++ b).drop a.length = b := List.drop_left

theorem dtake_dput {D : Dic} (hD : D.ok) {k : Str} (hk : k.length ≤ 64) (r : Str) : dtake D ((dput D k).1 ++ r) = (k, (dput D k).1.length, 0, (dput D k).2.2) := by
  unfold dput
  rw [if_neg (by omega)]
  cases e : D.at k with
  | some i =>
    have hi := Dic.at_some e
    obtain ⟨h1, h2⟩ := List.getElem?_eq_some_iff.1 hi
    have h8 : D.keys.length ≤ 8 := by have := hD.1; omega
    simp only
    unfold dtake
    rw [vtake_uvarint (by omega)]
    simp only [ne_eq, not_true, if_false]
    rw [if_neg (by omega), if_pos (by omega)]
    simp only [Nat.add_sub_cancel, List.getD_eq_getElem?_getD, hi]
    rfl
  | none =>
    simp only
    unfold dtake
    rw [List.append_assoc, vtake_uvarint (by decide)]
    simp only [ne_eq, not_true, if_false]
    rw [if_neg (by omega), if_neg (by omega), drop_app]
    rw [List.append_assoc, vtake_uvarint (by omega)]
    simp only [not_true, if_false]
    rw [if_neg (by omega), if_neg (by simp; omega)]
    have e2 : ((uvarint 0 ++ (uvarint k.length ++ (k ++ r))).take ((uvarint 0).length + (uvarint k.length).length + k.length)).drop ((uvarint 0).length + (uvarint k.length).length) = k := by
      rw [List.drop_take, ← List.append_assoc, ← List.length_append, drop_app]
      rw [show (uvarint 0 ++ uvarint k.length).length + k.length - (uvarint 0 ++ uvarint k.length).length = k.length by omega, List.take_left]
    rw [e2, e]
    simp [Nat.add_assoc]

theorem take_of_eq {b x r : Str} (h : b = x ++ r) : b.take x.length = x := by rw [h, List.take_left]

theorem dtake_inv {D : Dic} (hD : D.ok) {b : Str} {k : Str} {n : Nat} {D' : Dic} (h : dtake D b = (k, n, 0, D')) (hk : k.length ≤ 64) : n ≤ b.length ∧ dput D k = (b.take n, 0, D') := by
  have hn : n ≤ b.length := by have := dtake_le D b; rw [h] at this; exact this
  refine ⟨hn, ?_⟩
  unfold dput
  rw [if_neg (by omega)]
  unfold dtake at h
  split at h
  · rename_i c; simp only [Prod.mk.injEq] at h; exact absurd h.2.2.1 c
  rename_i c0
  obtain ⟨v1, v2, r, v3⟩ := vtake_inv (b := b) (n := (vtake b).1) (s := (vtake b).2.1) (by rw [← Decidable.of_not_not c0])
  split at h
  · simp at h
  rename_i c1
  split at h
  · rename_i c2
    simp only [Prod.mk.injEq] at h
    obtain ⟨h1, rfl, -, rfl⟩ := h
    have hlt : (vtake b).1 - 1 < D.keys.length := by omega
    have hk2 : D.keys[(vtake b).1 - 1]? = some k := by
      rw [List.getD_eq_getElem?_getD, List.getElem?_eq_getElem hlt] at h1
      rw [List.getElem?_eq_getElem hlt]; exact congrArg some h1
    rw [Dic.at_of hD hk2]
    simp only
    rw [show (vtake b).1 - 1 + 1 = (vtake b).1 by omega, v2, take_of_eq v3]
  · rename_i c2
    have e0 : (vtake b).1 = 0 := by omega
    rw [e0] at v2 v3
    dsimp only at h
    split at h
    · rename_i c; simp only [Prod.mk.injEq] at h; exact absurd h.2.2.1 c
    rename_i c3
    split at h
    · simp at h
    rename_i c4
    split at h
    · simp at h
    rename_i c5
    split at h
    · simp at h
    rename_i c6
    simp only [Prod.mk.injEq] at h
    obtain ⟨h1, h2, -, rfl⟩ := h
    rw [h1] at c6
    have hat : D.at k = none := by simpa using c6
    rw [hat]
    simp only
    rw [h1]
    obtain ⟨w1, w2, r2, w3⟩ := vtake_inv (b := b.drop (vtake b).2.1) (n := (vtake (b.drop (vtake b).2.1)).1) (s := (vtake (b.drop (vtake b).2.1)).2.1) (by rw [← Decidable.of_not_not c3])
    generalize vtake (b.drop (vtake b).2.1) = y at *
    obtain ⟨m, s, e⟩ := y
    simp only at h2 h1 w1 w2 w3 c5
    have hle := (vtake_le b).1
    have hkl : k.length = m := by rw [← h1]; simp; omega
    have hb : b = uvarint 0 ++ (uvarint m ++ r2) := by
      have e1 : b.drop (vtake b).2.1 = r := by rw [v2]; conv => lhs; rw [v3]
                                               exact drop_app
      rw [e1] at w3
      conv => lhs; rw [v3, w3]
    have hl0 : (vtake b).2.1 = (uvarint 0).length := v2
    rw [hl0, w2] at h1 h2 c5
    refine Prod.ext ?_ rfl
    simp only
    have e3 : k = r2.take m := by
      rw [← h1, hb, List.drop_take, ← List.append_assoc, ← List.length_append, drop_app]
      congr 1; omega
    rw [← h2, hkl]
    conv => rhs; rw [hb]
    rw [← List.append_assoc, ← List.append_assoc, show (uvarint 0).length + (uvarint m).length + m = (uvarint 0 ++ uvarint m).length + m by simp, List.take_length_add_append, ← e3]

theorem ctake1_put {p n : Int} (hp : nok p = true) (hn : nok n = true) (r : Str) : ctake1 p (uvarint (zigzag (n - p)) ++ r) = (n, (uvarint (zigzag (n - p))).length, 0) := by
  have h1 := (nok_iff p).1 hp
  have h2 := (nok_iff n).1 hn
  unfold ctake1
  rw [vtake_uvarint (zigzag_lt (x := n - p) (by omega) (by omega))]
  simp only [ne_eq, not_true, if_false, zag_zigzag]
  rw [if_neg (by unfold top; omega)]
  rw [show p + (n - p) = n by omega]

theorem ctake_cput {p c : Clk} (hp : p.ok = true) (hc : c.ok = true) (r : Str) : ctake p (cput p c ++ r) = (c, (cput p c).length, 0) := by
  have hp' := hp
  simp only [Clk.ok, Bool.and_eq_true] at hp' hc
  obtain ⟨p1, p2, p3⟩ := hp'
  obtain ⟨c1, c2, c3⟩ := hc
  unfold ctake
  rw [if_neg (by rw [hp]; simp)]
  have e1 : cput p c ++ r = uvarint (zigzag (c.a - p.a)) ++ (uvarint (zigzag (c.b - p.b)) ++ (uvarint (zigzag (c.c - p.c)) ++ r)) := by simp [cput]
  rw [e1, ctake1_put p1 c1]
  simp only [ne_eq, not_true, if_false]
  rw [drop_app, ctake1_put p2 c2]
  simp only [not_true, if_false]
  rw [← List.append_assoc, ← List.length_append, drop_app, ctake1_put p3 c3]
  simp [cput, Nat.add_assoc]

theorem ctake1_inv {p : Int} {b : Str} (h : (ctake1 p b).2.2 = 0) : ∃ r, b = uvarint (zigzag ((ctake1 p b).1 - p)) ++ r ∧ (ctake1 p b).2.1 = (uvarint (zigzag ((ctake1 p b).1 - p))).length := by
  unfold ctake1 at h ⊢
  split
  · rename_i c; rw [if_pos c] at h; exact absurd h c
  rename_i c
  rw [if_neg c] at h
  split
  · rename_i d; rw [if_pos d] at h; cases h
  simp only
  obtain ⟨v1, v2, r, v3⟩ := vtake_inv (b := b) (n := (vtake b).1) (s := (vtake b).2.1) (by rw [← Decidable.of_not_not c])
  rw [show p + zag (vtake b).1 - p = zag (vtake b).1 by omega, zigzag_zag]
  exact ⟨r, v3, v2⟩

theorem ctake_inv {p c : Clk} {b : Str} {n : Nat} (h : ctake p b = (c, n, 0)) : n ≤ b.length ∧ b.take n = cput p c := by
  have hn : n ≤ b.length := by have := ctake_le p b; rw [h] at this; exact this
  refine ⟨hn, ?_⟩
  unfold ctake at h
  split at h
  · simp at h
  dsimp only at h
  split at h
  · rename_i d; simp only [Prod.mk.injEq] at h; exact absurd h.2.2 d
  rename_i d1
  split at h
  · rename_i d; simp only [Prod.mk.injEq] at h; exact absurd h.2.2 d
  rename_i d2
  split at h
  · rename_i d; simp only [Prod.mk.injEq] at h; exact absurd h.2.2 d
  rename_i d3
  simp only [Prod.mk.injEq] at h
  obtain ⟨rfl, rfl, -⟩ := h
  obtain ⟨r1, a1, a2⟩ := ctake1_inv (Decidable.of_not_not d1)
  obtain ⟨r2, a3, a4⟩ := ctake1_inv (Decidable.of_not_not d2)
  obtain ⟨r3, a5, a6⟩ := ctake1_inv (Decidable.of_not_not d3)
  generalize ctake1 p.a b = x at *
  generalize ctake1 p.b (b.drop x.2.1) = y at *
  generalize ctake1 p.c (b.drop (x.2.1 + y.2.1)) = z at *
  have h1 : b.drop x.2.1 = r1 := by rw [a2]; conv => lhs; rw [a1]
                                    exact drop_app
  rw [h1] at a3
  have hb2 : b = uvarint (zigzag (x.1 - p.a)) ++ uvarint (zigzag (y.1 - p.b)) ++ r2 := by rw [List.append_assoc, ← a3]; exact a1
  have h2 : b.drop (x.2.1 + y.2.1) = r2 := by
    rw [a2, a4, ← List.length_append]; conv => lhs; rw [hb2]
    exact drop_app
  rw [h2] at a5
  have hb3 : b = uvarint (zigzag (x.1 - p.a)) ++ uvarint (zigzag (y.1 - p.b)) ++ uvarint (zigzag (z.1 - p.c)) ++ r3 := by rw [List.append_assoc, ← a5]; exact hb2
  rw [a2, a4, a6, ← List.length_append, ← List.length_append, take_of_eq hb3]
  simp [cput]
end Go.Pk

/- What is told is read; what is read was told: transactions. -/
namespace Go.Pk
open Go.Lib
set_option linter.unusedVariables false

theorem drop_split {b x r : Str} {a : Nat} (h : b.drop a = x ++ r) : r = b.drop (a + x.length) := by
  rw [← List.drop_drop, h, drop_app]

theorem drop_take_split (b : Str) (a n : Nat) : b.drop a = (b.drop a).take n ++ b.drop (a + n) := by
  rw [← List.drop_drop, List.take_append_drop]

theorem wone_put {D : Dic} (hD : D.ok) {w : Wr} (hk : w.key.length ≤ 64) (hv : w.value.length ≤ 256) (hg : w.gone = true → w.value = []) {b r : Str} {a : Nat} (ha : a ≤ b.length)
    (h : b.drop a = (dput D w.key).1 ++ (vput w ++ r)) : wone D b a = .ok (w, a + (dput D w.key).1.length + (vput w).length, (dput D w.key).2.2) := by
  obtain ⟨key, value, gone⟩ := w
  simp only at hk hv hg h ⊢
  have h1 := drop_split h
  unfold wone
  rw [h, dtake_dput hD hk]
  simp only [ne_eq, not_true, if_false]
  generalize (dput D key).1 = x at *
  generalize (dput D key).2.2 = D2 at *
  rw [← h1]
  cases gone with
  | true =>
    have := hg rfl
    subst this
    have e : vput ⟨key, [], true⟩ = uvarint 0 := by rw [uvarint_small (by decide)]; rfl
    rw [e, vtake_uvarint (by decide)]
    simp
  | false =>
    have e : vput ⟨key, value, false⟩ = uvarint (value.length + 1) ++ value := rfl
    have h2 := h1
    rw [e, List.append_assoc] at h2 ⊢
    rw [vtake_uvarint (by omega)]
    simp only [not_true, if_false]
    have h3 := drop_split h2.symm
    have hl : (b.drop (a + x.length + (uvarint (value.length + 1)).length)).length = value.length + r.length := by rw [← h3]; simp
    rw [List.length_drop] at hl
    have hla : a + x.length + (uvarint (value.length + 1)).length ≤ b.length := by
      have := congrArg List.length h2
      rw [List.length_drop] at this
      simp only [List.length_append] at this
      have := congrArg List.length h
      rw [List.length_drop] at this
      simp only [List.length_append] at this
      omega
    rw [if_neg (by omega), if_neg (by omega), if_neg (by omega)]
    have e2 : (b.take (a + x.length + (uvarint (value.length + 1)).length + value.length)).drop (a + x.length + (uvarint (value.length + 1)).length) = value := by
      rw [List.drop_take, ← h3, show a + x.length + (uvarint (value.length + 1)).length + value.length - (a + x.length + (uvarint (value.length + 1)).length) = value.length by omega, List.take_left]
    simp only [Nat.add_sub_cancel, e2, List.length_append]
    simp [Nat.add_assoc]

theorem wtake_put : ∀ (ws : List Wr) {D : Dic} (hD : D.ok) (hw : ∀ w ∈ ws, (w.key.length ≤ 64 ∧ w.value.length ≤ 256) ∧ (w.gone = true → w.value = [])) {b r : Str} {a : Nat} (ha : a ≤ b.length)
    (h : b.drop a = (wput D ws).1 ++ r), wtake b ws.length D a = .ok (ws, a + (wput D ws).1.length, (wput D ws).2)
  | [], D, hD, hw, b, r, a, ha, h => by simp [wtake, wput]
  | w :: ws, D, hD, hw, b, r, a, ha, h => by
    simp only [wput] at h
    obtain ⟨⟨k1, k2⟩, k3⟩ := hw w (by simp)
    rw [List.append_assoc, List.append_assoc] at h
    have h1 := drop_split (x := (dput D w.key).1 ++ vput w) (r := (wput (dput D w.key).2.2 ws).1 ++ r) (a := a) (by rw [h, List.append_assoc])
    rw [List.length_append, ← Nat.add_assoc] at h1
    have hl : a + (dput D w.key).1.length + (vput w).length ≤ b.length := by
      have := congrArg List.length h
      rw [List.length_drop] at this
      simp only [List.length_append] at this
      omega
    have ih := wtake_put ws (dput_ok hD w.key) (fun x hx => hw x (by simp [hx])) hl h1.symm
    simp only [List.length_cons, wtake, wone_put hD k1 k2 k3 ha h, ih, wput]
    simp [Nat.add_assoc]

theorem wone_inv {D : Dic} (hD : D.ok) {b : Str} {a : Nat} {w : Wr} {a' : Nat} {D' : Dic} (ha : a ≤ b.length) (h : wone D b a = .ok (w, a', D')) (hk : w.key.length ≤ 64) :
    b.drop a = (dput D w.key).1 ++ (vput w ++ b.drop a') ∧ a' = a + (dput D w.key).1.length + (vput w).length ∧ a' ≤ b.length ∧ D' = (dput D w.key).2.2 := by
  unfold wone at h
  rcases hx : dtake D (b.drop a) with ⟨k, n, f, D1⟩
  rw [hx] at h
  simp only at h
  split at h
  · cases h
  rename_i hf
  have hf := Decidable.of_not_not hf
  subst hf
  obtain ⟨v1, v2⟩ : (vtake (b.drop (a + n))).2.1 ≤ (b.drop (a + n)).length ∧ (vtake (b.drop (a + n))).1 < 2 ^ 64 := ⟨(vtake_le _).1, (vtake_le _).2.2.1⟩
  split at h
  · cases h
  rename_i hy
  have hy := Decidable.of_not_not hy
  obtain ⟨y1, y2, r, y3⟩ := vtake_inv (b := b.drop (a + n)) (n := (vtake (b.drop (a + n))).1) (s := (vtake (b.drop (a + n))).2.1) (by rw [← hy])
  generalize vtake (b.drop (a + n)) = y at *
  obtain ⟨m, s, e⟩ := y
  simp only at h hy y1 y2 y3 v1
  have y4 := drop_split y3
  split at h
  · cases h
  split at h
  · rename_i h0
    simp only [Except.ok.injEq, Prod.mk.injEq] at h
    obtain ⟨rfl, rfl, rfl⟩ := h
    simp only at hk
    obtain ⟨d1, d2⟩ := dtake_inv hD hx hk
    rw [List.length_drop] at d1 v1
    have el : (List.take n (b.drop a)).length = n := by simp; omega
    simp only [d2]
    rw [el]
    have ev : vput ⟨k, [], true⟩ = uvarint 0 := by rw [uvarint_small (by decide)]; rfl
    rw [ev]
    subst h0
    refine ⟨?_, by rw [y2], by omega, trivial⟩
    rw [y2, ← y4, ← y3]; exact drop_take_split b a n
  · rename_i h0
    split at h
    · cases h
    rename_i h5
    simp only [Except.ok.injEq, Prod.mk.injEq] at h
    obtain ⟨rfl, rfl, rfl⟩ := h
    simp only at hk
    obtain ⟨d1, d2⟩ := dtake_inv hD hx hk
    rw [List.length_drop] at d1 v1
    have el : (List.take n (b.drop a)).length = n := by simp; omega
    simp only [d2]
    rw [el]
    have hlv : ((b.take (a + n + s + (m - 1))).drop (a + n + s)).length = m - 1 := by simp; omega
    have ev : ∀ v : Str, vput ⟨k, v, false⟩ = uvarint (v.length + 1) ++ v := fun v => rfl
    rw [ev, hlv, show m - 1 + 1 = m by omega]
    refine ⟨?_, by rw [List.length_append, hlv, y2]; omega, by omega, trivial⟩
    have e1 : (b.take (a + n + s + (m - 1))).drop (a + n + s) ++ b.drop (a + n + s + (m - 1)) = b.drop (a + n + s) := by
      rw [List.drop_take, show a + n + s + (m - 1) - (a + n + s) = m - 1 by omega]; exact (drop_take_split b (a + n + s) (m - 1)).symm
    rw [List.append_assoc, e1, y2, ← y4, ← y3]; exact drop_take_split b a n

theorem wtake_inv : ∀ (n : Nat) {D : Dic} (hD : D.ok) {b : Str} {a : Nat} {ws : List Wr} {a' : Nat} {D' : Dic} (ha : a ≤ b.length) (h : wtake b n D a = .ok (ws, a', D')) (hk : ∀ w ∈ ws, w.key.length ≤ 64),
    ws.length = n ∧ b.drop a = (wput D ws).1 ++ b.drop a' ∧ a' = a + (wput D ws).1.length ∧ a' ≤ b.length ∧ D' = (wput D ws).2
  | 0, D, hD, b, a, ws, a', D', ha, h, hk => by
    simp only [wtake, Except.ok.injEq, Prod.mk.injEq] at h
    obtain ⟨rfl, rfl, rfl⟩ := h
    simp [wput, ha]
  | n + 1, D, hD, b, a, ws, a', D', ha, h, hk => by
    simp only [wtake] at h
    split at h
    · cases h
    rename_i w a1 D1 h1
    split at h
    · cases h
    rename_i r a2 D2 h2
    simp only [Except.ok.injEq, Prod.mk.injEq] at h
    obtain ⟨rfl, rfl, rfl⟩ := h
    obtain ⟨k1, k2, k3, rfl⟩ := wone_inv hD ha h1 (hk w (by simp))
    obtain ⟨m1, m2, m3, m4, m5⟩ := wtake_inv n (dput_ok hD w.key) k3 h2 (fun x hx => hk x (by simp [hx]))
    refine ⟨by simp [m1], ?_, ?_, m4, by simp [wput, m5]⟩
    · simp only [wput, List.append_assoc]; rw [← m2]; exact k1
    · simp only [wput, List.length_append]; omega

/-- What one coder tells another one reads. -/
theorem ttake_tput {S : Cod} (hD : S.d.ok) (hc : S.c.ok = true) {t : Txn} (ht : tcheck t = 0) (hw : ∀ w ∈ t.writes, (w.key.length ≤ 64 ∧ w.value.length ≤ 256) ∧ (w.gone = true → w.value = []))
    (ho : 0 ≤ t.origin ∧ t.origin ≤ 2) (hs : 1 ≤ t.seq ∧ t.seq ≤ 4611686018427387903) (hk : t.deps.ok = true) (hl : t.writes.length ≤ 16) (rest : Str) :
    ttake S ((tput S t).1 ++ rest) = .ok (t, (tput S t).1.length, (tput S t).2) := by
  obtain ⟨o, s, k, ws⟩ := t
  simp only at hw ho hs hk hl
  obtain ⟨on, rfl⟩ := Int.eq_ofNat_of_zero_le ho.1
  obtain ⟨sn, rfl⟩ := Int.eq_ofNat_of_zero_le (show 0 ≤ s by omega)
  generalize hb : (tput S ⟨on, sn, k, ws⟩).1 ++ rest = b
  have h0 : b = uvarint on ++ (uvarint sn ++ (cput S.c k ++ (uvarint ws.length ++ ((wput S.d ws).1 ++ rest)))) := by rw [← hb]; simp [tput]
  have h1 : b.drop (uvarint on).length = uvarint sn ++ (cput S.c k ++ (uvarint ws.length ++ ((wput S.d ws).1 ++ rest))) := by rw [h0, drop_app]
  have h2 := drop_split h1
  have h3 := drop_split h2.symm
  have h4 := drop_split h3.symm
  unfold ttake
  have e0 : vtake b = (on, (uvarint on).length, 0) := by rw [h0]; exact vtake_uvarint (by omega) _
  rw [e0]
  simp only [ne_eq, not_true, if_false]
  rw [if_neg (by omega), h1, vtake_uvarint (by omega)]
  simp only [not_true, if_false]
  rw [if_neg (by omega), ← h2, ctake_cput hc hk]
  simp only [not_true, if_false]
  rw [← h3, vtake_uvarint (by omega)]
  simp only [not_true, if_false]
  rw [if_neg (by omega)]
  have hlen : (uvarint on).length + (uvarint sn).length + (cput S.c k).length + (uvarint ws.length).length ≤ b.length := by
    rw [h0]; simp only [List.length_append]; omega
  rw [wtake_put ws hD hw hlen h4.symm]
  simp only [ht, not_true, if_false]
  simp [tput, Nat.add_assoc]

/-- What is read was told. -/
theorem ttake_inv {S : Cod} (hD : S.d.ok) {b : Str} {t : Txn} {n : Nat} {S' : Cod} (h : ttake S b = .ok (t, n, S')) : tcheck t = 0 ∧ 1 ≤ n ∧ n ≤ b.length ∧ tput S t = (b.take n, S') := by
  unfold ttake at h
  dsimp only at h
  split at h
  · cases h
  rename_i e1
  split at h
  · cases h
  split at h
  · cases h
  rename_i e3
  split at h
  · cases h
  split at h
  · cases h
  rename_i e5
  split at h
  · cases h
  rename_i e6
  split at h
  · cases h
  split at h
  · cases h
  rename_i ws a4 D hw
  split at h
  · cases h
  rename_i hc
  have hc := Decidable.of_not_not hc
  simp only [Except.ok.injEq, Prod.mk.injEq] at h
  obtain ⟨rfl, rfl, rfl⟩ := h
  obtain ⟨a1, a2, r1, a3⟩ := vtake_inv (b := b) (n := (vtake b).1) (s := (vtake b).2.1) (by rw [← Decidable.of_not_not e1])
  obtain ⟨b1, b2, r2, b3⟩ := vtake_inv (b := b.drop (vtake b).2.1) (n := (vtake (b.drop (vtake b).2.1)).1) (s := (vtake (b.drop (vtake b).2.1)).2.1) (by rw [← Decidable.of_not_not e3])
  have la := (vtake_le b).1
  have lb := (vtake_le (b.drop (vtake b).2.1)).1
  generalize vtake (b.drop (vtake b).2.1) = y at *
  generalize vtake b = x at *
  obtain ⟨o, u, f1⟩ := x
  obtain ⟨q, s1, f2⟩ := y
  simp only at *
  have hz := ctake_inv (p := S.c) (c := (ctake S.c (b.drop (u + s1))).1) (b := b.drop (u + s1)) (n := (ctake S.c (b.drop (u + s1))).2.1) (by rw [← Decidable.of_not_not e5])
  generalize ctake S.c (b.drop (u + s1)) = z at *
  obtain ⟨k, s2, f3⟩ := z
  simp only at *
  obtain ⟨m1, m2, r4, m3⟩ := vtake_inv (b := b.drop (u + s1 + s2)) (n := (vtake (b.drop (u + s1 + s2))).1) (s := (vtake (b.drop (u + s1 + s2))).2.1) (by rw [← Decidable.of_not_not e6])
  have lm := (vtake_le (b.drop (u + s1 + s2))).1
  generalize vtake (b.drop (u + s1 + s2)) = m at *
  obtain ⟨m, s3, f4⟩ := m
  simp only at *
  rw [List.length_drop] at lb lm hz
  have hu : 1 ≤ u := by rw [a2]; exact uvarint_pos o
  have hkeys : ∀ w ∈ ws, w.key.length ≤ 64 := fun w hw => ((tcheck_ok hc).2.2.2.2.2.1 w hw).1
  obtain ⟨n1, n2, n3, n4, n5⟩ := wtake_inv m hD (by omega) hw hkeys
  refine ⟨hc, by omega, n4, ?_⟩
  have e1 := drop_split (a := 0) (x := uvarint o) (r := r1) (b := b) (by simpa using a3)
  rw [Nat.zero_add, ← a2] at e1
  have e2 := drop_split b3
  rw [← b2] at e2
  have e3 := drop_take_split b (u + s1) s2
  rw [hz.2] at e3
  have e4 := drop_split m3
  rw [← m2] at e4
  have hb : b = uvarint o ++ (uvarint q ++ (cput S.c k ++ (uvarint m ++ ((wput S.d ws).1 ++ b.drop a4)))) := by
    rw [← n2, ← e4, ← m3, ← e3, ← e2, ← b3, ← e1]; exact a3
  have hp : (tput S ⟨o, q, k, ws⟩).1 = uvarint o ++ (uvarint q ++ (cput S.c k ++ (uvarint m ++ (wput S.d ws).1))) := by simp [tput, n1]
  have hlen : (tput S ⟨o, q, k, ws⟩).1.length = a4 := by
    have hz2 := congrArg List.length hz.2
    rw [List.length_take, List.length_drop] at hz2
    rw [hp, n3, a2, b2, m2]
    simp only [List.length_append]
    omega
  have hb2 : b = (tput S ⟨o, q, k, ws⟩).1 ++ b.drop a4 := by rw [hp]; simpa using hb
  refine Prod.ext ?_ ?_
  · simp only
    rw [← hlen]; exact (take_of_eq hb2).symm
  · simp [tput, n5]

theorem wone_err {D : Dic} {b : Str} {a e : Nat} (h : wone D b a = .error e) : e ≠ 0 := by
  rw [wone_rwrite] at h
  split at h
  · rename_i c; cases h; exact c
  · cases h

theorem wtake_err {b : Str} : ∀ (n : Nat) {D : Dic} {a e : Nat}, wtake b n D a = .error e → e ≠ 0
  | 0, D, a, e, h => by simp [wtake] at h
  | n + 1, D, a, e, h => by
    simp only [wtake] at h
    split at h
    · rename_i h1; cases h; exact wone_err h1
    · split at h
      · rename_i h2; cases h; exact wtake_err n h2
      · cases h

theorem ttake_err {S : Cod} {b : Str} {e : Nat} (h : ttake S b = .error e) : e ≠ 0 := by
  unfold ttake at h
  dsimp only at h
  split at h
  · rename_i c; cases h; exact c
  split at h
  · cases h; decide
  split at h
  · rename_i c; cases h; exact c
  split at h
  · cases h; decide
  split at h
  · rename_i c; cases h; exact c
  split at h
  · rename_i c; cases h; exact c
  split at h
  · cases h; decide
  split at h
  · rename_i hw; cases h; exact wtake_err _ hw
  split at h
  · rename_i c; cases h; exact c
  · cases h

/-- A coder that may be. -/
def Cod.ok (S : Cod) : Prop := S.d.ok ∧ S.c.ok = true
theorem Cod.nil_ok : Cod.nil.ok := ⟨Dic.nil_ok, rfl⟩

theorem wput_ok : ∀ (ws : List Wr) {D : Dic}, D.ok → (wput D ws).2.ok
  | [], D, h => h
  | w :: r, D, h => wput_ok r (dput_ok h w.key)

theorem tput_ok {S : Cod} (h : S.ok) {t : Txn} (ht : tcheck t = 0) : (tput S t).2.ok := ⟨wput_ok _ h.1, (tcheck_ok ht).2.2.1⟩

theorem back {S : Cod} (h : S.ok) {t : Txn} (ht : tcheck t = 0) (rest : Str) : ttake S ((tput S t).1 ++ rest) = .ok (t, (tput S t).1.length, (tput S t).2) := by
  obtain ⟨t1, t2, t3, t4, t5, t6, t7⟩ := tcheck_ok ht
  exact ttake_tput h.1 h.2 ht (fun w hw => ⟨t6 w hw, t7 w hw⟩) t1 t2 t3 t5 rest

theorem ttake_ok {S : Cod} (h : S.ok) {b : Str} {t : Txn} {n : Nat} {S' : Cod} (e : ttake S b = .ok (t, n, S')) : S'.ok ∧ S'.d.now ≤ S.d.now + 16 := by
  obtain ⟨h1, h2, h3, h4⟩ := ttake_inv h.1 e
  have e2 : (tput S t).2 = S' := by rw [h4]
  have hn := wput_now t.writes S.d
  have := (tcheck_ok h1).2.2.2.2.1
  refine ⟨e2 ▸ tput_ok h h1, ?_⟩
  rw [← e2]
  simp only [tput]; omega

theorem tput_now {S : Cod} {t : Txn} (ht : tcheck t = 0) : (tput S t).2.d.now ≤ S.d.now + 16 := by
  have hn := wput_now t.writes S.d
  have := (tcheck_ok ht).2.2.2.2.1
  simp only [tput]; omega

end Go.Pk

/- The statements of layer 6, in plain Lean. -/
namespace Go.Pk
open Go.Lib
set_option linter.unusedVariables false

def Wr.wide (w : Wr) : Bool := decide (9000 < w.key.length) || decide (9000 < w.value.length)
def Txn.large (t : Txn) : Bool := decide (40 < t.writes.length) || t.writes.any Wr.wide

structure TAct where
  d : Int
  t : Txn
  b : Str

def TAct.large (a : TAct) : Bool := a.t.large || decide (9000 < a.b.length)
def alarge (l : List TAct) : Bool := decide (30 < l.length) || l.any TAct.large

def tputE (S : Cod) (t : Txn) : Str × Nat × Cod := if tcheck t = 0 then ((tput S t).1, 0, (tput S t).2) else ([], tcheck t, S)

theorem tputE_ok {S : Cod} (h : S.ok) (t : Txn) : (tputE S t).2.2.ok := by
  unfold tputE
  split
  · rename_i c; exact tput_ok h c
  · exact h

theorem tputE_now {S : Cod} (t : Txn) : (tputE S t).2.2.d.now ≤ S.d.now + 16 := by
  unfold tputE
  split
  · rename_i c; exact tput_now c
  · simp only; omega

theorem dput_len (D : Dic) (hD : D.keys.length ≤ 8) (k : Str) (hk : k.length ≤ 64) : (dput D k).1.length ≤ 84 := by
  unfold dput
  rw [if_neg (by omega)]
  cases e : D.at k with
  | some i =>
    have := uvarint_length64 (x := i + 1) (by have := (List.getElem?_eq_some_iff.1 (Dic.at_some e)).1; omega)
    simp only; omega
  | none =>
    have := uvarint_length64 (x := 0) (by decide)
    have := uvarint_length64 (x := k.length) (by omega)
    simp; omega

theorem cput_len {p c : Clk} (hp : p.ok = true) (hc : c.ok = true) : (cput p c).length ≤ 30 := by
  simp only [Clk.ok, Bool.and_eq_true, nok_iff] at hp hc
  have := uvarint_length64 (zigzag_lt (x := c.a - p.a) (by omega) (by omega))
  have := uvarint_length64 (zigzag_lt (x := c.b - p.b) (by omega) (by omega))
  have := uvarint_length64 (zigzag_lt (x := c.c - p.c) (by omega) (by omega))
  simp [cput]; omega

theorem wput_len : ∀ (ws : List Wr) {D : Dic} (hD : D.ok) (hw : ∀ w ∈ ws, w.key.length ≤ 64 ∧ w.value.length ≤ 256), (wput D ws).1.length ≤ 400 * ws.length
  | [], D, _, _ => by simp [wput]
  | w :: r, D, hD, hw => by
    obtain ⟨k1, k2⟩ := hw w (by simp)
    have h1 := dput_len D (by have := hD.1; omega) w.key k1
    have h2 := wput_len r (dput_ok hD w.key) (fun x hx => hw x (by simp [hx]))
    have h3 : (vput w).length ≤ 266 := by
      unfold vput
      split
      · simp
      · have := uvarint_length64 (x := w.value.length + 1) (by omega)
        simp; omega
    simp only [wput, List.length_append, List.length_cons]; omega

theorem tput_len {S : Cod} (h : S.ok) {t : Txn} (ht : tcheck t = 0) : (tput S t).1.length ≤ 7000 := by
  obtain ⟨t1, t2, t3, t4, t5, t6, t7⟩ := tcheck_ok ht
  have h1 := wput_len t.writes h.1 t6
  have h2 := cput_len h.2 t3
  have h3 := uvarint_length64 (x := t.origin.toNat) (by omega)
  have h4 := uvarint_length64 (x := t.seq.toNat) (by omega)
  have h5 := uvarint_length64 (x := t.writes.length) (by omega)
  simp only [tput, List.length_append]; omega

theorem tputE_len {S : Cod} (h : S.ok) (t : Txn) : (tputE S t).1.length ≤ 7000 := by
  unfold tputE
  split
  · rename_i c; exact tput_len h c
  · simp

/-- What is read, or nothing and why not. -/
def tres (S : Cod) (b : Str) : Txn × Nat × Nat × Cod := match ttake S b with
  | .ok (t, n, S') => (t, n, 0, S')
  | .error e => (Txn.zero, 0, e, S)

theorem tres_ok {S : Cod} (h : S.ok) (b : Str) : (tres S b).2.2.2.ok ∧ (tres S b).2.2.2.d.now ≤ S.d.now + 16 ∧ (tres S b).1.writes.length ≤ 16 ∧ (tres S b).2.1 ≤ b.length := by
  unfold tres
  cases e : ttake S b with
  | error n => exact ⟨h, by simp, by simp [Txn.zero], by simp⟩
  | ok v =>
    obtain ⟨t, n, S'⟩ := v
    obtain ⟨h1, h2⟩ := ttake_ok h e
    obtain ⟨k1, k2, k3, k4⟩ := ttake_inv h.1 e
    exact ⟨h1, h2, (tcheck_ok k1).2.2.2.2.1, k3⟩
end Go.Pk

/- The answers that the statements of layer 6 hold fixed. -/
namespace Go.Pk
open Go.Lib
set_option linter.unusedVariables false

def tOne : Txn := ⟨1, 1, Clk.zero, [⟨[97], [120], false⟩]⟩
def tTwo : Txn := ⟨1, 2, ⟨0, 1, 0⟩, [⟨[97], [], true⟩]⟩
def cOne : Cod := ⟨⟨[[97]], 1⟩, Clk.zero⟩
def cTwo : Cod := ⟨⟨[[97]], 1⟩, ⟨0, 1, 0⟩⟩

theorem put_one : tputE Cod.nil tOne = ([1, 1, 0, 0, 0, 1, 0, 1, 97, 2, 120], 0, cOne) := by
  have h : tcheck tOne = 0 := by decide
  unfold tputE
  rw [if_pos h]
  simp [tput, tOne, Cod.nil, cput, Clk.zero, zigzag, wput, dput, Dic.at, Dic.nil, Dic.comes, vput, uvarint_small, cOne]

theorem put_two : tputE cOne tTwo = ([1, 2, 0, 2, 0, 1, 1, 0], 0, cTwo) := by
  have h : tcheck tTwo = 0 := by decide
  unfold tputE
  rw [if_pos h]
  simp [tput, tTwo, cOne, cput, Clk.zero, zigzag, wput, dput, Dic.at, vput, uvarint_small, cTwo]

theorem put_again : (tputE cTwo tOne).2.1 = 0 := by
  have h : tcheck tOne = 0 := by decide
  unfold tputE
  rw [if_pos h]

theorem cOne_ok : cOne.ok := ⟨⟨rfl, by decide⟩, rfl⟩
theorem cTwo_ok : cTwo.ok := ⟨⟨rfl, by decide⟩, rfl⟩

theorem take_one (rest : Str) : ttake Cod.nil ([1, 1, 0, 0, 0, 1, 0, 1, 97, 2, 120] ++ rest) = .ok (tOne, 11, cOne) := by
  have h : tcheck tOne = 0 := by decide
  have := back Cod.nil_ok h rest
  have e := put_one
  unfold tputE at e
  rw [if_pos h] at e
  simp only [Prod.mk.injEq] at e
  rw [e.1, e.2.2] at this
  exact this

theorem take_two (rest : Str) : ttake cOne ([1, 2, 0, 2, 0, 1, 1, 0] ++ rest) = .ok (tTwo, 8, cTwo) := by
  have h : tcheck tTwo = 0 := by decide
  have := back cOne_ok h rest
  have e := put_two
  unfold tputE at e
  rw [if_pos h] at e
  simp only [Prod.mk.injEq] at e
  rw [e.1, e.2.2] at this
  exact this

theorem take_short : ttake cOne [1, 2, 0, 2, 0, 1, 1] = .error 2 := by rfl
theorem take_name : ttake cTwo [3, 1, 0, 1, 0, 0] = .error 9 := by rfl
theorem check_deps : tcheck ⟨0, 2, Clk.zero, []⟩ = 11 := by decide
theorem check_zero : tcheck Txn.zero = 1 := by decide
theorem one_two : ¬ tOne = tTwo := by decide
end Go.Pk

/- Streams and batches of transactions, in plain Lean. -/
namespace Go.Pk
open Go.Lib

structure It where
  reset : Bool
  t : Txn
  deriving DecidableEq

def It.cod (x : It) (S : Cod) : Cod := if x.reset then Cod.nil else S
def It.head (x : It) : UInt8 := if x.reset then 0 else 1

theorem It.cod_ok {x : It} {S : Cod} (h : S.ok) : (x.cod S).ok := by
  unfold It.cod; split
  · exact Cod.nil_ok
  · exact h

/-- A stream's bytes, behind out. -/
def eputG : Cod → Str → List It → Str × Nat
  | _, out, [] => (out, 0)
  | S, out, x :: r => if tcheck x.t = 0 then eputG (tput (x.cod S) x.t).2 (out ++ x.head :: (tput (x.cod S) x.t).1) r else ([], tcheck x.t)

def eput (l : List It) : Str × Nat := eputG Cod.nil [] l

def ebytes : Cod → List It → Str
  | _, [] => []
  | S, x :: r => x.head :: ((tput (x.cod S) x.t).1 ++ ebytes (tput (x.cod S) x.t).2 r)

theorem eputG_ok : ∀ (l : List It) (S : Cod) (out : Str), (∀ x ∈ l, tcheck x.t = 0) → eputG S out l = (out ++ ebytes S l, 0)
  | [], S, out, _ => by simp [eputG, ebytes]
  | x :: r, S, out, h => by
    rw [eputG, if_pos (h x (by simp)), eputG_ok r _ _ (fun y hy => h y (by simp [hy])), ebytes]
    simp

theorem eputG_bad : ∀ (l : List It) (S : Cod) (out : Str), (eputG S out l).2 ≠ 0 → (eputG S out l).1 = []
  | [], S, out, h => by simp [eputG] at h
  | x :: r, S, out, h => by
    rw [eputG] at h ⊢
    split at h
    · rename_i c; rw [if_pos c]; exact eputG_bad r _ _ h
    · rename_i c; rw [if_neg c]

theorem eputG_all : ∀ (l : List It) (S : Cod) (out : Str), (eputG S out l).2 = 0 → ∀ x ∈ l, tcheck x.t = 0
  | [], S, out, h, x, hx => by simp at hx
  | y :: r, S, out, h, x, hx => by
    rw [eputG] at h
    split at h
    · rename_i c
      rcases List.mem_cons.1 hx with rfl | hx
      · exact c
      · exact eputG_all r _ _ h x hx
    · rename_i c; exact absurd h c

/-- What bytes begin with: items, how many bytes, why no more. -/
def etakeN : Nat → Cod → Str → List It × Nat × Nat
  | 0, _, _ => ([], 0, 0)
  | _ + 1, _, [] => ([], 0, 0)
  | n + 1, S, h :: r => if 1 < h.toNat then ([], 0, 3) else
    match ttake (if h = 0 then Cod.nil else S) r with
    | .error e => ([], 0, e)
    | .ok (t, k, S') => (⟨decide (h = 0), t⟩ :: (etakeN n S' (r.drop k)).1, k + 1 + (etakeN n S' (r.drop k)).2.1, (etakeN n S' (r.drop k)).2.2)

def etake (S : Cod) (b : Str) : List It × Nat × Nat := etakeN b.length S b

theorem etakeN_eq : ∀ (n m : Nat) (S : Cod) (b : Str), b.length ≤ n → b.length ≤ m → etakeN n S b = etakeN m S b
  | 0, 0, S, b, _, _ => rfl
  | 0, m + 1, S, [], _, _ => rfl
  | n + 1, 0, S, [], _, _ => rfl
  | n + 1, m + 1, S, [], _, _ => rfl
  | 0, m + 1, S, h :: r, h1, _ => by simp at h1
  | n + 1, 0, S, h :: r, _, h2 => by simp at h2
  | n + 1, m + 1, S, h :: r, h1, h2 => by
    simp only [etakeN]
    split
    · rfl
    · cases e : ttake (if h = 0 then Cod.nil else S) r with
      | error e => rfl
      | ok v =>
        obtain ⟨t, k, S'⟩ := v
        simp only [List.length_cons] at h1 h2
        have := etakeN_eq n m S' (r.drop k) (by simp; omega) (by simp; omega)
        simp only [this]

theorem etake_nil (S : Cod) : etake S [] = ([], 0, 0) := rfl
theorem etake_form {S : Cod} {h : UInt8} {r : Str} (hh : 1 < h.toNat) : etake S (h :: r) = ([], 0, 3) := by
  show etakeN (r.length + 1) S (h :: r) = _
  rw [etakeN, if_pos hh]
theorem etake_err {S : Cod} {h : UInt8} {r : Str} {e : Nat} (hh : ¬ 1 < h.toNat) (he : ttake (if h = 0 then Cod.nil else S) r = .error e) : etake S (h :: r) = ([], 0, e) := by
  show etakeN (r.length + 1) S (h :: r) = _
  rw [etakeN, if_neg hh, he]
theorem etake_ok {S S' : Cod} {h : UInt8} {r : Str} {t : Txn} {k : Nat} (hh : ¬ 1 < h.toNat) (he : ttake (if h = 0 then Cod.nil else S) r = .ok (t, k, S')) :
    etake S (h :: r) = (⟨decide (h = 0), t⟩ :: (etake S' (r.drop k)).1, k + 1 + (etake S' (r.drop k)).2.1, (etake S' (r.drop k)).2.2) := by
  show etakeN (r.length + 1) S (h :: r) = _
  rw [etakeN, if_neg hh, he]
  dsimp only
  rw [etakeN_eq r.length (r.drop k).length S' (r.drop k) (by simp) (Nat.le_refl _)]
  rfl

theorem etake_back : ∀ (l : List It) (S : Cod), S.ok → (∀ x ∈ l, tcheck x.t = 0) → etake S (ebytes S l) = (l, (ebytes S l).length, 0)
  | [], S, _, _ => rfl
  | x :: r, S, hS, h => by
    have hx := h x (by simp)
    have hc := It.cod_ok (x := x) hS
    have hh : ¬ 1 < x.head.toNat := by unfold It.head; split <;> decide
    have h0 : (if x.head = 0 then Cod.nil else S) = x.cod S := by unfold It.head It.cod; cases x.reset <;> simp
    have hd : decide (x.head = 0) = x.reset := by unfold It.head; cases x.reset <;> simp
    have hb := back hc hx (ebytes (tput (x.cod S) x.t).2 r)
    rw [ebytes, etake_ok hh (by rw [h0]; exact hb), List.drop_left, etake_back r _ (tput_ok hc hx) (fun y hy => h y (by simp [hy])), hd]
    simp
    omega

theorem etake_inv : ∀ (n : Nat) (b : Str) (S : Cod), b.length ≤ n → S.ok → (etake S b).2.1 ≤ b.length ∧ (∀ x ∈ (etake S b).1, tcheck x.t = 0) ∧ ebytes S (etake S b).1 = b.take (etake S b).2.1
  | n, [], S, _, _ => by simp [etake_nil, ebytes]
  | 0, h :: r, S, hn, _ => by simp at hn
  | n + 1, h :: r, S, hn, hS => by
    by_cases hh : 1 < h.toNat
    · simp [etake_form hh, ebytes]
    · cases e : ttake (if h = 0 then Cod.nil else S) r with
      | error e' => simp [etake_err hh e, ebytes]
      | ok v =>
        obtain ⟨t, k, S'⟩ := v
        have hc : (if h = 0 then Cod.nil else S).ok := by
          split
          · exact Cod.nil_ok
          · exact hS
        obtain ⟨k1, k2, k3, k4⟩ := ttake_inv hc.1 e
        obtain ⟨q1, q2⟩ := ttake_ok hc e
        simp only [List.length_cons] at hn
        obtain ⟨i1, i2, i3⟩ := etake_inv n (r.drop k) S' (by simp; omega) q1
        rw [etake_ok hh e]
        dsimp only
        have hhd : (⟨decide (h = 0), t⟩ : It).head = h := by
          unfold It.head
          by_cases c : h = 0
          · simp [c]
          · simp only [c, decide_false, Bool.false_eq_true, if_false]
            have h1 : h.toNat ≤ 1 := by omega
            have h2 : h.toNat ≠ 0 := fun q => c (UInt8.toNat_inj.1 (by simpa using q))
            exact UInt8.toNat_inj.1 (by simp; omega)
        have hcd : (⟨decide (h = 0), t⟩ : It).cod S = if h = 0 then Cod.nil else S := by
          unfold It.cod
          by_cases c : h = 0 <;> simp [c]
        refine ⟨by simp at i1 ⊢; omega, ?_, ?_⟩
        · intro x hx
          rcases List.mem_cons.1 hx with rfl | hx
          · exact k1
          · exact i2 x hx
        · rw [ebytes, hhd, hcd, k4, i3]
          simp only [show k + 1 + (etake S' (List.drop k r)).2.1 = (k + (etake S' (List.drop k r)).2.1) + 1 by omega, List.take_succ_cons]
          rw [List.take_add]

/-- A batch's bytes, behind out. -/
def bputG : Cod → Str → List Txn → Str × Nat
  | _, out, [] => (out, 0)
  | S, out, x :: r => if tcheck x = 0 then bputG (tput S x).2 (out ++ (tput S x).1) r else ([], tcheck x)

def bput (l : List Txn) : Str × Nat := if 4 < l.length then ([], 4) else bputG Cod.nil (uvarint l.length) l

def bbytes : Cod → List Txn → Str
  | _, [] => []
  | S, x :: r => (tput S x).1 ++ bbytes (tput S x).2 r

theorem bputG_ok : ∀ (l : List Txn) (S : Cod) (out : Str), (∀ x ∈ l, tcheck x = 0) → bputG S out l = (out ++ bbytes S l, 0)
  | [], S, out, _ => by simp [bputG, bbytes]
  | x :: r, S, out, h => by
    rw [bputG, if_pos (h x (by simp)), bputG_ok r _ _ (fun y hy => h y (by simp [hy])), bbytes]
    simp

theorem bputG_bad : ∀ (l : List Txn) (S : Cod) (out : Str), (bputG S out l).2 ≠ 0 → (bputG S out l).1 = []
  | [], S, out, h => by simp [bputG] at h
  | x :: r, S, out, h => by
    rw [bputG] at h ⊢
    split at h
    · rename_i c; rw [if_pos c]; exact bputG_bad r _ _ h
    · rename_i c; rw [if_neg c]

theorem bputG_all : ∀ (l : List Txn) (S : Cod) (out : Str), (bputG S out l).2 = 0 → ∀ x ∈ l, tcheck x = 0
  | [], S, out, h, x, hx => by simp at hx
  | y :: r, S, out, h, x, hx => by
    rw [bputG] at h
    split at h
    · rename_i c
      rcases List.mem_cons.1 hx with rfl | hx
      · exact c
      · exact bputG_all r _ _ h x hx
    · rename_i c; exact absurd h c

/-- So many transactions from bytes on, and how many bytes they have. -/
def utake : Nat → Cod → Str → Except Nat (List Txn × Nat)
  | 0, _, _ => .ok ([], 0)
  | n + 1, S, b => match ttake S b with
    | .error e => .error e
    | .ok (t, k, S') => match utake n S' (b.drop k) with
      | .error e => .error e
      | .ok (l, u) => .ok (t :: l, k + u)

def unpack (b : Str) : List Txn × Nat :=
  if (vtake b).2.2 ≠ 0 then ([], (vtake b).2.2) else if 4 < (vtake b).1 then ([], 4) else
  match utake (vtake b).1 Cod.nil (b.drop (vtake b).2.1) with
  | .error e => ([], e)
  | .ok (l, u) => if (vtake b).2.1 + u ≠ b.length then ([], 3) else (l, 0)

theorem utake_back : ∀ (l : List Txn) (S : Cod), S.ok → (∀ x ∈ l, tcheck x = 0) → utake l.length S (bbytes S l) = .ok (l, (bbytes S l).length)
  | [], S, _, _ => rfl
  | x :: r, S, hS, h => by
    have hx := h x (by simp)
    have hb := back hS hx (bbytes (tput S x).2 r)
    simp only [List.length_cons, utake, bbytes, hb, List.drop_left, utake_back r _ (tput_ok hS hx) (fun y hy => h y (by simp [hy])), List.length_append]

theorem utake_inv : ∀ (n : Nat) (S : Cod) (b : Str) (l : List Txn) (u : Nat), S.ok → utake n S b = .ok (l, u) → l.length = n ∧ u ≤ b.length ∧ (∀ x ∈ l, tcheck x = 0) ∧ bbytes S l = b.take u
  | 0, S, b, l, u, _, h => by
    simp only [utake, Except.ok.injEq, Prod.mk.injEq] at h
    obtain ⟨rfl, rfl⟩ := h
    simp [bbytes]
  | n + 1, S, b, l, u, hS, h => by
    rw [utake] at h
    cases e : ttake S b with
    | error e' => rw [e] at h; cases h
    | ok v =>
      obtain ⟨t, k, S'⟩ := v
      rw [e] at h
      dsimp only at h
      cases e2 : utake n S' (b.drop k) with
      | error e' => rw [e2] at h; cases h
      | ok v =>
        obtain ⟨l', u'⟩ := v
        rw [e2] at h
        simp only [Except.ok.injEq, Prod.mk.injEq] at h
        obtain ⟨rfl, rfl⟩ := h
        obtain ⟨k1, k2, k3, k4⟩ := ttake_inv hS.1 e
        obtain ⟨q1, q2⟩ := ttake_ok hS e
        obtain ⟨i1, i2, i3, i4⟩ := utake_inv n S' (b.drop k) l' u' q1 e2
        refine ⟨by simp [i1], by simp at i2; omega, ?_, ?_⟩
        · intro x hx
          rcases List.mem_cons.1 hx with rfl | hx
          · exact k1
          · exact i3 x hx
        · rw [bbytes, k4, i4, List.take_add]

theorem utake_err : ∀ (n : Nat) (S : Cod) (b : Str) (e : Nat), utake n S b = .error e → e ≠ 0
  | 0, S, b, e, h => by cases h
  | n + 1, S, b, e, h => by
    rw [utake] at h
    cases e1 : ttake S b with
    | error e' => rw [e1] at h; cases h; exact ttake_err e1
    | ok v =>
      obtain ⟨t, k, S'⟩ := v
      rw [e1] at h
      dsimp only at h
      cases e2 : utake n S' (b.drop k) with
      | error e' => rw [e2] at h; cases h; exact utake_err n _ _ _ e2
      | ok v => rw [e2] at h; cases h

theorem unpack_bput {l : List Txn} (h : (bput l).2 = 0) : unpack (bput l).1 = (l, 0) := by
  unfold bput at h ⊢
  split at h
  · cases h
  · rename_i hl
    rw [if_neg hl]
    have hall := bputG_all l _ _ h
    rw [bputG_ok l _ _ hall]
    dsimp only
    have hv := vtake_uvarint (n := l.length) (by omega) (bbytes Cod.nil l)
    unfold unpack
    rw [hv]
    dsimp only
    rw [if_neg (by simp), if_neg hl, List.drop_left, utake_back l _ Cod.nil_ok hall]
    simp

theorem bput_unpack {b : Str} (h : (unpack b).2 = 0) : bput (unpack b).1 = (b, 0) ∧ (unpack b).1.length ≤ 4 := by
  unfold unpack at h ⊢
  split at h
  · rename_i c; exact absurd h c
  · rename_i hv
    rw [if_neg hv]
    split at h
    · cases h
    · rename_i hm
      rw [if_neg hm]
      cases e : utake (vtake b).1 Cod.nil (b.drop (vtake b).2.1) with
      | error e' => rw [e] at h; exact absurd h (utake_err _ _ _ _ e)
      | ok v =>
        obtain ⟨l, u⟩ := v
        rw [e] at h
        dsimp only at h ⊢
        split at h
        · cases h
        · rename_i hu
          have hu : (vtake b).2.1 + u = b.length := by simpa using hu
          rw [if_neg (by simp [hu])]
          obtain ⟨i1, i2, i3, i4⟩ := utake_inv _ _ _ _ _ Cod.nil_ok e
          have hv' : (vtake b).2.2 = 0 := by simpa using hv
          obtain ⟨j1, j2, r, j3⟩ := vtake_inv (b := b) (n := (vtake b).1) (s := (vtake b).2.1) (by rw [← hv'])
          refine ⟨?_, by dsimp only; omega⟩
          unfold bput
          dsimp only
          rw [if_neg (by omega), bputG_ok l _ _ i3, i1, i4]
          have hr : b.drop (vtake b).2.1 = r := by
            have := congrArg (List.drop (uvarint (vtake b).1).length) j3
            rw [List.drop_left] at this
            rw [j2]; exact this
          rw [hr]
          have hu2 : u = r.length := by
            have := congrArg List.length j3
            rw [List.length_append] at this
            omega
          rw [hu2, List.take_length, ← j3]

theorem eput_len : ∀ (l : List It) (S : Cod), S.ok → (∀ x ∈ l, tcheck x.t = 0) → (ebytes S l).length ≤ 7001 * l.length
  | [], S, _, _ => by simp [ebytes]
  | x :: r, S, hS, h => by
    have hx := h x (by simp)
    have hc := It.cod_ok (x := x) hS
    have := eput_len r _ (tput_ok hc hx) (fun y hy => h y (by simp [hy]))
    have := tput_len hc hx
    rw [ebytes]
    simp only [List.length_cons, List.length_append]
    omega

theorem bput_len : ∀ (l : List Txn) (S : Cod), S.ok → (∀ x ∈ l, tcheck x = 0) → (bbytes S l).length ≤ 7000 * l.length
  | [], S, _, _ => by simp [bbytes]
  | x :: r, S, hS, h => by
    have hx := h x (by simp)
    have := bput_len r _ (tput_ok hS hx) (fun y hy => h y (by simp [hy]))
    have := tput_len hS hx
    rw [bbytes]
    simp only [List.length_cons, List.length_append]
    omega

/-- Is the one behind the i-th as it is asked? -/
def rowOkAt (l : List Txn) (i : Nat) : Bool := match l[i]?, l[i + 1]? with
  | some a, some b => decide (b.origin = a.origin) && (decide (a.seq < b.seq) && decide (b.seq = a.seq + 1))
  | _, _ => true

/-- The same, held against the first one's origin. -/
def rowOkAtF (l : List Txn) (i : Nat) : Bool := match l[0]?, l[i]?, l[i + 1]? with
  | some z, some a, some b => decide (b.origin = z.origin) && (decide (a.seq < b.seq) && decide (b.seq = a.seq + 1))
  | _, _, _ => true

def rowB (l : List Txn) : Bool := (List.range (l.length - 1)).all (rowOkAt l)
def rowF (l : List Txn) : Bool := (List.range (l.length - 1)).all (rowOkAtF l)

theorem rowB_rowF (l : List Txn) : rowB l = rowF l := by
  have key : (∀ i, i < l.length - 1 → rowOkAt l i = true) ↔ (∀ i, i < l.length - 1 → rowOkAtF l i = true) := by
    cases hl : l with
    | nil => simp
    | cons z r =>
      rw [← hl]
      have hz : l[0]? = some z := by rw [hl]; rfl
      have org : ∀ (P : Nat → Bool), (∀ i, P i = true → ∀ a b : Txn, l[i]? = some a → l[i + 1]? = some b → a.origin = z.origin → b.origin = z.origin) → (∀ i, i < l.length - 1 → P i = true) →
          ∀ (i : Nat) (a : Txn), l[i]? = some a → a.origin = z.origin := by
        intro P hP h i
        induction i with
        | zero => intro a ha; rw [hz] at ha; cases ha; rfl
        | succ i ih =>
          intro b hb
          have hi : i + 1 < l.length := (List.getElem?_eq_some_iff.1 hb).1
          have ha : l[i]? = some l[i] := List.getElem?_eq_getElem (by omega)
          exact hP i (h i (by omega)) _ b ha hb (ih _ ha)
      constructor
      · intro h i hi
        have ha : l[i]? = some l[i] := List.getElem?_eq_getElem (by omega)
        have hb : l[i + 1]? = some l[i + 1] := List.getElem?_eq_getElem (by omega)
        have o := org (rowOkAt l) (fun i hi a b ha hb e => by
          simp only [rowOkAt, ha, hb, Bool.and_eq_true, decide_eq_true_eq] at hi
          exact hi.1.trans e) h i _ ha
        have := h i hi
        simp only [rowOkAt, rowOkAtF, hz, ha, hb, Bool.and_eq_true, decide_eq_true_eq] at this ⊢
        exact ⟨this.1.trans o, this.2⟩
      · intro h i hi
        have ha : l[i]? = some l[i] := List.getElem?_eq_getElem (by omega)
        have hb : l[i + 1]? = some l[i + 1] := List.getElem?_eq_getElem (by omega)
        have o := org (rowOkAtF l) (fun i hi a b ha hb e => by
          simp only [rowOkAtF, hz, ha, hb, Bool.and_eq_true, decide_eq_true_eq] at hi
          exact hi.1) h i _ ha
        have := h i hi
        simp only [rowOkAt, rowOkAtF, hz, ha, hb, Bool.and_eq_true, decide_eq_true_eq] at this ⊢
        exact ⟨this.1.trans o.symm, this.2⟩
  rw [Bool.eq_iff_iff]
  unfold rowB rowF
  simp only [List.all_eq_true, List.mem_range]
  exact key

def itsLarge (l : List Txn) : Bool := decide (30 < l.length) || l.any Txn.large
end Go.Pk

/- What layer 7's calls answer that the document fixes. -/
namespace Go.Pk
open Go.Lib

theorem tput_of {S S' : Cod} {t : Txn} {b : Str} (h : tputE S t = (b, 0, S')) : tcheck t = 0 ∧ tput S t = (b, S') := by
  unfold tputE at h
  split at h
  · rename_i c
    simp only [Prod.mk.injEq] at h
    exact ⟨c, Prod.ext h.1 h.2.2⟩
  · rename_i c
    simp only [Prod.mk.injEq] at h
    exact absurd h.2.1 c

def pTwo : Str := [2, 1, 1, 0, 0, 0, 1, 0, 1, 97, 2, 120, 1, 2, 0, 2, 0, 1, 1, 0]
def sTwo : Str := [1, 1, 1, 0, 0, 0, 1, 0, 1, 97, 2, 120, 0, 1, 2, 0, 2, 0, 1, 0, 1, 97, 0]

theorem pack_two : bput [tOne, tTwo] = (pTwo, 0) := by
  obtain ⟨a1, a2⟩ := tput_of put_one
  obtain ⟨b1, b2⟩ := tput_of put_two
  unfold bput
  rw [if_neg (by decide), bputG, if_pos a1, a2, bputG, if_pos b1, b2, bputG]
  have : uvarint [tOne, tTwo].length = [2] := uvarint_small (by decide)
  rw [this]
  rfl

theorem put_two' : tputE Cod.nil tTwo = ([1, 2, 0, 2, 0, 1, 0, 1, 97, 0], 0, ⟨⟨[[97]], 1⟩, ⟨0, 1, 0⟩⟩) := by
  have h : tcheck tTwo = 0 := by decide
  unfold tputE
  rw [if_pos h]
  simp [tput, tTwo, Cod.nil, cput, Clk.zero, zigzag, wput, dput, Dic.at, Dic.nil, Dic.comes, vput, uvarint_small]

theorem stream_two : eput [⟨false, tOne⟩, ⟨true, tTwo⟩] = (sTwo, 0) := by
  obtain ⟨a1, a2⟩ := tput_of put_one
  obtain ⟨b1, b2⟩ := tput_of put_two'
  unfold eput
  rw [eputG, if_pos a1, show It.cod ⟨false, tOne⟩ Cod.nil = Cod.nil from rfl, a2, eputG, if_pos b1, show ∀ S, It.cod ⟨true, tTwo⟩ S = Cod.nil from fun _ => rfl, b2, eputG]
  rfl

theorem unpack_two : unpack pTwo = ([tOne, tTwo], 0) := by
  have := unpack_bput (l := [tOne, tTwo]) (by rw [pack_two])
  rwa [pack_two] at this

theorem unpack_more : (unpack (pTwo ++ [0])).2 = 3 := by rfl
theorem unpack_five : (unpack [5]).2 = 4 := by rfl
theorem pack_five (l : List Txn) (h : l.length = 5) : (bput l).2 = 4 := by unfold bput; rw [if_pos (by omega)]
theorem take_two_more : (etake Cod.nil (sTwo ++ [2])).1.length = 2 ∧ (etake Cod.nil (sTwo ++ [2])).2.1 = 23 ∧ (etake Cod.nil (sTwo ++ [2])).2.2 = 3 := by
  refine ⟨rfl, rfl, rfl⟩
theorem row_two : rowB [tOne, tTwo] = true ∧ rowB [tTwo, tOne] = false := by decide
end Go.Pk

/- How long what layer 7 tells and reads is; its laws. -/
namespace Go.Pk
open Go.Lib

theorem itsLarge_no {l : List Txn} (h : itsLarge l = false) : l.length ≤ 30 ∧ ∀ t ∈ l, t.writes.length ≤ 40 := by
  simp only [itsLarge, Bool.or_eq_false_iff, decide_eq_false_iff_not, List.any_eq_false] at h
  refine ⟨by omega, fun t ht => ?_⟩
  have := h.2 t ht
  simp only [Txn.large, Bool.or_eq_true, decide_eq_true_eq, not_or] at this
  omega

theorem eput_len' (l : List It) : (eput l).1.length ≤ 7001 * l.length := by
  unfold eput
  by_cases h : (eputG Cod.nil [] l).2 = 0
  · have hall := eputG_all l _ _ h
    rw [eputG_ok l _ _ hall]
    simpa using eput_len l Cod.nil Cod.nil_ok hall
  · rw [eputG_bad l _ _ h]; simp

theorem bput_len' (l : List Txn) : (bput l).1.length ≤ 28010 := by
  unfold bput
  split
  · simp
  · rename_i h4
    by_cases h : (bputG Cod.nil (uvarint l.length) l).2 = 0
    · have hall := bputG_all l _ _ h
      rw [bputG_ok l _ _ hall]
      have := bput_len l Cod.nil Cod.nil_ok hall
      have := uvarint_length64 (x := l.length) (by omega)
      simp only [List.length_append]
      omega
    · rw [bputG_bad l _ _ h]; simp

theorem etake_count : ∀ (n : Nat) (b : Str) (S : Cod), b.length ≤ n → S.ok → (etake S b).1.length ≤ b.length
  | n, [], S, _, _ => by simp [etake_nil]
  | 0, h :: r, S, hn, _ => by simp at hn
  | n + 1, h :: r, S, hn, hS => by
    by_cases hh : 1 < h.toNat
    · simp [etake_form hh]
    · cases e : ttake (if h = 0 then Cod.nil else S) r with
      | error e' => simp [etake_err hh e]
      | ok v =>
        obtain ⟨t, k, S'⟩ := v
        have hc : (if h = 0 then Cod.nil else S).ok := by
          split
          · exact Cod.nil_ok
          · exact hS
        obtain ⟨q1, q2⟩ := ttake_ok hc e
        simp only [List.length_cons] at hn
        have := etake_count n (r.drop k) S' (by simp; omega) q1
        rw [etake_ok hh e]
        simp only [List.length_cons]
        have : (r.drop k).length ≤ r.length := by simp
        omega

theorem etake_good (b : Str) : (etake Cod.nil b).1.length ≤ b.length ∧ (∀ x ∈ (etake Cod.nil b).1, x.t.writes.length ≤ 16) ∧ (etake Cod.nil b).2.1 ≤ b.length ∧ eput (etake Cod.nil b).1 = (b.take (etake Cod.nil b).2.1, 0) := by
  obtain ⟨h1, h2, h3⟩ := etake_inv b.length b Cod.nil (Nat.le_refl _) Cod.nil_ok
  refine ⟨etake_count b.length b Cod.nil (Nat.le_refl _) Cod.nil_ok, fun x hx => (tcheck_ok (h2 x hx)).2.2.2.2.1, h1, ?_⟩
  unfold eput
  rw [eputG_ok _ _ _ h2, h3, List.nil_append]

theorem etake_eput {l : List It} (h : (eput l).2 = 0) : etake Cod.nil (eput l).1 = (l, (eput l).1.length, 0) := by
  unfold eput at h ⊢
  have hall := eputG_all l _ _ h
  rw [eputG_ok l _ _ hall, List.nil_append]
  exact etake_back l Cod.nil Cod.nil_ok hall

theorem eput_err {l : List It} (h : (eput l).2 ≠ 0) : (eput l).1 = [] := eputG_bad l _ _ h

theorem unpack_good (b : Str) : (unpack b).1.length ≤ 4 ∧ ∀ t ∈ (unpack b).1, t.writes.length ≤ 16 := by
  by_cases h : (unpack b).2 = 0
  · obtain ⟨h1, h2⟩ := bput_unpack h
    refine ⟨h2, fun t ht => ?_⟩
    unfold bput at h1
    rw [if_neg (by omega)] at h1
    exact (tcheck_ok (bputG_all _ _ _ (congrArg Prod.snd h1) t ht)).2.2.2.2.1
  · have : (unpack b).1 = [] := by
      unfold unpack at h ⊢
      split
      · rfl
      · rename_i c1
        rw [if_neg c1] at h
        split
        · rfl
        · rename_i c2
          rw [if_neg c2] at h
          cases e : utake (vtake b).1 Cod.nil (b.drop (vtake b).2.1) with
          | error e' => rfl
          | ok v =>
            obtain ⟨l, u⟩ := v
            rw [e] at h
            dsimp only at h ⊢
            split
            · rfl
            · rename_i c3; rw [if_neg c3] at h; exact absurd rfl h
    rw [this]; simp

theorem bput_err {l : List Txn} (h : (bput l).2 ≠ 0) : (bput l).1 = [] ∧ ((decide (l.length ≤ 4)) && l.all (fun t => decide (tcheck t = 0))) = false := by
  unfold bput at h ⊢
  split
  · rename_i c
    exact ⟨rfl, by rw [decide_eq_false (by omega)]; rfl⟩
  · rename_i c
    rw [if_neg c] at h
    refine ⟨bputG_bad l _ _ h, ?_⟩
    rw [Bool.and_eq_false_iff]
    right
    rw [List.all_eq_false]
    by_cases hall : ∀ x ∈ l, tcheck x = 0
    · exact absurd (congrArg Prod.snd (bputG_ok l Cod.nil (uvarint l.length) hall)) h
    · obtain ⟨x, hx⟩ := Classical.not_forall.1 hall
      obtain ⟨h1, h2⟩ := Classical.not_imp.1 hx
      exact ⟨x, h1, by simpa using h2⟩
end Go.Pk
