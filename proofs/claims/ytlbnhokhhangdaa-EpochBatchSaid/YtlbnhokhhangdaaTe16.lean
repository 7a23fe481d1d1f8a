/- The texts of this part, one behind the other: what is proved of the model and of the functions that the law reaches. -/
import Derived.Test.YtlbnhokhhangdaaTe15
import Derived.Test.YtlbnhokhhangdaaTe13
import Derived.SizedLaws
/- What comes in at the statements of layer 7: items, rows of transactions; how long a row is by the form's reach. -/
namespace Go.Proofs.Ytlbnhokhhangdaa
open Go Go.Am Go.Pk Go.Lib
set_option linter.unusedVariables false

section
variable {H : Type} {enc : TypeId × Value → H} {W : World}

theorem cells_95 : Try.prog.cellsOf 95 = 7 := by kernel_rfl

theorem dItem : Dec enc Try.prog W 95 (fun l => ∃ x : It, l = (iq x).cells ∧ Txn.come x.t) := by
  refine (Dec.struct [_, _] Try.underlying95 ⟨rfl, Dec.bool Try.underlying4, by rw [cells_4], dTxn, trivial⟩ ?_ (by simp)).mono ?_
  · intro o u e
    cases e
    rw [cells_95, cells_32]
  · rintro l ⟨x, y, rfl, ⟨r, rfl⟩, x2, y2, rfl, ⟨t, rfl, ht⟩, rfl⟩
    exact ⟨⟨r, t⟩, rfl, ht⟩

theorem dItems : Dec enc Try.prog W 52 (fun l => ∃ l' : List It, l = [.sl (l'.map iq) .no] ∧ l'.length ≤ maxLen ∧ ∀ x ∈ l', Txn.come x.t) :=
  Dec.slice iq (fun x => Txn.come x.t) Try.underlying52 cells_95 (by decide) (fun _ => rfl) dItem

theorem dTxns : Dec enc Try.prog W 53 (fun l => ∃ l' : List Txn, l = [.sl (l'.map tn) .no] ∧ l'.length ≤ maxLen ∧ ∀ t ∈ l', Txn.come t) :=
  Dec.slice tn (fun t => Txn.come t) Try.underlying53 cells_32 (by decide) (fun _ => rfl) dTxn
end

section
variable {H : Type} {enc : TypeId × Value → H} {P : Program} {W : World}

theorem trod_len {t e : TypeId} (hu : P.underlying t = some (.slice e)) {fuel : Nat} {ao : Option Addr} {len cap : Nat} {d : DataW H} {ps : List MemPlace}
    (h : DataW.trod enc P W 0 (fun _ => true) true fuel t [.slice ao len cap] = some (d, ps)) : len = 0 ∨ ∃ elems spare, d = .slice elems spare ∧ elems.length = len := by
  cases fuel with
  | zero => simp [DataW.trod] at h
  | succ fuel =>
    simp only [DataW.trod, hu] at h
    cases ao with
    | none =>
      left
      cases len <;> cases cap <;> simp at h ⊢
    | some a =>
      simp only at h
      split at h
      · right
        cases hm : (List.range len).mapM (fun i => (W.cells? 0 (a.add (i * P.cellsOf e)) (P.cellsOf e)).bind (DataW.trod enc P W 0 (fun _ => true) true fuel e)) with
        | none => rw [hm] at h; cases h
        | some xs =>
          have hxl := mapM_some_length hm
          rw [List.length_range] at hxl
          rw [hm] at h
          simp only [Option.bind_some, Option.map_eq_some_iff] at h
          obtain ⟨rest, -, e2⟩ := h
          simp only [Prod.mk.injEq] at e2
          exact ⟨_, _, e2.1.symm, by simp [hxl]⟩
      · cases h

/-- What a row of an argument takes is within the reach. -/
theorem arg_reach {t e : TypeId} {v : Value} {d : DataW H} {ps : List MemPlace} {els : List AV} (hu : P.underlying t = some (.slice e)) (ht : DataW.Trod enc P W 0 (fun _ => true) true t v d ps) (hv : VR (Gh.start W) [] (.sl els .no) v)
    {ts : List TypeId} {ds : List (DataW H)} (hs : (DataW.weightsEach P ts ds).all (· ≤ reachBytes) = true) {j : Nat} (hj : ts[j]? = some t) (hd : ds[j]? = some d) : els.length * P.bytesOf e ≤ reachBytes := by
  obtain ⟨fuel, hf⟩ := ht
  have hlen : ∃ ao cap, v = .slice ao els.length cap := by
    cases hv with
    | slempty _ a cap => exact ⟨a, cap, rfl⟩
    | sl => exact ⟨_, _, rfl⟩
  obtain ⟨ao, cap, rfl⟩ := hlen
  rcases trod_len hu (by simpa [Value.cells] using hf) with h | ⟨elems, spare, rfl, h⟩
  · rw [h]; simp
  · have := sized_slice hs hj hd hu
    rw [h] at this
    exact Nat.le_trans (Nat.mul_le_mul_right _ (Nat.le_add_right _ _)) this
end

theorem bytes_95 : Try.prog.bytesOf 95 = 72 := by kernel_rfl
end Go.Proofs.Ytlbnhokhhangdaa
