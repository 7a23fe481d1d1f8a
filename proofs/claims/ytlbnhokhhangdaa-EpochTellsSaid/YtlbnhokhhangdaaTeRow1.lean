/-
  'EpochTells' returns true for every input, and each argument reads behind the call as it read before. No condition of its own.
-/
import Derived.Test.YtlbnhokhhangdaaTe13
import Derived.Test.YtlbnhokhhangdaaTe16
namespace Go.Proofs.Ytlbnhokhhangdaa
open Go Go.Am Go.Pk Go.Lib Go.ChangeShapes Go.WideShapes Go.ChangeAt Go.RowKit
set_option linter.unusedVariables false

set_option maxRecDepth 100000 in
theorem epochTells_lifted (os : Os) (started : os.Started) (H : Type) (enc : TypeId × Value → H) :
    ReturnsInHanded {} Try.checked os 6 .any (Rows.epochTellsSpec.pre6 enc Try.prog Try.f6 Rows.epochTellsRow.domain false) (Rows.epochTellsSpec.post enc Try.prog Try.f6 false true false false) := by
  refine returnsInHanded_of_change_sized (C := Try.checked) own started (by kernel_rfl) Try.func6
    (ChangeSpec.witness6 (enc := enc) (C := Try.checked) false ⟨#[], #[.slice none 0 0, .slice none 0 0, .slice none 0 0], []⟩ 8 (by kernel_rfl) (by kernel_rfl) (by kernel_rfl) (by kernel_rfl)) ?_
  intro W base args ds gs before hval0 hW hcnd hsz0 _
  have hsz : (DataW.weightsEach Try.prog (Try.f6.params.toList ++ Rows.epochTellsSpec.plain.varTypes Try.prog) (ds ++ gs)).all (· ≤ reachBytes) = true := hsz0
  have hval : ∀ (j : Nat) t v, Try.f6.params[j]? = some t → args[j]? = some v → Value.okWide Try.prog W .any base t v := hval0
  have hW' := hW
  obtain ⟨p, q, hA0, hV, rfl, hfz, hnd⟩ := hW
  have r0 : DataW.TrodAll enc Try.prog W 0 (fun _ => true) true Try.f6.params.toList args.toList ds p := hA0
  rw [Try.params6] at r0 hval hsz
  obtain ⟨v1, vs1, d1, ds1, p1, q1, hargs, rfl, rfl, h1, r1⟩ := trodAll_cons r0
  obtain ⟨v2, vs2, d2, ds2, p2, q2, rfl, rfl, rfl, h2, r2⟩ := trodAll_cons r1
  obtain ⟨v3, vs3, d3, ds3, p3, q3, rfl, rfl, rfl, h3, r3⟩ := trodAll_cons r2
  obtain ⟨rfl, rfl, rfl⟩ := trodAll_nil r3
  obtain rfl : args = #[v1, v2, v3] := by cases args; simp_all
  obtain ⟨rfl, rfl⟩ := trodVars_none hV
  obtain ⟨l, k1, -, -⟩ := Dec.argSl dItems Try.underlying52 (hval 0 52 v1 rfl rfl) h1
  obtain ⟨ts, k2, -, come⟩ := Dec.argSl dTxns Try.underlying53 (hval 1 53 v2 rfl rfl) h2
  obtain ⟨b, k3, -, -⟩ := Dec.argSl dBytes Try.underlying23 (hval 2 23 v3 rfl rfl) h3
  have hl := arg_reach Try.underlying52 h1 k1 hsz (j := 0) rfl rfl
  rw [iq_len, bytes_95] at hl
  refine (ACalls.outside (P := Try.prog) (EpochTells_spec l ts b hl (fun t ht => by obtain ⟨-, -, -, -, c1, c2⟩ := come t ht; omega) Heap.nil) rfl ?_ (fun r H' e => e)).mono fun e W' ⟨he, hb⟩ => ⟨_, he, ?_⟩
  · intro i hi
    match i, hi with
    | 0, _ => exact k1
    | 1, _ => exact k2
    | 2, _ => exact k3
  · exact post_of_law laidOut (fun t ht => by
      rw [Try.params6] at ht
      simp at ht
      rcases ht with rfl | rfl | rfl <;> exact ⟨by kernel_rfl, of_decide_eq_true (by kernel_rfl)⟩) rfl rfl (by kernel_rfl) Try.underlying4 hW' hb

theorem epochTells_holds : Rows.EpochTellsSaid :=
  OpenClaim.holds_of_wide 6 Try.f6 rfl rfl rfl rfl rfl rfl rfl ⟨rfl, rfl, rfl, rfl, rfl⟩ rfl rfl rfl rfl rfl (by kernel_rfl) Try.func6 (by kernel_rfl)
    (of_decide_eq_true (by kernel_rfl)) (by unfold Func.isWrapper; first | (rw [if_pos (by decide +kernel)]; kernel_rfl) | (rw [if_neg (by decide +kernel)]; exact ⟨rfl, rfl⟩))
    (fun os started H enc _ => epochTells_lifted os started H enc)
end Go.Proofs.Ytlbnhokhhangdaa
