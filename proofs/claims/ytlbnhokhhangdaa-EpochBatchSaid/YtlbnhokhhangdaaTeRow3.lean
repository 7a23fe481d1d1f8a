/-
  'EpochBatch' returns true for every input, and each argument reads behind the call as it read before. No condition of its own.
-/
import Derived.Test.YtlbnhokhhangdaaTe13
import Derived.Test.YtlbnhokhhangdaaTe16
namespace Go.Proofs.Ytlbnhokhhangdaa
open Go Go.Am Go.Pk Go.Lib Go.ChangeShapes Go.WideShapes Go.ChangeAt Go.RowKit
set_option linter.unusedVariables false

set_option maxRecDepth 100000 in
theorem epochBatch_lifted (os : Os) (started : os.Started) (H : Type) (enc : TypeId × Value → H) :
    ReturnsInHanded {} Try.checked os 8 .any (Rows.epochBatchSpec.pre6 enc Try.prog Try.f8 Rows.epochBatchRow.domain false) (Rows.epochBatchSpec.post enc Try.prog Try.f8 false true false false) := by
  refine returnsInHanded_of_change (C := Try.checked) own started (by kernel_rfl) Try.func8
    (ChangeSpec.witness6 (enc := enc) (C := Try.checked) false ⟨#[], #[.slice none 0 0, .slice none 0 0], []⟩ 8 (by kernel_rfl) (by kernel_rfl) (by kernel_rfl) (by kernel_rfl)) ?_
  intro W base args ds gs before hval0 hW hcnd _
  have hval : ∀ (j : Nat) t v, Try.f8.params[j]? = some t → args[j]? = some v → Value.okWide Try.prog W .any base t v := hval0
  have hW' := hW
  obtain ⟨p, q, hA0, hV, rfl, hfz, hnd⟩ := hW
  have r0 : DataW.TrodAll enc Try.prog W 0 (fun _ => true) true Try.f8.params.toList args.toList ds p := hA0
  rw [Try.params8] at r0 hval
  obtain ⟨v1, vs1, d1, ds1, p1, q1, hargs, rfl, rfl, h1, r1⟩ := trodAll_cons r0
  obtain ⟨v2, vs2, d2, ds2, p2, q2, rfl, rfl, rfl, h2, r2⟩ := trodAll_cons r1
  obtain ⟨rfl, rfl, rfl⟩ := trodAll_nil r2
  obtain rfl : args = #[v1, v2] := by cases args; simp_all
  obtain ⟨rfl, rfl⟩ := trodVars_none hV
  obtain ⟨ts, k1, -, -⟩ := Dec.argSl dTxns Try.underlying53 (hval 0 53 v1 rfl rfl) h1
  obtain ⟨b, k2, -, -⟩ := Dec.argSl dBytes Try.underlying23 (hval 1 23 v2 rfl rfl) h2
  refine (ACalls.outside (P := Try.prog) (EpochBatch_spec ts b Heap.nil) rfl ?_ (fun r H' e => e)).mono fun e W' ⟨he, hb⟩ => ⟨_, he, ?_⟩
  · intro i hi
    match i, hi with
    | 0, _ => exact k1
    | 1, _ => exact k2
  · exact post_of_law laidOut (fun t ht => by
      rw [Try.params8] at ht
      simp at ht
      rcases ht with rfl | rfl <;> exact ⟨by kernel_rfl, of_decide_eq_true (by kernel_rfl)⟩) rfl rfl (by kernel_rfl) Try.underlying4 hW' hb

theorem epochBatch_holds : Rows.EpochBatchSaid :=
  OpenClaim.holds_of_wide 8 Try.f8 rfl rfl rfl rfl rfl rfl rfl ⟨rfl, rfl, rfl, rfl, rfl⟩ rfl rfl rfl rfl rfl (by kernel_rfl) Try.func8 (by kernel_rfl)
    (of_decide_eq_true (by kernel_rfl)) (by unfold Func.isWrapper; first | (rw [if_pos (by decide +kernel)]; kernel_rfl) | (rw [if_neg (by decide +kernel)]; exact ⟨rfl, rfl⟩))
    (fun os started H enc _ => epochBatch_lifted os started H enc)
end Go.Proofs.Ytlbnhokhhangdaa
