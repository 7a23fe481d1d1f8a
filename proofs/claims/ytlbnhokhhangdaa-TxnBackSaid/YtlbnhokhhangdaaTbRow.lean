/-
  'TxnBack' returns true for every input, and each argument reads behind the call as it read before. No condition of its own.
-/
import Derived.Test.YtlbnhokhhangdaaTb11
import Derived.Test.YtlbnhokhhangdaaTb13
namespace Go.Proofs.Ytlbnhokhhangdaa
open Go Go.Am Go.Pk Go.Lib Go.ChangeShapes Go.WideShapes Go.ChangeAt Go.RowKit
set_option linter.unusedVariables false

set_option maxRecDepth 100000 in
theorem txnBack_lifted (os : Os) (started : os.Started) (H : Type) (enc : TypeId × Value → H) :
    ReturnsInHanded {} Try.checked os 3 .any (Rows.txnBackSpec.pre6 enc Try.prog Try.f3 Rows.txnBackRow.domain false) (Rows.txnBackSpec.post enc Try.prog Try.f3 false true false false) := by
  refine returnsInHanded_of_change (C := Try.checked) own started (by kernel_rfl) Try.func3
    (ChangeSpec.witness6 (enc := enc) (C := Try.checked) false ⟨#[], #[.slice none 0 0, .slice none 0 0], []⟩ 8 (by kernel_rfl) (by kernel_rfl) (by kernel_rfl) (by kernel_rfl)) ?_
  intro W base args ds gs before hval0 hW hcnd _
  have hval : ∀ (j : Nat) t v, Try.f3.params[j]? = some t → args[j]? = some v → Value.okWide Try.prog W .any base t v := hval0
  have hW' := hW
  obtain ⟨p, q, hA0, hV, rfl, hfz, hnd⟩ := hW
  have hA : DataW.TrodAll enc Try.prog W 0 (fun _ => true) true Try.f3.params.toList args.toList ds p := hA0
  rw [Try.params3] at hA hval
  obtain ⟨v0, vs0, d0, ds0, p0, q0, hargs, rfl, rfl, h0, r0⟩ := trodAll_cons hA
  obtain ⟨v1, vs1, d1, ds1, p1, q1, rfl, rfl, rfl, h1, r1⟩ := trodAll_cons r0
  obtain ⟨rfl, rfl, rfl⟩ := trodAll_nil r1
  obtain rfl : args = #[v0, v1] := by cases args; simp_all
  obtain ⟨rfl, rfl⟩ := trodVars_none hV
  obtain ⟨l, k0, -, -⟩ := Dec.argSl dActs Try.underlying22 (hval 0 22 v0 rfl rfl) h0
  obtain ⟨b, k1, -, -⟩ := Dec.argSl dBytes Try.underlying23 (hval 1 23 v1 rfl rfl) h1
  refine (ACalls.outside (P := Try.prog) (TxnBack_spec l b) rfl ?_ (fun r H' e => e)).mono fun e W' ⟨he, hb⟩ => ⟨_, he, ?_⟩
  · intro i hi
    match i, hi with
    | 0, _ => exact k0
    | 1, _ => exact k1
  · exact post_of_law laidOut (fun t ht => by
      rw [Try.params3] at ht
      simp at ht
      rcases ht with rfl | rfl <;> exact ⟨by kernel_rfl, of_decide_eq_true (by kernel_rfl)⟩) rfl rfl (by kernel_rfl) Try.underlying4 hW' hb

theorem txnBack_holds : Rows.TxnBackSaid :=
  OpenClaim.holds_of_wide 3 Try.f3 rfl rfl rfl rfl rfl rfl rfl ⟨rfl, rfl, rfl, rfl, rfl⟩ rfl rfl rfl rfl rfl (by kernel_rfl) Try.func3 (by kernel_rfl)
    (of_decide_eq_true (by kernel_rfl)) (by unfold Func.isWrapper; first | (rw [if_pos (by decide +kernel)]; kernel_rfl) | (rw [if_neg (by decide +kernel)]; exact ⟨rfl, rfl⟩))
    (fun os started H enc _ => txnBack_lifted os started H enc)
end Go.Proofs.Ytlbnhokhhangdaa
