/- The law ExactSums: small ratios are added and multiplied as rational numbers are. It holds for every input. -/
import Derived.Test.YtfegkaflemcanaaSums
import Derived.Test.YtfegkaflemcanaaWrap2
namespace Go.Proofs.Ytfegkaflemcanaa
open Go.ChangeShapes Go.WideShapes Go.ChangeAt Go.RowKit

set_option maxRecDepth 100000 in
theorem exactSums_lifted (os : Os) (started : os.Started) (H : Type) (enc : TypeId × Value → H) :
    ReturnsInHanded {} Try.checked os 7 .any (Rows.exactSumsSpec.pre6 enc Try.prog Try.f7 Rows.exactSumsRow.domain false) (Rows.exactSumsSpec.post enc Try.prog Try.f7 false true false false) := by
  refine returnsInHanded_of_change (C := Try.checked) prog_own started (by kernel_rfl) Try.func7
    (ChangeSpec.witness6 (enc := enc) (C := Try.checked) false ⟨#[], #[.agg #[.int .i64 0, .int .i64 0, .int .i64 0, .int .i64 0, .int .i64 0, .int .i64 0]], []⟩ 8 (by kernel_rfl) (by kernel_rfl) (by kernel_rfl) (by kernel_rfl)) ?_
  intro W base args ds gs before hval0 hW hcnd _
  have hval : ∀ (j : Nat) t v, Try.f7.params[j]? = some t → args[j]? = some v → Value.okWide Try.prog W .any base t v := hval0
  have hW' := hW
  obtain ⟨p, q, hA0, hV, rfl, hfz, hnd⟩ := hW
  have hA : DataW.TrodAll enc Try.prog W 0 (fun _ => true) true [34] args.toList ds p := hA0
  obtain ⟨v0, d0, rfl, rfl, h0⟩ := trodAll_one hA
  obtain ⟨rfl, rfl⟩ := trodVars_none hV
  obtain ⟨x00, x01, x02, x03, x04, x05, rfl, w00, w01, w02, w03, w04, w05, rfl, rfl⟩ := open_rat3 (hval 0 34 v0 rfl rfl) h0
  refine (sums_any x00 x01 x02 x03 x04 x05 W (i64_of w00) (i64_of w01) (i64_of w02) (i64_of w03) (i64_of w04) (i64_of w05)).mono fun e W' ⟨he, hb⟩ => ?_
  subst he
  simp only [List.append_nil] at hW'
  refine ⟨_, rfl, law_post hW' rfl rfl Try.underlying4 rfl ?_ hb⟩
  exact trodAll_mk1 (Below.trod prog_laid (by kernel_rfl) (of_decide_eq_true (by kernel_rfl)) h0 hb (fun x hx => by cases hx))

theorem exactSums_holds : Rows.ExactSumsSaid :=
  OpenClaim.holds_of_wide (p := Try.pinned) (s := Rows.exactSumsSpec) (c := Rows.exactSumsRow) 7 Try.f7 rfl rfl rfl rfl rfl rfl rfl ⟨rfl, rfl, rfl, rfl, rfl⟩ rfl rfl rfl rfl rfl (by kernel_rfl) Try.func7 (by kernel_rfl)
    (of_decide_eq_true (by kernel_rfl)) (by unfold Func.isWrapper; first | (rw [if_pos (by decide +kernel)]; kernel_rfl) | (rw [if_neg (by decide +kernel)]; exact ⟨rfl, rfl⟩))
    (fun os started H enc _ => exactSums_lifted os started H enc)
end Go.Proofs.Ytfegkaflemcanaa
