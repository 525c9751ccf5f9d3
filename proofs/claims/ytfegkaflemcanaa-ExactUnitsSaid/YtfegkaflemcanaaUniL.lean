/- The law ExactUnits: 0 and 1 are neutral, order plays no part, integers are added and multiplied. It holds for every input. -/
import Derived.Test.YtfegkaflemcanaaUni
import Derived.Test.YtfegkaflemcanaaWrap2
namespace Go.Proofs.Ytfegkaflemcanaa
open Go.ChangeShapes Go.WideShapes Go.ChangeAt Go.RowKit

set_option maxRecDepth 100000 in
theorem exactUnits_lifted (os : Os) (started : os.Started) (H : Type) (enc : TypeId × Value → H) :
    ReturnsInHanded {} Try.checked os 8 .any (Rows.exactUnitsSpec.pre6 enc Try.prog Try.f8 Rows.exactUnitsRow.domain false) (Rows.exactUnitsSpec.post enc Try.prog Try.f8 false true false false) := by
  refine returnsInHanded_of_change (C := Try.checked) prog_own started (by kernel_rfl) Try.func8
    (ChangeSpec.witness6 (enc := enc) (C := Try.checked) false ⟨#[], #[.agg #[.int .i64 0, .int .i64 0], .agg #[.int .i64 0, .int .i64 0], .agg #[.int .i64 0, .int .i64 0]], []⟩ 8 (by kernel_rfl) (by kernel_rfl) (by kernel_rfl) (by kernel_rfl)) ?_
  intro W base args ds gs before hval0 hW hcnd _
  have hval : ∀ (j : Nat) t v, Try.f8.params[j]? = some t → args[j]? = some v → Value.okWide Try.prog W .any base t v := hval0
  have hW' := hW
  obtain ⟨p, q, hA0, hV, rfl, hfz, hnd⟩ := hW
  have hA : DataW.TrodAll enc Try.prog W 0 (fun _ => true) true [33, 33, 47] args.toList ds p := hA0
  obtain ⟨v0, v1, v2, d0, d1, d2, p0, p1, p2, rfl, rfl, rfl, h0, h1, h2⟩ := trodAll_three hA
  obtain ⟨rfl, rfl⟩ := trodVars_none hV
  obtain ⟨x00, x01, rfl, w00, w01, rfl, rfl⟩ := open_rat (hval 0 33 v0 rfl rfl) h0
  obtain ⟨x10, x11, rfl, w10, w11, rfl, rfl⟩ := open_rat (hval 1 33 v1 rfl rfl) h1
  obtain ⟨x20, x21, rfl, w20, w21, rfl, rfl⟩ := open_int2 (hval 2 47 v2 rfl rfl) h2
  refine (units_any x00 x01 x10 x11 x20 x21 W (i64_of w00) (i64_of w01) (i64_of w10) (i64_of w11) (i64_of w20) (i64_of w21)).mono fun e W' ⟨he, hb⟩ => ?_
  subst he
  simp only [List.append_nil] at hW'
  refine ⟨_, rfl, law_post hW' rfl rfl Try.underlying4 rfl ?_ hb⟩
  exact trodAll_mk3 (Below.trod prog_laid (by kernel_rfl) (of_decide_eq_true (by kernel_rfl)) h0 hb (fun x hx => by cases hx)) (Below.trod prog_laid (by kernel_rfl) (of_decide_eq_true (by kernel_rfl)) h1 hb (fun x hx => by cases hx)) (Below.trod prog_laid (by kernel_rfl) (of_decide_eq_true (by kernel_rfl)) h2 hb (fun x hx => by cases hx))

theorem exactUnits_holds : Rows.ExactUnitsSaid :=
  OpenClaim.holds_of_wide (p := Try.pinned) (s := Rows.exactUnitsSpec) (c := Rows.exactUnitsRow) 8 Try.f8 rfl rfl rfl rfl rfl rfl rfl ⟨rfl, rfl, rfl, rfl, rfl⟩ rfl rfl rfl rfl rfl (by kernel_rfl) Try.func8 (by kernel_rfl)
    (of_decide_eq_true (by kernel_rfl)) (by unfold Func.isWrapper; first | (rw [if_pos (by decide +kernel)]; kernel_rfl) | (rw [if_neg (by decide +kernel)]; exact ⟨rfl, rfl⟩))
    (fun os started H enc _ => exactUnits_lifted os started H enc)
end Go.Proofs.Ytfegkaflemcanaa
