/- Proved: ExactRatios: Cmp, Lowest, Sum and Mul return what the reference implementation returns, for ratios as they are, and with common factors. No condition. -/
import Derived.Test.YtfegkaflemcanaaOpen
import Derived.Test.YtfegkaflemcanaaRatW
import Derived.ChangeMaps5
namespace Go.Proofs.Ytfegkaflemcanaa
open Go.ChangeShapes Go.WideShapes Go.ChangeAt Go.RowKit

theorem exactRatios_o0 : Opens Try.prog 33 (Enc.pair Enc.int Enc.int) := (opens_struct (by kernel_rfl) Try.underlying33 (opensF_cons rfl (opens_num (by kernel_rfl) Try.underlying3 (fun _ h => bounds_i64 h)) (opensF_one rfl (opens_num (by kernel_rfl) Try.underlying3 (fun _ h => bounds_i64 h)))))
theorem exactRatios_o1 : Opens Try.prog 33 (Enc.pair Enc.int Enc.int) := (opens_struct (by kernel_rfl) Try.underlying33 (opensF_cons rfl (opens_num (by kernel_rfl) Try.underlying3 (fun _ h => bounds_i64 h)) (opensF_one rfl (opens_num (by kernel_rfl) Try.underlying3 (fun _ h => bounds_i64 h)))))
theorem exactRatios_o2 : Opens Try.prog 3 Enc.int := (opens_num (by kernel_rfl) Try.underlying3 (fun _ h => bounds_i64 h))
set_option maxRecDepth 100000 in
theorem exactRatios_lifted (os : Os) (started : os.Started) (H : Type) (enc : TypeId × Value → H) :
    ReturnsInHanded {} Try.checked os 6 .any (Rows.exactRatiosSpec.pre6 enc Try.prog Try.f6 Rows.exactRatiosRow.domain false) (Rows.exactRatiosSpec.post enc Try.prog Try.f6 false true false false) := by
  refine returnsInHanded_of_change (C := Try.checked) prog_own started (by kernel_rfl) Try.func6
    (ChangeSpec.witness6 (enc := enc) (C := Try.checked) false ⟨#[], #[.agg #[.int .i64 0, .int .i64 0], .agg #[.int .i64 0, .int .i64 0], .int .i64 0], []⟩ 8 (by kernel_rfl) (by kernel_rfl) (by kernel_rfl) (by kernel_rfl)) ?_
  intro W base args ds gs before hval0 hW hcnd _
  have hval : ∀ (j : Nat) t v, Try.f6.params[j]? = some t → args[j]? = some v → Value.okWide Try.prog W .any base t v := hval0
  have hW' := hW
  obtain ⟨p, q, hA0, hV, rfl, hfz, hnd⟩ := hW
  have hA : DataW.TrodAll enc Try.prog W 0 (fun _ => true) true [33, 33, 3] args.toList ds p := hA0
  obtain ⟨v0, v1, v2, d0, d1, d2, p0, p1, p2, rfl, rfl, rfl, h0, h1, h2⟩ := trodAll_three hA
  obtain ⟨rfl, rfl⟩ := trodVars_none hV
  obtain ⟨c0, y0, rfl, w0⟩ := arg_struct Try.underlying33 exactRatios_o0 (hval 0 33 v0 rfl rfl) h0
  obtain ⟨c1, y1, rfl, w1⟩ := arg_struct Try.underlying33 exactRatios_o1 (hval 1 33 v1 rfl rfl) h1
  obtain ⟨x2, rfl, w2⟩ := arg_num Try.underlying3 exactRatios_o2 (hval 2 3 v2 rfl rfl) h2
  refine (ratiosR_any c0 y0 c1 y1 x2 W w0 w1 w2).mono fun e W' ⟨he, hb⟩ => ?_
  subst he
  simp only [List.append_nil] at hW'
  exact ⟨_, rfl, law_post_all prog_laid hW' rfl rfl Try.underlying4 rfl (by decide +kernel) hb⟩

theorem exactRatios_holds : Rows.ExactRatiosSaid :=
  OpenClaim.holds_of_wide (p := Try.pinned) (s := Rows.exactRatiosSpec) (c := Rows.exactRatiosRow) 6 Try.f6 rfl rfl rfl rfl rfl rfl rfl ⟨rfl, rfl, rfl, rfl, rfl⟩ rfl rfl rfl rfl rfl (by kernel_rfl) Try.func6 (by kernel_rfl)
    (of_decide_eq_true (by kernel_rfl)) (by unfold Func.isWrapper; first | (rw [if_pos (by decide +kernel)]; kernel_rfl) | (rw [if_neg (by decide +kernel)]; exact ⟨rfl, rfl⟩))
    (fun os started H enc _ => exactRatios_lifted os started H enc)
end Go.Proofs.Ytfegkaflemcanaa
