/- Proved: OutlineFlats: the polygon of a contour has its points on the curve, in order, at 32 times the units, and, between them, curves whose points lie as those of quadratic curves; middles of points off the curve are on it; nothing lies outside of 32 times the box. No condition. -/
import Derived.Test.YtbodidhggdggmaaOpen
import Derived.Test.YtbodidhggdggmaaOpJ
import Derived.ChangeMaps5
namespace Go.Proofs.Ytbodidhggdggmaa
open Go.ChangeShapes Go.WideShapes Go.ChangeAt Go.RowKit

theorem outlineFlats_o0 : Opens Try.prog 23 (Enc.list (Enc.list Enc.int)) := (opens_list (by kernel_rfl) Try.underlying23 (opens_list (by kernel_rfl) Try.underlying38 (opens_num (by kernel_rfl) Try.underlying3 (fun _ h => bounds_i64 h)) (by decide)) (by decide))
set_option maxRecDepth 100000 in
theorem outlineFlats_lifted (os : Os) (started : os.Started) (H : Type) (enc : TypeId × Value → H) :
    ReturnsInHanded {} Try.checked os 5 .any (Rows.outlineFlatsSpec.pre6 enc Try.prog Try.f5 Rows.outlineFlatsRow.domain false) (Rows.outlineFlatsSpec.post enc Try.prog Try.f5 false true false false) := by
  refine returnsInHanded_of_change (C := Try.checked) prog_own started (by kernel_rfl) Try.func5
    (ChangeSpec.witness6 (enc := enc) (C := Try.checked) false ⟨#[], #[.slice none 0 0], []⟩ 8 (by kernel_rfl) (by kernel_rfl) (by kernel_rfl) (by kernel_rfl)) ?_
  intro W base args ds gs before hval0 hW hcnd _
  have hval : ∀ (j : Nat) t v, Try.f5.params[j]? = some t → args[j]? = some v → Value.okWide Try.prog W .any base t v := hval0
  have hW' := hW
  obtain ⟨p, q, hA0, hV, rfl, hfz, hnd⟩ := hW
  have hA : DataW.TrodAll enc Try.prog W 0 (fun _ => true) true [23] args.toList ds p := hA0
  obtain ⟨v0, d0, rfl, rfl, h0⟩ := trodAll_one hA
  obtain ⟨rfl, rfl⟩ := trodVars_none hV
  obtain ⟨a0, n0, c0, l0, rfl, q0, r0, w0⟩ := arg_list Try.underlying23 outlineFlats_o0 (hval 0 23 v0 rfl rfl) h0
  refine (outlineFlats_any a0 n0 c0 l0 W w0 q0 r0).mono fun e W' ⟨he, hb⟩ => ?_
  subst he
  simp only [List.append_nil] at hW'
  exact ⟨_, rfl, law_post_all prog_laid hW' rfl rfl Try.underlying4 rfl (by decide +kernel) hb⟩

theorem outlineFlats_holds : Rows.OutlineFlatsSaid :=
  OpenClaim.holds_of_wide (p := Try.pinned) (s := Rows.outlineFlatsSpec) (c := Rows.outlineFlatsRow) 5 Try.f5 rfl rfl rfl rfl rfl rfl rfl ⟨rfl, rfl, rfl, rfl, rfl⟩ rfl rfl rfl rfl rfl (by kernel_rfl) Try.func5 (by kernel_rfl)
    (of_decide_eq_true (by kernel_rfl)) (by unfold Func.isWrapper; first | (rw [if_pos (by decide +kernel)]; kernel_rfl) | (rw [if_neg (by decide +kernel)]; exact ⟨rfl, rfl⟩))
    (fun os started H enc _ => outlineFlats_lifted os started H enc)
end Go.Proofs.Ytbodidhggdggmaa
