/- Proved: AxisMonotone: on each made axis Normal is monotone, -64 at Low and 64 at High, if these are not Usual, 0 at Usual, and does not change beyond the ends. No condition. -/
import Derived.Test.YthkppilelpaieaaOpen
import Derived.Test.YthkppilelpaieaaAxM
import Derived.ChangeMaps5
namespace Go.Proofs.Ythkppilelpaieaa
open Go.ChangeShapes Go.WideShapes Go.ChangeAt Go.RowKit

theorem axisMonotone_o0 : Opens Try.prog 22 (Enc.list Enc.int) := (opens_list (by kernel_rfl) Try.underlying22 (opens_num (by kernel_rfl) Try.underlying3 (fun _ h => bounds_i64 h)) (by decide))
theorem axisMonotone_o1 : Opens Try.prog 3 Enc.int := (opens_num (by kernel_rfl) Try.underlying3 (fun _ h => bounds_i64 h))
theorem axisMonotone_o2 : Opens Try.prog 3 Enc.int := (opens_num (by kernel_rfl) Try.underlying3 (fun _ h => bounds_i64 h))
set_option maxRecDepth 100000 in
theorem axisMonotone_lifted (os : Os) (started : os.Started) (H : Type) (enc : TypeId × Value → H) :
    ReturnsInHanded {} Try.checked os 5 .any (Rows.axisMonotoneSpec.pre6 enc Try.prog Try.f5 Rows.axisMonotoneRow.domain false) (Rows.axisMonotoneSpec.post enc Try.prog Try.f5 false true false false) := by
  refine returnsInHanded_of_change (C := Try.checked) prog_own started (by kernel_rfl) Try.func5
    (ChangeSpec.witness6 (enc := enc) (C := Try.checked) false ⟨#[], #[.slice none 0 0, .int .i64 0, .int .i64 0], []⟩ 8 (by kernel_rfl) (by kernel_rfl) (by kernel_rfl) (by kernel_rfl)) ?_
  intro W base args ds gs before hval0 hW hcnd _
  have hval : ∀ (j : Nat) t v, Try.f5.params[j]? = some t → args[j]? = some v → Value.okWide Try.prog W .any base t v := hval0
  have hW' := hW
  obtain ⟨p, q, hA0, hV, rfl, hfz, hnd⟩ := hW
  have hA : DataW.TrodAll enc Try.prog W 0 (fun _ => true) true [22, 3, 3] args.toList ds p := hA0
  obtain ⟨v0, v1, v2, d0, d1, d2, p0, p1, p2, rfl, rfl, rfl, h0, h1, h2⟩ := trodAll_three hA
  obtain ⟨rfl, rfl⟩ := trodVars_none hV
  obtain ⟨a0, n0, c0, l0, rfl, q0, r0, w0⟩ := arg_list Try.underlying22 axisMonotone_o0 (hval 0 22 v0 rfl rfl) h0
  obtain ⟨x1, rfl, w1⟩ := arg_num Try.underlying3 axisMonotone_o1 (hval 1 3 v1 rfl rfl) h1
  obtain ⟨x2, rfl, w2⟩ := arg_num Try.underlying3 axisMonotone_o2 (hval 2 3 v2 rfl rfl) h2
  refine (axisMonotone_any a0 n0 c0 l0 x1 x2 W w0 q0 r0 w1 w2).mono fun e W' ⟨he, hb⟩ => ?_
  subst he
  simp only [List.append_nil] at hW'
  exact ⟨_, rfl, law_post_all prog_laid hW' rfl rfl Try.underlying4 rfl (by decide +kernel) hb⟩

theorem axisMonotone_holds : Rows.AxisMonotoneSaid :=
  OpenClaim.holds_of_wide (p := Try.pinned) (s := Rows.axisMonotoneSpec) (c := Rows.axisMonotoneRow) 5 Try.f5 rfl rfl rfl rfl rfl rfl rfl ⟨rfl, rfl, rfl, rfl, rfl⟩ rfl rfl rfl rfl rfl (by kernel_rfl) Try.func5 (by kernel_rfl)
    (of_decide_eq_true (by kernel_rfl)) (by unfold Func.isWrapper; first | (rw [if_pos (by decide +kernel)]; kernel_rfl) | (rw [if_neg (by decide +kernel)]; exact ⟨rfl, rfl⟩))
    (fun os started H enc _ => axisMonotone_lifted os started H enc)
end Go.Proofs.Ythkppilelpaieaa
