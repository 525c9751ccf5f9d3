/- Proved: AxisInverse: on an axis of short sides User inverts Normal, and on one of long sides Normal inverts User. No condition. -/
import Derived.Test.YthkppilelpaieaaOpen
import Derived.Test.YthkppilelpaieaaAxI
import Derived.ChangeMaps5
namespace Go.Proofs.Ythkppilelpaieaa
open Go.ChangeShapes Go.WideShapes Go.ChangeAt Go.RowKit

theorem axisInverse_o0 : Opens Try.prog 48 (Enc.num .u16 0 65535) := (opens_num (by kernel_rfl) Try.underlying48 (fun _ h => bounds_u16 h))
theorem axisInverse_o1 : Opens Try.prog 5 (Enc.num .u8 0 255) := (opens_num (by kernel_rfl) Try.underlying5 (fun _ h => bounds_u8 h))
theorem axisInverse_o2 : Opens Try.prog 5 (Enc.num .u8 0 255) := (opens_num (by kernel_rfl) Try.underlying5 (fun _ h => bounds_u8 h))
theorem axisInverse_o3 : Opens Try.prog 49 (Enc.num .i16 (-32768) 32767) := (opens_num (by kernel_rfl) Try.underlying49 (fun _ h => bounds_i16 h))
set_option maxRecDepth 100000 in
theorem axisInverse_lifted (os : Os) (started : os.Started) (H : Type) (enc : TypeId × Value → H) :
    ReturnsInHanded {} Try.checked os 6 .any (Rows.axisInverseSpec.pre6 enc Try.prog Try.f6 Rows.axisInverseRow.domain false) (Rows.axisInverseSpec.post enc Try.prog Try.f6 false true false false) := by
  refine returnsInHanded_of_change (C := Try.checked) prog_own started (by kernel_rfl) Try.func6
    (ChangeSpec.witness6 (enc := enc) (C := Try.checked) false ⟨#[], #[.int .u16 0, .int .u8 0, .int .u8 0, .int .i16 0], []⟩ 8 (by kernel_rfl) (by kernel_rfl) (by kernel_rfl) (by kernel_rfl)) ?_
  intro W base args ds gs before hval0 hW hcnd _
  have hval : ∀ (j : Nat) t v, Try.f6.params[j]? = some t → args[j]? = some v → Value.okWide Try.prog W .any base t v := hval0
  have hW' := hW
  obtain ⟨p, q, hA0, hV, rfl, hfz, hnd⟩ := hW
  have hA : DataW.TrodAll enc Try.prog W 0 (fun _ => true) true [48, 5, 5, 49] args.toList ds p := hA0
  obtain ⟨v0, v1, v2, v3, d0, d1, d2, d3, p0, p1, p2, p3, rfl, rfl, rfl, h0, h1, h2, h3⟩ := trodAll_four hA
  obtain ⟨rfl, rfl⟩ := trodVars_none hV
  obtain ⟨x0, rfl, w0⟩ := arg_num Try.underlying48 axisInverse_o0 (hval 0 48 v0 rfl rfl) h0
  obtain ⟨x1, rfl, w1⟩ := arg_num Try.underlying5 axisInverse_o1 (hval 1 5 v1 rfl rfl) h1
  obtain ⟨x2, rfl, w2⟩ := arg_num Try.underlying5 axisInverse_o2 (hval 2 5 v2 rfl rfl) h2
  obtain ⟨x3, rfl, w3⟩ := arg_num Try.underlying49 axisInverse_o3 (hval 3 49 v3 rfl rfl) h3
  refine (axisInverse_any x0 x1 x2 x3 W w0 w1 w2 w3).mono fun e W' ⟨he, hb⟩ => ?_
  subst he
  simp only [List.append_nil] at hW'
  exact ⟨_, rfl, law_post_all prog_laid hW' rfl rfl Try.underlying4 rfl (by decide +kernel) hb⟩

theorem axisInverse_holds : Rows.AxisInverseSaid :=
  OpenClaim.holds_of_wide (p := Try.pinned) (s := Rows.axisInverseSpec) (c := Rows.axisInverseRow) 6 Try.f6 rfl rfl rfl rfl rfl rfl rfl ⟨rfl, rfl, rfl, rfl, rfl⟩ rfl rfl rfl rfl rfl (by kernel_rfl) Try.func6 (by kernel_rfl)
    (of_decide_eq_true (by kernel_rfl)) (by unfold Func.isWrapper; first | (rw [if_pos (by decide +kernel)]; kernel_rfl) | (rw [if_neg (by decide +kernel)]; exact ⟨rfl, rfl⟩))
    (fun os started H enc _ => axisInverse_lifted os started H enc)
end Go.Proofs.Ythkppilelpaieaa
