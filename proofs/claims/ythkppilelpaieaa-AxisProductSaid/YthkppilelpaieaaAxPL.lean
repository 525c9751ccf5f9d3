/- Proved: AxisProduct: the value of a region of three tents is the product of those of its tents, in lowest terms, and missing positions count as 0. No condition. -/
import Derived.Test.YthkppilelpaieaaOpen
import Derived.Test.YthkppilelpaieaaOpenA
import Derived.Test.YthkppilelpaieaaAxP
import Derived.Test.YthkppilelpaieaaOpenA
import Derived.ChangeMaps5
namespace Go.Proofs.Ythkppilelpaieaa
open Go.ChangeShapes Go.WideShapes Go.ChangeAt Go.RowKit

theorem axisProduct_o0 : Opens Try.prog 22 (Enc.list Enc.int) := (opens_list (by kernel_rfl) Try.underlying22 (opens_num (by kernel_rfl) Try.underlying3 (fun _ h => bounds_i64 h)) (by decide))
theorem axisProduct_o1 : Opens Try.prog 54 (Enc.arr 3 (Enc.num .i16 (-32768) 32767)) := (opens_array (by kernel_rfl) Try.underlying54 (opens_num (by kernel_rfl) Try.underlying49 (fun _ h => bounds_i16 h)))
set_option maxRecDepth 100000 in
theorem axisProduct_lifted (os : Os) (started : os.Started) (H : Type) (enc : TypeId × Value → H) :
    ReturnsInHanded {} Try.checked os 8 .any (Rows.axisProductSpec.pre6 enc Try.prog Try.f8 Rows.axisProductRow.domain false) (Rows.axisProductSpec.post enc Try.prog Try.f8 false true false false) := by
  refine returnsInHanded_of_change (C := Try.checked) prog_own started (by kernel_rfl) Try.func8
    (ChangeSpec.witness6 (enc := enc) (C := Try.checked) false ⟨#[], #[.slice none 0 0, .agg #[.int .i16 0, .int .i16 0, .int .i16 0]], []⟩ 8 (by kernel_rfl) (by kernel_rfl) (by kernel_rfl) (by kernel_rfl)) ?_
  intro W base args ds gs before hval0 hW hcnd _
  have hval : ∀ (j : Nat) t v, Try.f8.params[j]? = some t → args[j]? = some v → Value.okWide Try.prog W .any base t v := hval0
  have hW' := hW
  obtain ⟨p, q, hA0, hV, rfl, hfz, hnd⟩ := hW
  have hA : DataW.TrodAll enc Try.prog W 0 (fun _ => true) true [22, 54] args.toList ds p := hA0
  obtain ⟨v0, v1, d0, d1, p0, p1, rfl, rfl, rfl, h0, h1⟩ := trodAll_two hA
  obtain ⟨rfl, rfl⟩ := trodVars_none hV
  obtain ⟨a0, n0, c0, l0, rfl, q0, r0, w0⟩ := arg_list Try.underlying22 axisProduct_o0 (hval 0 22 v0 rfl rfl) h0
  obtain ⟨c1, y1, rfl, w1⟩ := arg_arr Try.underlying54 axisProduct_o1 (hval 1 54 v1 rfl rfl) h1
  refine (axisProduct_any a0 n0 c0 l0 c1 y1 W w0 q0 r0 w1).mono fun e W' ⟨he, hb⟩ => ?_
  subst he
  simp only [List.append_nil] at hW'
  exact ⟨_, rfl, law_post_all prog_laid hW' rfl rfl Try.underlying4 rfl (by decide +kernel) hb⟩

theorem axisProduct_holds : Rows.AxisProductSaid :=
  OpenClaim.holds_of_wide (p := Try.pinned) (s := Rows.axisProductSpec) (c := Rows.axisProductRow) 8 Try.f8 rfl rfl rfl rfl rfl rfl rfl ⟨rfl, rfl, rfl, rfl, rfl⟩ rfl rfl rfl rfl rfl (by kernel_rfl) Try.func8 (by kernel_rfl)
    (of_decide_eq_true (by kernel_rfl)) (by unfold Func.isWrapper; first | (rw [if_pos (by decide +kernel)]; kernel_rfl) | (rw [if_neg (by decide +kernel)]; exact ⟨rfl, rfl⟩))
    (fun os started H enc _ => axisProduct_lifted os started H enc)
end Go.Proofs.Ythkppilelpaieaa
