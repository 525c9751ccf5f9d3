/- Proved: OutlineShifts: shifting and scaling commute with Flat, and shifting with Instance. No condition. -/
import Derived.Test.YtbodidhggdggmaaOpen
import Derived.Test.YtbodidhggdggmaaOq4
import Derived.ChangeMaps5
namespace Go.Proofs.Ytbodidhggdggmaa
open Go.ChangeShapes Go.WideShapes Go.ChangeAt Go.RowKit

theorem outlineShifts_o0 : Opens Try.prog 22 (Enc.list (Enc.list (Enc.pair Enc.int (Enc.pair Enc.int Enc.bool)))) := (opens_list (by kernel_rfl) Try.underlying22 (opens_list (by kernel_rfl) Try.underlying54 (opens_struct (by kernel_rfl) Try.underlying56 (opensF_cons rfl (opens_num (by kernel_rfl) Try.underlying3 (fun _ h => bounds_i64 h)) (opensF_cons rfl (opens_num (by kernel_rfl) Try.underlying3 (fun _ h => bounds_i64 h)) (opensF_one rfl (opens_bool (by kernel_rfl) Try.underlying4))))) (by decide)) (by decide))
theorem outlineShifts_o1 : Opens Try.prog 40 (Enc.pair (Enc.list (Enc.list Enc.int)) (Enc.pair (Enc.list (Enc.list Enc.int)) (Enc.list Enc.int))) := (opens_struct (by kernel_rfl) Try.underlying40 (opensF_cons rfl (opens_list (by kernel_rfl) Try.underlying23 (opens_list (by kernel_rfl) Try.underlying38 (opens_num (by kernel_rfl) Try.underlying3 (fun _ h => bounds_i64 h)) (by decide)) (by decide)) (opensF_cons rfl (opens_list (by kernel_rfl) Try.underlying23 (opens_list (by kernel_rfl) Try.underlying38 (opens_num (by kernel_rfl) Try.underlying3 (fun _ h => bounds_i64 h)) (by decide)) (by decide)) (opensF_one rfl (opens_list (by kernel_rfl) Try.underlying38 (opens_num (by kernel_rfl) Try.underlying3 (fun _ h => bounds_i64 h)) (by decide))))))
theorem outlineShifts_o2 : Opens Try.prog 65 (Enc.pair Enc.int Enc.int) := (opens_struct (by kernel_rfl) Try.underlying65 (opensF_cons rfl (opens_num (by kernel_rfl) Try.underlying3 (fun _ h => bounds_i64 h)) (opensF_one rfl (opens_num (by kernel_rfl) Try.underlying3 (fun _ h => bounds_i64 h)))))
theorem outlineShifts_o3 : Opens Try.prog 3 Enc.int := (opens_num (by kernel_rfl) Try.underlying3 (fun _ h => bounds_i64 h))
set_option maxRecDepth 100000 in
theorem outlineShifts_lifted (os : Os) (started : os.Started) (H : Type) (enc : TypeId × Value → H) :
    ReturnsInHanded {} Try.checked os 8 .any (Rows.outlineShiftsSpec.pre6 enc Try.prog Try.f8 Rows.outlineShiftsRow.domain false) (Rows.outlineShiftsSpec.post enc Try.prog Try.f8 false true false false) := by
  refine returnsInHanded_of_change (C := Try.checked) prog_own started (by kernel_rfl) Try.func8
    (ChangeSpec.witness6 (enc := enc) (C := Try.checked) false ⟨#[], #[.slice none 0 0, .agg #[.slice none 0 0, .slice none 0 0, .slice none 0 0], .agg #[.int .i64 0, .int .i64 0], .int .i64 0], []⟩ 8 (by kernel_rfl) (by kernel_rfl) (by kernel_rfl) (by kernel_rfl)) ?_
  intro W base args ds gs before hval0 hW hcnd _
  have hval : ∀ (j : Nat) t v, Try.f8.params[j]? = some t → args[j]? = some v → Value.okWide Try.prog W .any base t v := hval0
  have hW' := hW
  obtain ⟨p, q, hA0, hV, rfl, hfz, hnd⟩ := hW
  have hA : DataW.TrodAll enc Try.prog W 0 (fun _ => true) true [22, 40, 65, 3] args.toList ds p := hA0
  obtain ⟨v0, v1, v2, v3, d0, d1, d2, d3, p0, p1, p2, p3, rfl, rfl, rfl, h0, h1, h2, h3⟩ := trodAll_four hA
  obtain ⟨rfl, rfl⟩ := trodVars_none hV
  obtain ⟨a0, n0, c0, l0, rfl, q0, r0, w0⟩ := arg_list Try.underlying22 outlineShifts_o0 (hval 0 22 v0 rfl rfl) h0
  obtain ⟨c1, y1, rfl, w1⟩ := arg_struct Try.underlying40 outlineShifts_o1 (hval 1 40 v1 rfl rfl) h1
  obtain ⟨c2, y2, rfl, w2⟩ := arg_struct Try.underlying65 outlineShifts_o2 (hval 2 65 v2 rfl rfl) h2
  obtain ⟨x3, rfl, w3⟩ := arg_num Try.underlying3 outlineShifts_o3 (hval 3 3 v3 rfl rfl) h3
  refine (outlineShifts_any a0 n0 c0 l0 c1 y1 c2 y2 x3 W w0 q0 r0 w1 w2 w3).mono fun e W' ⟨he, hb⟩ => ?_
  subst he
  simp only [List.append_nil] at hW'
  exact ⟨_, rfl, law_post_all prog_laid hW' rfl rfl Try.underlying4 rfl (by decide +kernel) hb⟩

theorem outlineShifts_holds : Rows.OutlineShiftsSaid :=
  OpenClaim.holds_of_wide (p := Try.pinned) (s := Rows.outlineShiftsSpec) (c := Rows.outlineShiftsRow) 8 Try.f8 rfl rfl rfl rfl rfl rfl rfl ⟨rfl, rfl, rfl, rfl, rfl⟩ rfl rfl rfl rfl rfl (by kernel_rfl) Try.func8 (by kernel_rfl)
    (of_decide_eq_true (by kernel_rfl)) (by unfold Func.isWrapper; first | (rw [if_pos (by decide +kernel)]; kernel_rfl) | (rw [if_neg (by decide +kernel)]; exact ⟨rfl, rfl⟩))
    (fun os started H enc _ => outlineShifts_lifted os started H enc)
end Go.Proofs.Ytbodidhggdggmaa
