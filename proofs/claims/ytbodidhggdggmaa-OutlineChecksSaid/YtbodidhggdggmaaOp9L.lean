/- Proved: OutlineChecks: Check, Count, Box and Same return what the reference implementation returns, for any outlines, made ones, and such that are changed in one place. No condition. -/
import Derived.Test.YtbodidhggdggmaaOpen
import Derived.Test.YtbodidhggdggmaaOpA6
import Derived.Test.YtbodidhggdggmaaOp9
import Derived.ChangeMaps5
namespace Go.Proofs.Ytbodidhggdggmaa
open Go.ChangeShapes Go.WideShapes Go.ChangeAt Go.RowKit

theorem outlineChecks_o0 : Opens Try.prog 22 (Enc.list (Enc.list (Enc.pair Enc.int (Enc.pair Enc.int Enc.bool)))) := (opens_list (by kernel_rfl) Try.underlying22 (opens_list (by kernel_rfl) Try.underlying54 (opens_struct (by kernel_rfl) Try.underlying56 (opensF_cons rfl (opens_num (by kernel_rfl) Try.underlying3 (fun _ h => bounds_i64 h)) (opensF_cons rfl (opens_num (by kernel_rfl) Try.underlying3 (fun _ h => bounds_i64 h)) (opensF_one rfl (opens_bool (by kernel_rfl) Try.underlying4))))) (by decide)) (by decide))
theorem outlineChecks_o1 : Opens Try.prog 23 (Enc.list (Enc.list Enc.int)) := (opens_list (by kernel_rfl) Try.underlying23 (opens_list (by kernel_rfl) Try.underlying38 (opens_num (by kernel_rfl) Try.underlying3 (fun _ h => bounds_i64 h)) (by decide)) (by decide))
theorem outlineChecks_o2 : Opens Try.prog 24 (Enc.arr 3 Enc.int) := (opens_array (by kernel_rfl) Try.underlying24 (opens_num (by kernel_rfl) Try.underlying3 (fun _ h => bounds_i64 h)))
set_option maxRecDepth 100000 in
theorem outlineChecks_lifted (os : Os) (started : os.Started) (H : Type) (enc : TypeId × Value → H) :
    ReturnsInHanded {} Try.checked os 3 .any (Rows.outlineChecksSpec.pre6 enc Try.prog Try.f3 Rows.outlineChecksRow.domain false) (Rows.outlineChecksSpec.post enc Try.prog Try.f3 false true false false) := by
  refine returnsInHanded_of_change (C := Try.checked) prog_own started (by kernel_rfl) Try.func3
    (ChangeSpec.witness6 (enc := enc) (C := Try.checked) false ⟨#[], #[.slice none 0 0, .slice none 0 0, .agg #[.int .i64 0, .int .i64 0, .int .i64 0]], []⟩ 8 (by kernel_rfl) (by kernel_rfl) (by kernel_rfl) (by kernel_rfl)) ?_
  intro W base args ds gs before hval0 hW hcnd _
  have hval : ∀ (j : Nat) t v, Try.f3.params[j]? = some t → args[j]? = some v → Value.okWide Try.prog W .any base t v := hval0
  have hW' := hW
  obtain ⟨p, q, hA0, hV, rfl, hfz, hnd⟩ := hW
  have hA : DataW.TrodAll enc Try.prog W 0 (fun _ => true) true [22, 23, 24] args.toList ds p := hA0
  obtain ⟨v0, v1, v2, d0, d1, d2, p0, p1, p2, rfl, rfl, rfl, h0, h1, h2⟩ := trodAll_three hA
  obtain ⟨rfl, rfl⟩ := trodVars_none hV
  obtain ⟨a0, n0, c0, l0, rfl, q0, r0, w0⟩ := arg_list Try.underlying22 outlineChecks_o0 (hval 0 22 v0 rfl rfl) h0
  obtain ⟨a1, n1, c1, l1, rfl, q1, r1, w1⟩ := arg_list Try.underlying23 outlineChecks_o1 (hval 1 23 v1 rfl rfl) h1
  obtain ⟨c2, y2, rfl, w2⟩ := arg_arr Try.underlying24 outlineChecks_o2 (hval 2 24 v2 rfl rfl) h2
  refine (outlineChecks_any a0 n0 c0 l0 a1 n1 c1 l1 c2 y2 W w0 q0 r0 w1 q1 r1 w2).mono fun e W' ⟨he, hb⟩ => ?_
  subst he
  simp only [List.append_nil] at hW'
  exact ⟨_, rfl, law_post_all prog_laid hW' rfl rfl Try.underlying4 rfl (by decide +kernel) hb⟩

theorem outlineChecks_holds : Rows.OutlineChecksSaid :=
  OpenClaim.holds_of_wide (p := Try.pinned) (s := Rows.outlineChecksSpec) (c := Rows.outlineChecksRow) 3 Try.f3 rfl rfl rfl rfl rfl rfl rfl ⟨rfl, rfl, rfl, rfl, rfl⟩ rfl rfl rfl rfl rfl (by kernel_rfl) Try.func3 (by kernel_rfl)
    (of_decide_eq_true (by kernel_rfl)) (by unfold Func.isWrapper; first | (rw [if_pos (by decide +kernel)]; kernel_rfl) | (rw [if_neg (by decide +kernel)]; exact ⟨rfl, rfl⟩))
    (fun os started H enc _ => outlineChecks_lifted os started H enc)
end Go.Proofs.Ytbodidhggdggmaa
