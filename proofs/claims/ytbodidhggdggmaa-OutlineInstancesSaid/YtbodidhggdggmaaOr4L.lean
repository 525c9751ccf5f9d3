/- Proved: OutlineInstances: Instance returns what the reference implementation returns, for made outlines and deltas, with any deltas after them, and at any position. No condition. -/
import Derived.Test.YtbodidhggdggmaaOpen
import Derived.Test.YtbodidhggdggmaaOr4
import Derived.ChangeMaps5
namespace Go.Proofs.Ytbodidhggdggmaa
open Go.ChangeShapes Go.WideShapes Go.ChangeAt Go.RowKit

theorem outlineInstances_o0 : Opens Try.prog 40 (Enc.pair (Enc.list (Enc.list Enc.int)) (Enc.pair (Enc.list (Enc.list Enc.int)) (Enc.list Enc.int))) := (opens_struct (by kernel_rfl) Try.underlying40 (opensF_cons rfl (opens_list (by kernel_rfl) Try.underlying23 (opens_list (by kernel_rfl) Try.underlying38 (opens_num (by kernel_rfl) Try.underlying3 (fun _ h => bounds_i64 h)) (by decide)) (by decide)) (opensF_cons rfl (opens_list (by kernel_rfl) Try.underlying23 (opens_list (by kernel_rfl) Try.underlying38 (opens_num (by kernel_rfl) Try.underlying3 (fun _ h => bounds_i64 h)) (by decide)) (by decide)) (opensF_one rfl (opens_list (by kernel_rfl) Try.underlying38 (opens_num (by kernel_rfl) Try.underlying3 (fun _ h => bounds_i64 h)) (by decide))))))
theorem outlineInstances_o1 : Opens Try.prog 41 (Enc.list (Enc.pair (Enc.list (Enc.pair Enc.int (Enc.pair Enc.int Enc.int))) (Enc.list (Enc.pair Enc.int Enc.int)))) := (opens_list (by kernel_rfl) Try.underlying41 (opens_struct (by kernel_rfl) Try.underlying48 (opensF_cons rfl (opens_list (by kernel_rfl) Try.underlying45 (opens_struct (by kernel_rfl) Try.underlying63 (opensF_cons rfl (opens_num (by kernel_rfl) Try.underlying3 (fun _ h => bounds_i64 h)) (opensF_cons rfl (opens_num (by kernel_rfl) Try.underlying3 (fun _ h => bounds_i64 h)) (opensF_one rfl (opens_num (by kernel_rfl) Try.underlying3 (fun _ h => bounds_i64 h)))))) (by decide)) (opensF_one rfl (opens_list (by kernel_rfl) Try.underlying46 (opens_struct (by kernel_rfl) Try.underlying65 (opensF_cons rfl (opens_num (by kernel_rfl) Try.underlying3 (fun _ h => bounds_i64 h)) (opensF_one rfl (opens_num (by kernel_rfl) Try.underlying3 (fun _ h => bounds_i64 h))))) (by decide))))) (by decide))
theorem outlineInstances_o2 : Opens Try.prog 38 (Enc.list Enc.int) := (opens_list (by kernel_rfl) Try.underlying38 (opens_num (by kernel_rfl) Try.underlying3 (fun _ h => bounds_i64 h)) (by decide))
set_option maxRecDepth 100000 in
theorem outlineInstances_lifted (os : Os) (started : os.Started) (H : Type) (enc : TypeId × Value → H) :
    ReturnsInHanded {} Try.checked os 4 .any (Rows.outlineInstancesSpec.pre6 enc Try.prog Try.f4 Rows.outlineInstancesRow.domain false) (Rows.outlineInstancesSpec.post enc Try.prog Try.f4 false true false false) := by
  refine returnsInHanded_of_change (C := Try.checked) prog_own started (by kernel_rfl) Try.func4
    (ChangeSpec.witness6 (enc := enc) (C := Try.checked) false ⟨#[], #[.agg #[.slice none 0 0, .slice none 0 0, .slice none 0 0], .slice none 0 0, .slice none 0 0], []⟩ 8 (by kernel_rfl) (by kernel_rfl) (by kernel_rfl) (by kernel_rfl)) ?_
  intro W base args ds gs before hval0 hW hcnd _
  have hval : ∀ (j : Nat) t v, Try.f4.params[j]? = some t → args[j]? = some v → Value.okWide Try.prog W .any base t v := hval0
  have hW' := hW
  obtain ⟨p, q, hA0, hV, rfl, hfz, hnd⟩ := hW
  have hA : DataW.TrodAll enc Try.prog W 0 (fun _ => true) true [40, 41, 38] args.toList ds p := hA0
  obtain ⟨v0, v1, v2, d0, d1, d2, p0, p1, p2, rfl, rfl, rfl, h0, h1, h2⟩ := trodAll_three hA
  obtain ⟨rfl, rfl⟩ := trodVars_none hV
  obtain ⟨c0, y0, rfl, w0⟩ := arg_struct Try.underlying40 outlineInstances_o0 (hval 0 40 v0 rfl rfl) h0
  obtain ⟨a1, n1, c1, l1, rfl, q1, r1, w1⟩ := arg_list Try.underlying41 outlineInstances_o1 (hval 1 41 v1 rfl rfl) h1
  obtain ⟨a2, n2, c2, l2, rfl, q2, r2, w2⟩ := arg_list Try.underlying38 outlineInstances_o2 (hval 2 38 v2 rfl rfl) h2
  refine (outlineInstances_any c0 y0 a1 n1 c1 l1 a2 n2 c2 l2 W w0 w1 q1 r1 w2 q2 r2).mono fun e W' ⟨he, hb⟩ => ?_
  subst he
  simp only [List.append_nil] at hW'
  exact ⟨_, rfl, law_post_all prog_laid hW' rfl rfl Try.underlying4 rfl (by decide +kernel) hb⟩

theorem outlineInstances_holds : Rows.OutlineInstancesSaid :=
  OpenClaim.holds_of_wide (p := Try.pinned) (s := Rows.outlineInstancesSpec) (c := Rows.outlineInstancesRow) 4 Try.f4 rfl rfl rfl rfl rfl rfl rfl ⟨rfl, rfl, rfl, rfl, rfl⟩ rfl rfl rfl rfl rfl (by kernel_rfl) Try.func4 (by kernel_rfl)
    (of_decide_eq_true (by kernel_rfl)) (by unfold Func.isWrapper; first | (rw [if_pos (by decide +kernel)]; kernel_rfl) | (rw [if_neg (by decide +kernel)]; exact ⟨rfl, rfl⟩))
    (fun os started H enc _ => outlineInstances_lifted os started H enc)
end Go.Proofs.Ytbodidhggdggmaa
