/- Proved: OutlineStill: the order of deltas does not matter; where all of them have the value 0, nothing changes; a single one with the value 1 adds its moves. No condition. -/
import Derived.Test.YtbodidhggdggmaaOpen
import Derived.Test.YtbodidhggdggmaaOq6
import Derived.ChangeMaps5
namespace Go.Proofs.Ytbodidhggdggmaa
open Go.ChangeShapes Go.WideShapes Go.ChangeAt Go.RowKit

theorem outlineStill_o0 : Opens Try.prog 40 (Enc.pair (Enc.list (Enc.list Enc.int)) (Enc.pair (Enc.list (Enc.list Enc.int)) (Enc.list Enc.int))) := (opens_struct (by kernel_rfl) Try.underlying40 (opensF_cons rfl (opens_list (by kernel_rfl) Try.underlying23 (opens_list (by kernel_rfl) Try.underlying38 (opens_num (by kernel_rfl) Try.underlying3 (fun _ h => bounds_i64 h)) (by decide)) (by decide)) (opensF_cons rfl (opens_list (by kernel_rfl) Try.underlying23 (opens_list (by kernel_rfl) Try.underlying38 (opens_num (by kernel_rfl) Try.underlying3 (fun _ h => bounds_i64 h)) (by decide)) (by decide)) (opensF_one rfl (opens_list (by kernel_rfl) Try.underlying38 (opens_num (by kernel_rfl) Try.underlying3 (fun _ h => bounds_i64 h)) (by decide))))))
set_option maxRecDepth 100000 in
theorem outlineStill_lifted (os : Os) (started : os.Started) (H : Type) (enc : TypeId × Value → H) :
    ReturnsInHanded {} Try.checked os 6 .any (Rows.outlineStillSpec.pre6 enc Try.prog Try.f6 Rows.outlineStillRow.domain false) (Rows.outlineStillSpec.post enc Try.prog Try.f6 false true false false) := by
  refine returnsInHanded_of_change (C := Try.checked) prog_own started (by kernel_rfl) Try.func6
    (ChangeSpec.witness6 (enc := enc) (C := Try.checked) false ⟨#[], #[.agg #[.slice none 0 0, .slice none 0 0, .slice none 0 0]], []⟩ 8 (by kernel_rfl) (by kernel_rfl) (by kernel_rfl) (by kernel_rfl)) ?_
  intro W base args ds gs before hval0 hW hcnd _
  have hval : ∀ (j : Nat) t v, Try.f6.params[j]? = some t → args[j]? = some v → Value.okWide Try.prog W .any base t v := hval0
  have hW' := hW
  obtain ⟨p, q, hA0, hV, rfl, hfz, hnd⟩ := hW
  have hA : DataW.TrodAll enc Try.prog W 0 (fun _ => true) true [40] args.toList ds p := hA0
  obtain ⟨v0, d0, rfl, rfl, h0⟩ := trodAll_one hA
  obtain ⟨rfl, rfl⟩ := trodVars_none hV
  obtain ⟨c0, y0, rfl, w0⟩ := arg_struct Try.underlying40 outlineStill_o0 (hval 0 40 v0 rfl rfl) h0
  refine (outlineStill_any c0 y0 W w0).mono fun e W' ⟨he, hb⟩ => ?_
  subst he
  simp only [List.append_nil] at hW'
  exact ⟨_, rfl, law_post_all prog_laid hW' rfl rfl Try.underlying4 rfl (by decide +kernel) hb⟩

theorem outlineStill_holds : Rows.OutlineStillSaid :=
  OpenClaim.holds_of_wide (p := Try.pinned) (s := Rows.outlineStillSpec) (c := Rows.outlineStillRow) 6 Try.f6 rfl rfl rfl rfl rfl rfl rfl ⟨rfl, rfl, rfl, rfl, rfl⟩ rfl rfl rfl rfl rfl (by kernel_rfl) Try.func6 (by kernel_rfl)
    (of_decide_eq_true (by kernel_rfl)) (by unfold Func.isWrapper; first | (rw [if_pos (by decide +kernel)]; kernel_rfl) | (rw [if_neg (by decide +kernel)]; exact ⟨rfl, rfl⟩))
    (fun os started H enc _ => outlineStill_lifted os started H enc)
end Go.Proofs.Ytbodidhggdggmaa
