/- Proved: KernWhole: at the size 64 the distance of two neighbours is the advance of the first one, their kerning and the space, together; the last glyph adds its advance and its space to the width. No condition. -/
import Derived.Test.YtbbbldaccpfooaaOpen
import Derived.Test.YtbbbldaccpfooaaKW
import Derived.ChangeMaps5
namespace Go.Proofs.Ytbbbldaccpfooaa
open Go.ChangeShapes Go.WideShapes Go.ChangeAt Go.RowKit

theorem kernWhole_o0 : Opens Try.prog 26 (Enc.pair (Enc.list (Enc.list Enc.int)) (Enc.pair (Enc.list (Enc.pair Enc.int (Enc.pair Enc.int Enc.int))) (Enc.pair (Enc.list Enc.int) (Enc.list Enc.int)))) := (opens_struct (by kernel_rfl) Try.underlying26 (opensF_cons rfl (opens_list (by kernel_rfl) Try.underlying22 (opens_list (by kernel_rfl) Try.underlying24 (opens_num (by kernel_rfl) Try.underlying3 (fun _ h => bounds_i64 h)) (by decide)) (by decide)) (opensF_cons rfl (opens_list (by kernel_rfl) Try.underlying23 (opens_struct (by kernel_rfl) Try.underlying53 (opensF_cons rfl (opens_num (by kernel_rfl) Try.underlying3 (fun _ h => bounds_i64 h)) (opensF_cons rfl (opens_num (by kernel_rfl) Try.underlying3 (fun _ h => bounds_i64 h)) (opensF_one rfl (opens_num (by kernel_rfl) Try.underlying3 (fun _ h => bounds_i64 h)))))) (by decide)) (opensF_cons rfl (opens_list (by kernel_rfl) Try.underlying24 (opens_num (by kernel_rfl) Try.underlying3 (fun _ h => bounds_i64 h)) (by decide)) (opensF_one rfl (opens_list (by kernel_rfl) Try.underlying24 (opens_num (by kernel_rfl) Try.underlying3 (fun _ h => bounds_i64 h)) (by decide)))))))
set_option maxRecDepth 100000 in
theorem kernWhole_lifted (os : Os) (started : os.Started) (H : Type) (enc : TypeId × Value → H) :
    ReturnsInHanded {} Try.checked os 5 .any (Rows.kernWholeSpec.pre6 enc Try.prog Try.f5 Rows.kernWholeRow.domain false) (Rows.kernWholeSpec.post enc Try.prog Try.f5 false true false false) := by
  refine returnsInHanded_of_change (C := Try.checked) prog_own started (by kernel_rfl) Try.func5
    (ChangeSpec.witness6 (enc := enc) (C := Try.checked) false ⟨#[], #[.agg #[.slice none 0 0, .slice none 0 0, .slice none 0 0, .slice none 0 0]], []⟩ 8 (by kernel_rfl) (by kernel_rfl) (by kernel_rfl) (by kernel_rfl)) ?_
  intro W base args ds gs before hval0 hW hcnd _
  have hval : ∀ (j : Nat) t v, Try.f5.params[j]? = some t → args[j]? = some v → Value.okWide Try.prog W .any base t v := hval0
  have hW' := hW
  obtain ⟨p, q, hA0, hV, rfl, hfz, hnd⟩ := hW
  have hA : DataW.TrodAll enc Try.prog W 0 (fun _ => true) true [26] args.toList ds p := hA0
  obtain ⟨v0, d0, rfl, rfl, h0⟩ := trodAll_one hA
  obtain ⟨rfl, rfl⟩ := trodVars_none hV
  obtain ⟨c0, y0, rfl, w0⟩ := arg_struct Try.underlying26 kernWhole_o0 (hval 0 26 v0 rfl rfl) h0
  refine (kernWhole_any c0 y0 W w0).mono fun e W' ⟨he, hb⟩ => ?_
  subst he
  simp only [List.append_nil] at hW'
  exact ⟨_, rfl, law_post_all prog_laid hW' rfl rfl Try.underlying4 rfl (by decide +kernel) hb⟩

theorem kernWhole_holds : Rows.KernWholeSaid :=
  OpenClaim.holds_of_wide (p := Try.pinned) (s := Rows.kernWholeSpec) (c := Rows.kernWholeRow) 5 Try.f5 rfl rfl rfl rfl rfl rfl rfl ⟨rfl, rfl, rfl, rfl, rfl⟩ rfl rfl rfl rfl rfl (by kernel_rfl) Try.func5 (by kernel_rfl)
    (of_decide_eq_true (by kernel_rfl)) (by unfold Func.isWrapper; first | (rw [if_pos (by decide +kernel)]; kernel_rfl) | (rw [if_neg (by decide +kernel)]; exact ⟨rfl, rfl⟩))
    (fun os started H enc _ => kernWhole_lifted os started H enc)
end Go.Proofs.Ytbbbldaccpfooaa
