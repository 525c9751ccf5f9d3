/- Proved: WireInverse: decoding a concatenation of serializations in order returns the serialized values and leaves no bytes. No condition. -/
import Derived.Test.YtidbjccfkembeaaOpen
import Derived.Test.YtidbjccfkembeaaWi25
import Derived.ChangeMaps5
namespace Go.Proofs.Ytidbjccfkembeaa
open Go.ChangeShapes Go.WideShapes Go.ChangeAt Go.RowKit

theorem wireInverse_o0 : Opens Try.prog 43 (Enc.list (Enc.pair (Enc.num .u8 0 255) (Enc.pair Enc.int (Enc.pair Enc.str (Enc.pair (Enc.list Enc.int) (Enc.list Enc.str)))))) := (opens_list (by kernel_rfl) Try.underlying43 (opens_struct (by kernel_rfl) Try.underlying45 (opensF_cons rfl (opens_num (by kernel_rfl) Try.underlying5 (fun _ h => bounds_u8 h)) (opensF_cons rfl (opens_num (by kernel_rfl) Try.underlying3 (fun _ h => bounds_i64 h)) (opensF_cons rfl (opens_str (by kernel_rfl) Try.underlying9) (opensF_cons rfl (opens_list (by kernel_rfl) Try.underlying22 (opens_num (by kernel_rfl) Try.underlying3 (fun _ h => bounds_i64 h)) (by decide)) (opensF_one rfl (opens_list (by kernel_rfl) Try.underlying23 (opens_str (by kernel_rfl) Try.underlying9) (by decide)))))))) (by decide))
set_option maxRecDepth 100000 in
theorem wireInverse_lifted (os : Os) (started : os.Started) (H : Type) (enc : TypeId × Value → H) :
    ReturnsInHanded {} Try.checked os 5 .any (Rows.wireInverseSpec.pre6 enc Try.prog Try.f5 Rows.wireInverseRow.domain false) (Rows.wireInverseSpec.post enc Try.prog Try.f5 false true false false) := by
  refine returnsInHanded_of_change (C := Try.checked) prog_own started (by kernel_rfl) Try.func5
    (ChangeSpec.witness6 (enc := enc) (C := Try.checked) false ⟨#[], #[.slice none 0 0], []⟩ 8 (by kernel_rfl) (by kernel_rfl) (by kernel_rfl) (by kernel_rfl)) ?_
  intro W base args ds gs before hval0 hW hcnd _
  have hval : ∀ (j : Nat) t v, Try.f5.params[j]? = some t → args[j]? = some v → Value.okWide Try.prog W .any base t v := hval0
  have hW' := hW
  obtain ⟨p, q, hA0, hV, rfl, hfz, hnd⟩ := hW
  have hA : DataW.TrodAll enc Try.prog W 0 (fun _ => true) true [43] args.toList ds p := hA0
  obtain ⟨v0, d0, rfl, rfl, h0⟩ := trodAll_one hA
  obtain ⟨rfl, rfl⟩ := trodVars_none hV
  obtain ⟨a0, n0, c0, l0, rfl, q0, r0, w0⟩ := arg_list Try.underlying43 wireInverse_o0 (hval 0 43 v0 rfl rfl) h0
  refine (inverse_any a0 n0 c0 l0 W w0 q0 r0).mono fun e W' ⟨he, hb⟩ => ?_
  subst he
  simp only [List.append_nil] at hW'
  exact ⟨_, rfl, law_post_all prog_laid hW' rfl rfl Try.underlying4 rfl (by decide +kernel) hb⟩

theorem wireInverse_holds : Rows.WireInverseSaid :=
  OpenClaim.holds_of_wide (p := Try.pinned) (s := Rows.wireInverseSpec) (c := Rows.wireInverseRow) 5 Try.f5 rfl rfl rfl rfl rfl rfl rfl ⟨rfl, rfl, rfl, rfl, rfl⟩ rfl rfl rfl rfl rfl (by kernel_rfl) Try.func5 (by kernel_rfl)
    (of_decide_eq_true (by kernel_rfl)) (by unfold Func.isWrapper; first | (rw [if_pos (by decide +kernel)]; kernel_rfl) | (rw [if_neg (by decide +kernel)]; exact ⟨rfl, rfl⟩))
    (fun os started H enc _ => wireInverse_lifted os started H enc)
end Go.Proofs.Ytidbjccfkembeaa
