/- Proved: WireNothing: a nil reader is bad, and a zero reader is one of the empty string. No condition. -/
import Derived.Test.YtidbjccfkembeaaOpen
import Derived.Test.YtidbjccfkembeaaWi17
import Derived.ChangeMaps5
namespace Go.Proofs.Ytidbjccfkembeaa
open Go.ChangeShapes Go.WideShapes Go.ChangeAt Go.RowKit

theorem wireNothing_o0 : Opens Try.prog 31 (Enc.list (Enc.num .u8 0 255)) := (opens_list (by kernel_rfl) Try.underlying31 (opens_num (by kernel_rfl) Try.underlying5 (fun _ h => bounds_u8 h)) (by decide))
set_option maxRecDepth 100000 in
theorem wireNothing_lifted (os : Os) (started : os.Started) (H : Type) (enc : TypeId × Value → H) :
    ReturnsInHanded {} Try.checked os 9 .any (Rows.wireNothingSpec.pre6 enc Try.prog Try.f9 Rows.wireNothingRow.domain false) (Rows.wireNothingSpec.post enc Try.prog Try.f9 false true false false) := by
  refine returnsInHanded_of_change (C := Try.checked) prog_own started (by kernel_rfl) Try.func9
    (ChangeSpec.witness6 (enc := enc) (C := Try.checked) false ⟨#[], #[.slice none 0 0], []⟩ 8 (by kernel_rfl) (by kernel_rfl) (by kernel_rfl) (by kernel_rfl)) ?_
  intro W base args ds gs before hval0 hW hcnd _
  have hval : ∀ (j : Nat) t v, Try.f9.params[j]? = some t → args[j]? = some v → Value.okWide Try.prog W .any base t v := hval0
  have hW' := hW
  obtain ⟨p, q, hA0, hV, rfl, hfz, hnd⟩ := hW
  have hA : DataW.TrodAll enc Try.prog W 0 (fun _ => true) true [31] args.toList ds p := hA0
  obtain ⟨v0, d0, rfl, rfl, h0⟩ := trodAll_one hA
  obtain ⟨rfl, rfl⟩ := trodVars_none hV
  obtain ⟨a0, n0, c0, l0, rfl, q0, r0, w0⟩ := arg_list Try.underlying31 wireNothing_o0 (hval 0 31 v0 rfl rfl) h0
  refine (nothing_any a0 n0 c0 l0 W w0 q0 r0).mono fun e W' ⟨he, hb⟩ => ?_
  subst he
  simp only [List.append_nil] at hW'
  exact ⟨_, rfl, law_post_all prog_laid hW' rfl rfl Try.underlying4 rfl (by decide +kernel) hb⟩

theorem wireNothing_holds : Rows.WireNothingSaid :=
  OpenClaim.holds_of_wide (p := Try.pinned) (s := Rows.wireNothingSpec) (c := Rows.wireNothingRow) 9 Try.f9 rfl rfl rfl rfl rfl rfl rfl ⟨rfl, rfl, rfl, rfl, rfl⟩ rfl rfl rfl rfl rfl (by kernel_rfl) Try.func9 (by kernel_rfl)
    (of_decide_eq_true (by kernel_rfl)) (by unfold Func.isWrapper; first | (rw [if_pos (by decide +kernel)]; kernel_rfl) | (rw [if_neg (by decide +kernel)]; exact ⟨rfl, rfl⟩))
    (fun os started H enc _ => wireNothing_lifted os started H enc)
end Go.Proofs.Ytidbjccfkembeaa
