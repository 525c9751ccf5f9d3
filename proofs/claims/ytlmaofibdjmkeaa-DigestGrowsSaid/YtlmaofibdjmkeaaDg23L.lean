/- Proved: DigestGrows: if a list gets one string more, and has not more levels by that, proofs of its strings differ in at most one element, and have as many; with more levels, all elements stay, and one comes after them, for any list, string and index. No condition. -/
import Derived.Test.YtlmaofibdjmkeaaOpen
import Derived.Test.YtlmaofibdjmkeaaDg23
import Derived.ChangeMaps5
namespace Go.Proofs.Ytlmaofibdjmkeaa
open Go.ChangeShapes Go.WideShapes Go.ChangeAt Go.RowKit

theorem digestGrows_o0 : Opens Try.prog 28 (Enc.list Enc.str) := (opens_list (by kernel_rfl) Try.underlying28 (opens_str (by kernel_rfl) Try.underlying9) (by decide))
theorem digestGrows_o1 : Opens Try.prog 9 Enc.str := (opens_str (by kernel_rfl) Try.underlying9)
theorem digestGrows_o2 : Opens Try.prog 5 (Enc.num .u8 0 255) := (opens_num (by kernel_rfl) Try.underlying5 (fun _ h => bounds_u8 h))
set_option maxRecDepth 100000 in
theorem digestGrows_lifted (os : Os) (started : os.Started) (H : Type) (enc : TypeId × Value → H) :
    ReturnsInHanded {} Try.checked os 9 .any (Rows.digestGrowsSpec.pre6 enc Try.prog Try.f9 Rows.digestGrowsRow.domain false) (Rows.digestGrowsSpec.post enc Try.prog Try.f9 false true false false) := by
  refine returnsInHanded_of_change (C := Try.checked) prog_own started (by kernel_rfl) Try.func9
    (ChangeSpec.witness6 (enc := enc) (C := Try.checked) false ⟨#[], #[.slice none 0 0, .string ⟨#[]⟩, .int .u8 0], []⟩ 8 (by kernel_rfl) (by kernel_rfl) (by kernel_rfl) (by kernel_rfl)) ?_
  intro W base args ds gs before hval0 hW hcnd _
  have hval : ∀ (j : Nat) t v, Try.f9.params[j]? = some t → args[j]? = some v → Value.okWide Try.prog W .any base t v := hval0
  have hW' := hW
  obtain ⟨p, q, hA0, hV, rfl, hfz, hnd⟩ := hW
  have hA : DataW.TrodAll enc Try.prog W 0 (fun _ => true) true [28, 9, 5] args.toList ds p := hA0
  obtain ⟨v0, v1, v2, d0, d1, d2, p0, p1, p2, rfl, rfl, rfl, h0, h1, h2⟩ := trodAll_three hA
  obtain ⟨rfl, rfl⟩ := trodVars_none hV
  obtain ⟨a0, n0, c0, l0, rfl, q0, r0, w0⟩ := arg_list Try.underlying28 digestGrows_o0 (hval 0 28 v0 rfl rfl) h0
  obtain ⟨x1, rfl, w1⟩ := arg_str Try.underlying9 digestGrows_o1 (hval 1 9 v1 rfl rfl) h1
  obtain ⟨x2, rfl, w2⟩ := arg_num Try.underlying5 digestGrows_o2 (hval 2 5 v2 rfl rfl) h2
  refine (digestGrows_any a0 n0 c0 l0 x1 x2 W w0 q0 r0 w1 w2).mono fun e W' ⟨he, hb⟩ => ?_
  subst he
  simp only [List.append_nil] at hW'
  exact ⟨_, rfl, law_post_all prog_laid hW' rfl rfl Try.underlying4 rfl (by decide +kernel) hb⟩

theorem digestGrows_holds : Rows.DigestGrowsSaid :=
  OpenClaim.holds_of_wide (p := Try.pinned) (s := Rows.digestGrowsSpec) (c := Rows.digestGrowsRow) 9 Try.f9 rfl rfl rfl rfl rfl rfl rfl ⟨rfl, rfl, rfl, rfl, rfl⟩ rfl rfl rfl rfl rfl (by kernel_rfl) Try.func9 (by kernel_rfl)
    (of_decide_eq_true (by kernel_rfl)) (by unfold Func.isWrapper; first | (rw [if_pos (by decide +kernel)]; kernel_rfl) | (rw [if_neg (by decide +kernel)]; exact ⟨rfl, rfl⟩))
    (fun os started H enc _ => digestGrows_lifted os started H enc)
end Go.Proofs.Ytlmaofibdjmkeaa
