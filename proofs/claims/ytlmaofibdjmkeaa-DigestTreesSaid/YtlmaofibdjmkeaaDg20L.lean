/- Proved: DigestTrees: Root and Prove return what the reference implementation returns, for any list and index. No condition. -/
import Derived.Test.YtlmaofibdjmkeaaOpen
import Derived.Test.YtlmaofibdjmkeaaDg20
import Derived.ChangeMaps5
namespace Go.Proofs.Ytlmaofibdjmkeaa
open Go.ChangeShapes Go.WideShapes Go.ChangeAt Go.RowKit

theorem digestTrees_o0 : Opens Try.prog 28 (Enc.list Enc.str) := (opens_list (by kernel_rfl) Try.underlying28 (opens_str (by kernel_rfl) Try.underlying9) (by decide))
theorem digestTrees_o1 : Opens Try.prog 3 Enc.int := (opens_num (by kernel_rfl) Try.underlying3 (fun _ h => bounds_i64 h))
set_option maxRecDepth 100000 in
theorem digestTrees_lifted (os : Os) (started : os.Started) (H : Type) (enc : TypeId × Value → H) :
    ReturnsInHanded {} Try.checked os 6 .any (Rows.digestTreesSpec.pre6 enc Try.prog Try.f6 Rows.digestTreesRow.domain false) (Rows.digestTreesSpec.post enc Try.prog Try.f6 false true false false) := by
  refine returnsInHanded_of_change (C := Try.checked) prog_own started (by kernel_rfl) Try.func6
    (ChangeSpec.witness6 (enc := enc) (C := Try.checked) false ⟨#[], #[.slice none 0 0, .int .i64 0], []⟩ 8 (by kernel_rfl) (by kernel_rfl) (by kernel_rfl) (by kernel_rfl)) ?_
  intro W base args ds gs before hval0 hW hcnd _
  have hval : ∀ (j : Nat) t v, Try.f6.params[j]? = some t → args[j]? = some v → Value.okWide Try.prog W .any base t v := hval0
  have hW' := hW
  obtain ⟨p, q, hA0, hV, rfl, hfz, hnd⟩ := hW
  have hA : DataW.TrodAll enc Try.prog W 0 (fun _ => true) true [28, 3] args.toList ds p := hA0
  obtain ⟨v0, v1, d0, d1, p0, p1, rfl, rfl, rfl, h0, h1⟩ := trodAll_two hA
  obtain ⟨rfl, rfl⟩ := trodVars_none hV
  obtain ⟨a0, n0, c0, l0, rfl, q0, r0, w0⟩ := arg_list Try.underlying28 digestTrees_o0 (hval 0 28 v0 rfl rfl) h0
  obtain ⟨x1, rfl, w1⟩ := arg_num Try.underlying3 digestTrees_o1 (hval 1 3 v1 rfl rfl) h1
  refine (digestTrees_any a0 n0 c0 l0 x1 W w0 q0 r0 w1).mono fun e W' ⟨he, hb⟩ => ?_
  subst he
  simp only [List.append_nil] at hW'
  exact ⟨_, rfl, law_post_all prog_laid hW' rfl rfl Try.underlying4 rfl (by decide +kernel) hb⟩

theorem digestTrees_holds : Rows.DigestTreesSaid :=
  OpenClaim.holds_of_wide (p := Try.pinned) (s := Rows.digestTreesSpec) (c := Rows.digestTreesRow) 6 Try.f6 rfl rfl rfl rfl rfl rfl rfl ⟨rfl, rfl, rfl, rfl, rfl⟩ rfl rfl rfl rfl rfl (by kernel_rfl) Try.func6 (by kernel_rfl)
    (of_decide_eq_true (by kernel_rfl)) (by unfold Func.isWrapper; first | (rw [if_pos (by decide +kernel)]; kernel_rfl) | (rw [if_neg (by decide +kernel)]; exact ⟨rfl, rfl⟩))
    (fun os started H enc _ => digestTrees_lifted os started H enc)
end Go.Proofs.Ytlmaofibdjmkeaa
