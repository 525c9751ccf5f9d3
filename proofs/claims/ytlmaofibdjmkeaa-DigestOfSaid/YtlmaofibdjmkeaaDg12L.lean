/- Proved: DigestOf: Of and Chain return what the reference implementation returns, for any two strings. No condition. -/
import Derived.Test.YtlmaofibdjmkeaaOpen
import Derived.Test.YtlmaofibdjmkeaaDg12
import Derived.ChangeMaps5
namespace Go.Proofs.Ytlmaofibdjmkeaa
open Go.ChangeShapes Go.WideShapes Go.ChangeAt Go.RowKit

theorem digestOf_o0 : Opens Try.prog 9 Enc.str := (opens_str (by kernel_rfl) Try.underlying9)
theorem digestOf_o1 : Opens Try.prog 9 Enc.str := (opens_str (by kernel_rfl) Try.underlying9)
set_option maxRecDepth 100000 in
theorem digestOf_lifted (os : Os) (started : os.Started) (H : Type) (enc : TypeId × Value → H) :
    ReturnsInHanded {} Try.checked os 3 .any (Rows.digestOfSpec.pre6 enc Try.prog Try.f3 Rows.digestOfRow.domain false) (Rows.digestOfSpec.post enc Try.prog Try.f3 false true false false) := by
  refine returnsInHanded_of_change (C := Try.checked) prog_own started (by kernel_rfl) Try.func3
    (ChangeSpec.witness6 (enc := enc) (C := Try.checked) false ⟨#[], #[.string ⟨#[]⟩, .string ⟨#[]⟩], []⟩ 8 (by kernel_rfl) (by kernel_rfl) (by kernel_rfl) (by kernel_rfl)) ?_
  intro W base args ds gs before hval0 hW hcnd _
  have hval : ∀ (j : Nat) t v, Try.f3.params[j]? = some t → args[j]? = some v → Value.okWide Try.prog W .any base t v := hval0
  have hW' := hW
  obtain ⟨p, q, hA0, hV, rfl, hfz, hnd⟩ := hW
  have hA : DataW.TrodAll enc Try.prog W 0 (fun _ => true) true [9, 9] args.toList ds p := hA0
  obtain ⟨v0, v1, d0, d1, p0, p1, rfl, rfl, rfl, h0, h1⟩ := trodAll_two hA
  obtain ⟨rfl, rfl⟩ := trodVars_none hV
  obtain ⟨x0, rfl, w0⟩ := arg_str Try.underlying9 digestOf_o0 (hval 0 9 v0 rfl rfl) h0
  obtain ⟨x1, rfl, w1⟩ := arg_str Try.underlying9 digestOf_o1 (hval 1 9 v1 rfl rfl) h1
  refine (digestOf_any x0 x1 W w0 w1).mono fun e W' ⟨he, hb⟩ => ?_
  subst he
  simp only [List.append_nil] at hW'
  exact ⟨_, rfl, law_post_all prog_laid hW' rfl rfl Try.underlying4 rfl (by decide +kernel) hb⟩

theorem digestOf_holds : Rows.DigestOfSaid :=
  OpenClaim.holds_of_wide (p := Try.pinned) (s := Rows.digestOfSpec) (c := Rows.digestOfRow) 3 Try.f3 rfl rfl rfl rfl rfl rfl rfl ⟨rfl, rfl, rfl, rfl, rfl⟩ rfl rfl rfl rfl rfl (by kernel_rfl) Try.func3 (by kernel_rfl)
    (of_decide_eq_true (by kernel_rfl)) (by unfold Func.isWrapper; first | (rw [if_pos (by decide +kernel)]; kernel_rfl) | (rw [if_neg (by decide +kernel)]; exact ⟨rfl, rfl⟩))
    (fun os started H enc _ => digestOf_lifted os started H enc)
end Go.Proofs.Ytlmaofibdjmkeaa
