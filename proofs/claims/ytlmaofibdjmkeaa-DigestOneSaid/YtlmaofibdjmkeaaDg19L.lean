/- Proved: DigestOne: a string in which one byte is another one has another digest, by Of, Chain, Mark and Root, for any string, place and byte. No condition. -/
import Derived.Test.YtlmaofibdjmkeaaOpen
import Derived.Test.YtlmaofibdjmkeaaDg19
import Derived.ChangeMaps5
namespace Go.Proofs.Ytlmaofibdjmkeaa
open Go.ChangeShapes Go.WideShapes Go.ChangeAt Go.RowKit

theorem digestOne_o0 : Opens Try.prog 9 Enc.str := (opens_str (by kernel_rfl) Try.underlying9)
theorem digestOne_o1 : Opens Try.prog 31 (Enc.num .u16 0 65535) := (opens_num (by kernel_rfl) Try.underlying31 (fun _ h => bounds_u16 h))
theorem digestOne_o2 : Opens Try.prog 5 (Enc.num .u8 0 255) := (opens_num (by kernel_rfl) Try.underlying5 (fun _ h => bounds_u8 h))
set_option maxRecDepth 100000 in
theorem digestOne_lifted (os : Os) (started : os.Started) (H : Type) (enc : TypeId × Value → H) :
    ReturnsInHanded {} Try.checked os 5 .any (Rows.digestOneSpec.pre6 enc Try.prog Try.f5 Rows.digestOneRow.domain false) (Rows.digestOneSpec.post enc Try.prog Try.f5 false true false false) := by
  refine returnsInHanded_of_change (C := Try.checked) prog_own started (by kernel_rfl) Try.func5
    (ChangeSpec.witness6 (enc := enc) (C := Try.checked) false ⟨#[], #[.string ⟨#[]⟩, .int .u16 0, .int .u8 0], []⟩ 8 (by kernel_rfl) (by kernel_rfl) (by kernel_rfl) (by kernel_rfl)) ?_
  intro W base args ds gs before hval0 hW hcnd _
  have hval : ∀ (j : Nat) t v, Try.f5.params[j]? = some t → args[j]? = some v → Value.okWide Try.prog W .any base t v := hval0
  have hW' := hW
  obtain ⟨p, q, hA0, hV, rfl, hfz, hnd⟩ := hW
  have hA : DataW.TrodAll enc Try.prog W 0 (fun _ => true) true [9, 31, 5] args.toList ds p := hA0
  obtain ⟨v0, v1, v2, d0, d1, d2, p0, p1, p2, rfl, rfl, rfl, h0, h1, h2⟩ := trodAll_three hA
  obtain ⟨rfl, rfl⟩ := trodVars_none hV
  obtain ⟨x0, rfl, w0⟩ := arg_str Try.underlying9 digestOne_o0 (hval 0 9 v0 rfl rfl) h0
  obtain ⟨x1, rfl, w1⟩ := arg_num Try.underlying31 digestOne_o1 (hval 1 31 v1 rfl rfl) h1
  obtain ⟨x2, rfl, w2⟩ := arg_num Try.underlying5 digestOne_o2 (hval 2 5 v2 rfl rfl) h2
  refine (digestOne_any x0 x1 x2 W w0 w1 w2).mono fun e W' ⟨he, hb⟩ => ?_
  subst he
  simp only [List.append_nil] at hW'
  exact ⟨_, rfl, law_post_all prog_laid hW' rfl rfl Try.underlying4 rfl (by decide +kernel) hb⟩

theorem digestOne_holds : Rows.DigestOneSaid :=
  OpenClaim.holds_of_wide (p := Try.pinned) (s := Rows.digestOneSpec) (c := Rows.digestOneRow) 5 Try.f5 rfl rfl rfl rfl rfl rfl rfl ⟨rfl, rfl, rfl, rfl, rfl⟩ rfl rfl rfl rfl rfl (by kernel_rfl) Try.func5 (by kernel_rfl)
    (of_decide_eq_true (by kernel_rfl)) (by unfold Func.isWrapper; first | (rw [if_pos (by decide +kernel)]; kernel_rfl) | (rw [if_neg (by decide +kernel)]; exact ⟨rfl, rfl⟩))
    (fun os started H enc _ => digestOne_lifted os started H enc)
end Go.Proofs.Ytlmaofibdjmkeaa
