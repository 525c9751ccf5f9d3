/- Proved: DigestMarks: Mark and Check return what the reference implementation returns, for marks, such with a byte that is changed, and any strings. No condition. -/
import Derived.Test.YtlmaofibdjmkeaaOpen
import Derived.Test.YtlmaofibdjmkeaaDg17
import Derived.ChangeMaps5
namespace Go.Proofs.Ytlmaofibdjmkeaa
open Go.ChangeShapes Go.WideShapes Go.ChangeAt Go.RowKit

theorem digestMarks_o0 : Opens Try.prog 9 Enc.str := (opens_str (by kernel_rfl) Try.underlying9)
theorem digestMarks_o1 : Opens Try.prog 9 Enc.str := (opens_str (by kernel_rfl) Try.underlying9)
theorem digestMarks_o2 : Opens Try.prog 27 (Enc.pair Enc.str (Enc.pair (Enc.num .u8 0 255) (Enc.num .u8 0 255))) := (opens_struct (by kernel_rfl) Try.underlying27 (opensF_cons rfl (opens_str (by kernel_rfl) Try.underlying9) (opensF_cons rfl (opens_num (by kernel_rfl) Try.underlying5 (fun _ h => bounds_u8 h)) (opensF_one rfl (opens_num (by kernel_rfl) Try.underlying5 (fun _ h => bounds_u8 h))))))
set_option maxRecDepth 100000 in
theorem digestMarks_lifted (os : Os) (started : os.Started) (H : Type) (enc : TypeId × Value → H) :
    ReturnsInHanded {} Try.checked os 4 .any (Rows.digestMarksSpec.pre6 enc Try.prog Try.f4 Rows.digestMarksRow.domain false) (Rows.digestMarksSpec.post enc Try.prog Try.f4 false true false false) := by
  refine returnsInHanded_of_change (C := Try.checked) prog_own started (by kernel_rfl) Try.func4
    (ChangeSpec.witness6 (enc := enc) (C := Try.checked) false ⟨#[], #[.string ⟨#[]⟩, .string ⟨#[]⟩, .agg #[.string ⟨#[]⟩, .int .u8 0, .int .u8 0]], []⟩ 8 (by kernel_rfl) (by kernel_rfl) (by kernel_rfl) (by kernel_rfl)) ?_
  intro W base args ds gs before hval0 hW hcnd _
  have hval : ∀ (j : Nat) t v, Try.f4.params[j]? = some t → args[j]? = some v → Value.okWide Try.prog W .any base t v := hval0
  have hW' := hW
  obtain ⟨p, q, hA0, hV, rfl, hfz, hnd⟩ := hW
  have hA : DataW.TrodAll enc Try.prog W 0 (fun _ => true) true [9, 9, 27] args.toList ds p := hA0
  obtain ⟨v0, v1, v2, d0, d1, d2, p0, p1, p2, rfl, rfl, rfl, h0, h1, h2⟩ := trodAll_three hA
  obtain ⟨rfl, rfl⟩ := trodVars_none hV
  obtain ⟨x0, rfl, w0⟩ := arg_str Try.underlying9 digestMarks_o0 (hval 0 9 v0 rfl rfl) h0
  obtain ⟨x1, rfl, w1⟩ := arg_str Try.underlying9 digestMarks_o1 (hval 1 9 v1 rfl rfl) h1
  obtain ⟨c2, y2, rfl, w2⟩ := arg_struct Try.underlying27 digestMarks_o2 (hval 2 27 v2 rfl rfl) h2
  refine (digestMarks_any x0 x1 c2 y2 W w0 w1 w2).mono fun e W' ⟨he, hb⟩ => ?_
  subst he
  simp only [List.append_nil] at hW'
  exact ⟨_, rfl, law_post_all prog_laid hW' rfl rfl Try.underlying4 rfl (by decide +kernel) hb⟩

theorem digestMarks_holds : Rows.DigestMarksSaid :=
  OpenClaim.holds_of_wide (p := Try.pinned) (s := Rows.digestMarksSpec) (c := Rows.digestMarksRow) 4 Try.f4 rfl rfl rfl rfl rfl rfl rfl ⟨rfl, rfl, rfl, rfl, rfl⟩ rfl rfl rfl rfl rfl (by kernel_rfl) Try.func4 (by kernel_rfl)
    (of_decide_eq_true (by kernel_rfl)) (by unfold Func.isWrapper; first | (rw [if_pos (by decide +kernel)]; kernel_rfl) | (rw [if_neg (by decide +kernel)]; exact ⟨rfl, rfl⟩))
    (fun os started H enc _ => digestMarks_lifted os started H enc)
end Go.Proofs.Ytlmaofibdjmkeaa
