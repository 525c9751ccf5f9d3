/- Proved: DigestProves: a proof is accepted for its string and its index, and refused for others, unless what they lead to is equal all the same, for any list, indices and change. No condition. -/
import Derived.Test.YtlmaofibdjmkeaaOpen
import Derived.Test.YtlmaofibdjmkeaaOpenA
import Derived.Test.YtlmaofibdjmkeaaDg22
import Derived.ChangeMaps5
namespace Go.Proofs.Ytlmaofibdjmkeaa
open Go.ChangeShapes Go.WideShapes Go.ChangeAt Go.RowKit

theorem digestProves_o0 : Opens Try.prog 28 (Enc.list Enc.str) := (opens_list (by kernel_rfl) Try.underlying28 (opens_str (by kernel_rfl) Try.underlying9) (by decide))
theorem digestProves_o1 : Opens Try.prog 41 (Enc.arr 2 (Enc.num .u8 0 255)) := (opens_array (by kernel_rfl) Try.underlying41 (opens_num (by kernel_rfl) Try.underlying5 (fun _ h => bounds_u8 h)))
theorem digestProves_o2 : Opens Try.prog 27 (Enc.pair Enc.str (Enc.pair (Enc.num .u8 0 255) (Enc.num .u8 0 255))) := (opens_struct (by kernel_rfl) Try.underlying27 (opensF_cons rfl (opens_str (by kernel_rfl) Try.underlying9) (opensF_cons rfl (opens_num (by kernel_rfl) Try.underlying5 (fun _ h => bounds_u8 h)) (opensF_one rfl (opens_num (by kernel_rfl) Try.underlying5 (fun _ h => bounds_u8 h))))))
set_option maxRecDepth 100000 in
theorem digestProves_lifted (os : Os) (started : os.Started) (H : Type) (enc : TypeId × Value → H) :
    ReturnsInHanded {} Try.checked os 8 .any (Rows.digestProvesSpec.pre6 enc Try.prog Try.f8 Rows.digestProvesRow.domain false) (Rows.digestProvesSpec.post enc Try.prog Try.f8 false true false false) := by
  refine returnsInHanded_of_change (C := Try.checked) prog_own started (by kernel_rfl) Try.func8
    (ChangeSpec.witness6 (enc := enc) (C := Try.checked) false ⟨#[], #[.slice none 0 0, .agg #[.int .u8 0, .int .u8 0], .agg #[.string ⟨#[]⟩, .int .u8 0, .int .u8 0]], []⟩ 8 (by kernel_rfl) (by kernel_rfl) (by kernel_rfl) (by kernel_rfl)) ?_
  intro W base args ds gs before hval0 hW hcnd _
  have hval : ∀ (j : Nat) t v, Try.f8.params[j]? = some t → args[j]? = some v → Value.okWide Try.prog W .any base t v := hval0
  have hW' := hW
  obtain ⟨p, q, hA0, hV, rfl, hfz, hnd⟩ := hW
  have hA : DataW.TrodAll enc Try.prog W 0 (fun _ => true) true [28, 41, 27] args.toList ds p := hA0
  obtain ⟨v0, v1, v2, d0, d1, d2, p0, p1, p2, rfl, rfl, rfl, h0, h1, h2⟩ := trodAll_three hA
  obtain ⟨rfl, rfl⟩ := trodVars_none hV
  obtain ⟨a0, n0, c0, l0, rfl, q0, r0, w0⟩ := arg_list Try.underlying28 digestProves_o0 (hval 0 28 v0 rfl rfl) h0
  obtain ⟨c1, y1, rfl, w1⟩ := arg_arr Try.underlying41 digestProves_o1 (hval 1 41 v1 rfl rfl) h1
  obtain ⟨c2, y2, rfl, w2⟩ := arg_struct Try.underlying27 digestProves_o2 (hval 2 27 v2 rfl rfl) h2
  refine (digestProves_any a0 n0 c0 l0 c1 y1 c2 y2 W w0 q0 r0 w1 w2).mono fun e W' ⟨he, hb⟩ => ?_
  subst he
  simp only [List.append_nil] at hW'
  exact ⟨_, rfl, law_post_all prog_laid hW' rfl rfl Try.underlying4 rfl (by decide +kernel) hb⟩

theorem digestProves_holds : Rows.DigestProvesSaid :=
  OpenClaim.holds_of_wide (p := Try.pinned) (s := Rows.digestProvesSpec) (c := Rows.digestProvesRow) 8 Try.f8 rfl rfl rfl rfl rfl rfl rfl ⟨rfl, rfl, rfl, rfl, rfl⟩ rfl rfl rfl rfl rfl (by kernel_rfl) Try.func8 (by kernel_rfl)
    (of_decide_eq_true (by kernel_rfl)) (by unfold Func.isWrapper; first | (rw [if_pos (by decide +kernel)]; kernel_rfl) | (rw [if_neg (by decide +kernel)]; exact ⟨rfl, rfl⟩))
    (fun os started H enc _ => digestProves_lifted os started H enc)
end Go.Proofs.Ytlmaofibdjmkeaa
