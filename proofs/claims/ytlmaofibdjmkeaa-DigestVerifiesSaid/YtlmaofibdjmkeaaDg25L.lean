/- Proved: DigestVerifies: Verify returns what the reference implementation returns, for proofs, for such in which something is changed, and for any, with any list, indices, change and proof. No condition. -/
import Derived.Test.YtlmaofibdjmkeaaOpen
import Derived.Test.YtlmaofibdjmkeaaOpenA
import Derived.Test.YtlmaofibdjmkeaaDg25
import Derived.ChangeMaps5
namespace Go.Proofs.Ytlmaofibdjmkeaa
open Go.ChangeShapes Go.WideShapes Go.ChangeAt Go.RowKit

theorem digestVerifies_o0 : Opens Try.prog 28 (Enc.list Enc.str) := (opens_list (by kernel_rfl) Try.underlying28 (opens_str (by kernel_rfl) Try.underlying9) (by decide))
theorem digestVerifies_o1 : Opens Try.prog 41 (Enc.arr 2 (Enc.num .u8 0 255)) := (opens_array (by kernel_rfl) Try.underlying41 (opens_num (by kernel_rfl) Try.underlying5 (fun _ h => bounds_u8 h)))
theorem digestVerifies_o2 : Opens Try.prog 27 (Enc.pair Enc.str (Enc.pair (Enc.num .u8 0 255) (Enc.num .u8 0 255))) := (opens_struct (by kernel_rfl) Try.underlying27 (opensF_cons rfl (opens_str (by kernel_rfl) Try.underlying9) (opensF_cons rfl (opens_num (by kernel_rfl) Try.underlying5 (fun _ h => bounds_u8 h)) (opensF_one rfl (opens_num (by kernel_rfl) Try.underlying5 (fun _ h => bounds_u8 h))))))
theorem digestVerifies_o3 : Opens Try.prog 43 (Enc.pair (Enc.list Enc.str) Enc.int) := (opens_struct (by kernel_rfl) Try.underlying43 (opensF_cons rfl (opens_list (by kernel_rfl) Try.underlying28 (opens_str (by kernel_rfl) Try.underlying9) (by decide)) (opensF_one rfl (opens_num (by kernel_rfl) Try.underlying3 (fun _ h => bounds_i64 h)))))
set_option maxRecDepth 100000 in
theorem digestVerifies_lifted (os : Os) (started : os.Started) (H : Type) (enc : TypeId × Value → H) :
    ReturnsInHanded {} Try.checked os 7 .any (Rows.digestVerifiesSpec.pre6 enc Try.prog Try.f7 Rows.digestVerifiesRow.domain false) (Rows.digestVerifiesSpec.post enc Try.prog Try.f7 false true false false) := by
  refine returnsInHanded_of_change (C := Try.checked) prog_own started (by kernel_rfl) Try.func7
    (ChangeSpec.witness6 (enc := enc) (C := Try.checked) false ⟨#[], #[.slice none 0 0, .agg #[.int .u8 0, .int .u8 0], .agg #[.string ⟨#[]⟩, .int .u8 0, .int .u8 0], .agg #[.slice none 0 0, .int .i64 0]], []⟩ 8 (by kernel_rfl) (by kernel_rfl) (by kernel_rfl) (by kernel_rfl)) ?_
  intro W base args ds gs before hval0 hW hcnd _
  have hval : ∀ (j : Nat) t v, Try.f7.params[j]? = some t → args[j]? = some v → Value.okWide Try.prog W .any base t v := hval0
  have hW' := hW
  obtain ⟨p, q, hA0, hV, rfl, hfz, hnd⟩ := hW
  have hA : DataW.TrodAll enc Try.prog W 0 (fun _ => true) true [28, 41, 27, 43] args.toList ds p := hA0
  obtain ⟨v0, v1, v2, v3, d0, d1, d2, d3, p0, p1, p2, p3, rfl, rfl, rfl, h0, h1, h2, h3⟩ := trodAll_four hA
  obtain ⟨rfl, rfl⟩ := trodVars_none hV
  obtain ⟨a0, n0, c0, l0, rfl, q0, r0, w0⟩ := arg_list Try.underlying28 digestVerifies_o0 (hval 0 28 v0 rfl rfl) h0
  obtain ⟨c1, y1, rfl, w1⟩ := arg_arr Try.underlying41 digestVerifies_o1 (hval 1 41 v1 rfl rfl) h1
  obtain ⟨c2, y2, rfl, w2⟩ := arg_struct Try.underlying27 digestVerifies_o2 (hval 2 27 v2 rfl rfl) h2
  obtain ⟨c3, y3, rfl, w3⟩ := arg_struct Try.underlying43 digestVerifies_o3 (hval 3 43 v3 rfl rfl) h3
  refine (digestVerifies_any a0 n0 c0 l0 c1 y1 c2 y2 c3 y3 W w0 q0 r0 w1 w2 w3).mono fun e W' ⟨he, hb⟩ => ?_
  subst he
  simp only [List.append_nil] at hW'
  exact ⟨_, rfl, law_post_all prog_laid hW' rfl rfl Try.underlying4 rfl (by decide +kernel) hb⟩

theorem digestVerifies_holds : Rows.DigestVerifiesSaid :=
  OpenClaim.holds_of_wide (p := Try.pinned) (s := Rows.digestVerifiesSpec) (c := Rows.digestVerifiesRow) 7 Try.f7 rfl rfl rfl rfl rfl rfl rfl ⟨rfl, rfl, rfl, rfl, rfl⟩ rfl rfl rfl rfl rfl (by kernel_rfl) Try.func7 (by kernel_rfl)
    (of_decide_eq_true (by kernel_rfl)) (by unfold Func.isWrapper; first | (rw [if_pos (by decide +kernel)]; kernel_rfl) | (rw [if_neg (by decide +kernel)]; exact ⟨rfl, rfl⟩))
    (fun os started H enc _ => digestVerifies_lifted os started H enc)
end Go.Proofs.Ytlmaofibdjmkeaa
