/- Proved: StreamChains: two lists of lookups, one after the other, do what the second one does with the results of the first one. No condition. -/
import Derived.Test.YtfbgbbbfpkpfkaaOpen
import Derived.Test.YtfbgbbbfpkpfkaaTrC
import Derived.ChangeMaps5
namespace Go.Proofs.Ytfbgbbbfpkpfkaa
open Go.ChangeShapes Go.WideShapes Go.ChangeAt Go.RowKit

theorem streamChains_o0 : Opens Try.prog 22 (Enc.list Enc.int) := (opens_list (by kernel_rfl) Try.underlying22 (opens_num (by kernel_rfl) Try.underlying3 (fun _ h => bounds_i64 h)) (by decide))
theorem streamChains_o1 : Opens Try.prog 22 (Enc.list Enc.int) := (opens_list (by kernel_rfl) Try.underlying22 (opens_num (by kernel_rfl) Try.underlying3 (fun _ h => bounds_i64 h)) (by decide))
theorem streamChains_o2 : Opens Try.prog 22 (Enc.list Enc.int) := (opens_list (by kernel_rfl) Try.underlying22 (opens_num (by kernel_rfl) Try.underlying3 (fun _ h => bounds_i64 h)) (by decide))
set_option maxRecDepth 100000 in
theorem streamChains_lifted (os : Os) (started : os.Started) (H : Type) (enc : TypeId × Value → H) :
    ReturnsInHanded {} Try.checked os 4 .any (Rows.streamChainsSpec.pre6 enc Try.prog Try.f4 Rows.streamChainsRow.domain false) (Rows.streamChainsSpec.post enc Try.prog Try.f4 false true false false) := by
  refine returnsInHanded_of_change (C := Try.checked) prog_own started (by kernel_rfl) Try.func4
    (ChangeSpec.witness6 (enc := enc) (C := Try.checked) false ⟨#[], #[.slice none 0 0, .slice none 0 0, .slice none 0 0], []⟩ 8 (by kernel_rfl) (by kernel_rfl) (by kernel_rfl) (by kernel_rfl)) ?_
  intro W base args ds gs before hval0 hW hcnd _
  have hval : ∀ (j : Nat) t v, Try.f4.params[j]? = some t → args[j]? = some v → Value.okWide Try.prog W .any base t v := hval0
  have hW' := hW
  obtain ⟨p, q, hA0, hV, rfl, hfz, hnd⟩ := hW
  have hA : DataW.TrodAll enc Try.prog W 0 (fun _ => true) true [22, 22, 22] args.toList ds p := hA0
  obtain ⟨v0, v1, v2, d0, d1, d2, p0, p1, p2, rfl, rfl, rfl, h0, h1, h2⟩ := trodAll_three hA
  obtain ⟨rfl, rfl⟩ := trodVars_none hV
  obtain ⟨a0, n0, c0, l0, rfl, q0, r0, w0⟩ := arg_list Try.underlying22 streamChains_o0 (hval 0 22 v0 rfl rfl) h0
  obtain ⟨a1, n1, c1, l1, rfl, q1, r1, w1⟩ := arg_list Try.underlying22 streamChains_o1 (hval 1 22 v1 rfl rfl) h1
  obtain ⟨a2, n2, c2, l2, rfl, q2, r2, w2⟩ := arg_list Try.underlying22 streamChains_o2 (hval 2 22 v2 rfl rfl) h2
  refine (streamChains_any a0 n0 c0 l0 a1 n1 c1 l1 a2 n2 c2 l2 W w0 q0 r0 w1 q1 r1 w2 q2 r2).mono fun e W' ⟨he, hb⟩ => ?_
  subst he
  simp only [List.append_nil] at hW'
  exact ⟨_, rfl, law_post_all prog_laid hW' rfl rfl Try.underlying4 rfl (by decide +kernel) hb⟩

theorem streamChains_holds : Rows.StreamChainsSaid :=
  OpenClaim.holds_of_wide (p := Try.pinned) (s := Rows.streamChainsSpec) (c := Rows.streamChainsRow) 4 Try.f4 rfl rfl rfl rfl rfl rfl rfl ⟨rfl, rfl, rfl, rfl, rfl⟩ rfl rfl rfl rfl rfl (by kernel_rfl) Try.func4 (by kernel_rfl)
    (of_decide_eq_true (by kernel_rfl)) (by unfold Func.isWrapper; first | (rw [if_pos (by decide +kernel)]; kernel_rfl) | (rw [if_neg (by decide +kernel)]; exact ⟨rfl, rfl⟩))
    (fun os started H enc _ => streamChains_lifted os started H enc)
end Go.Proofs.Ytfbgbbbfpkpfkaa
