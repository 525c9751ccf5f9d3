/- Proved: StreamKeys: two states have equal keys exactly if they are equal, and from equal states on the results are equal; Feed and End do not change their argument. No condition. -/
import Derived.Test.YtfbgbbbfpkpfkaaOpen
import Derived.Test.YtfbgbbbfpkpfkaaTrK
import Derived.ChangeMaps5
namespace Go.Proofs.Ytfbgbbbfpkpfkaa
open Go.ChangeShapes Go.WideShapes Go.ChangeAt Go.RowKit

theorem streamKeys_o0 : Opens Try.prog 22 (Enc.list Enc.int) := (opens_list (by kernel_rfl) Try.underlying22 (opens_num (by kernel_rfl) Try.underlying3 (fun _ h => bounds_i64 h)) (by decide))
theorem streamKeys_o1 : Opens Try.prog 22 (Enc.list Enc.int) := (opens_list (by kernel_rfl) Try.underlying22 (opens_num (by kernel_rfl) Try.underlying3 (fun _ h => bounds_i64 h)) (by decide))
theorem streamKeys_o2 : Opens Try.prog 22 (Enc.list Enc.int) := (opens_list (by kernel_rfl) Try.underlying22 (opens_num (by kernel_rfl) Try.underlying3 (fun _ h => bounds_i64 h)) (by decide))
theorem streamKeys_o3 : Opens Try.prog 22 (Enc.list Enc.int) := (opens_list (by kernel_rfl) Try.underlying22 (opens_num (by kernel_rfl) Try.underlying3 (fun _ h => bounds_i64 h)) (by decide))
set_option maxRecDepth 100000 in
theorem streamKeys_lifted (os : Os) (started : os.Started) (H : Type) (enc : TypeId × Value → H) :
    ReturnsInHanded {} Try.checked os 7 .any (Rows.streamKeysSpec.pre6 enc Try.prog Try.f7 Rows.streamKeysRow.domain false) (Rows.streamKeysSpec.post enc Try.prog Try.f7 false true false false) := by
  refine returnsInHanded_of_change (C := Try.checked) prog_own started (by kernel_rfl) Try.func7
    (ChangeSpec.witness6 (enc := enc) (C := Try.checked) false ⟨#[], #[.slice none 0 0, .slice none 0 0, .slice none 0 0, .slice none 0 0], []⟩ 8 (by kernel_rfl) (by kernel_rfl) (by kernel_rfl) (by kernel_rfl)) ?_
  intro W base args ds gs before hval0 hW hcnd _
  have hval : ∀ (j : Nat) t v, Try.f7.params[j]? = some t → args[j]? = some v → Value.okWide Try.prog W .any base t v := hval0
  have hW' := hW
  obtain ⟨p, q, hA0, hV, rfl, hfz, hnd⟩ := hW
  have hA : DataW.TrodAll enc Try.prog W 0 (fun _ => true) true [22, 22, 22, 22] args.toList ds p := hA0
  obtain ⟨v0, v1, v2, v3, d0, d1, d2, d3, p0, p1, p2, p3, rfl, rfl, rfl, h0, h1, h2, h3⟩ := trodAll_four hA
  obtain ⟨rfl, rfl⟩ := trodVars_none hV
  obtain ⟨a0, n0, c0, l0, rfl, q0, r0, w0⟩ := arg_list Try.underlying22 streamKeys_o0 (hval 0 22 v0 rfl rfl) h0
  obtain ⟨a1, n1, c1, l1, rfl, q1, r1, w1⟩ := arg_list Try.underlying22 streamKeys_o1 (hval 1 22 v1 rfl rfl) h1
  obtain ⟨a2, n2, c2, l2, rfl, q2, r2, w2⟩ := arg_list Try.underlying22 streamKeys_o2 (hval 2 22 v2 rfl rfl) h2
  obtain ⟨a3, n3, c3, l3, rfl, q3, r3, w3⟩ := arg_list Try.underlying22 streamKeys_o3 (hval 3 22 v3 rfl rfl) h3
  refine (streamKeys_any a0 n0 c0 l0 a1 n1 c1 l1 a2 n2 c2 l2 a3 n3 c3 l3 W w0 q0 r0 w1 q1 r1 w2 q2 r2 w3 q3 r3).mono fun e W' ⟨he, hb⟩ => ?_
  subst he
  simp only [List.append_nil] at hW'
  exact ⟨_, rfl, law_post_all prog_laid hW' rfl rfl Try.underlying4 rfl (by decide +kernel) hb⟩

theorem streamKeys_holds : Rows.StreamKeysSaid :=
  OpenClaim.holds_of_wide (p := Try.pinned) (s := Rows.streamKeysSpec) (c := Rows.streamKeysRow) 7 Try.f7 rfl rfl rfl rfl rfl rfl rfl ⟨rfl, rfl, rfl, rfl, rfl⟩ rfl rfl rfl rfl rfl (by kernel_rfl) Try.func7 (by kernel_rfl)
    (of_decide_eq_true (by kernel_rfl)) (by unfold Func.isWrapper; first | (rw [if_pos (by decide +kernel)]; kernel_rfl) | (rw [if_neg (by decide +kernel)]; exact ⟨rfl, rfl⟩))
    (fun os started H enc _ => streamKeys_lifted os started H enc)
end Go.Proofs.Ytfbgbbbfpkpfkaa
