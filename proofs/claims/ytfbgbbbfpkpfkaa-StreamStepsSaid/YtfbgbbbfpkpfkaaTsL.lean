/- Proved: StreamSteps: Window, Start, Feed, End and Key return what the reference returns, for made lookups and any, from the start on and from any state. No condition. -/
import Derived.Test.YtfbgbbbfpkpfkaaOpen
import Derived.Test.YtfbgbbbfpkpfkaaTsE
import Derived.ChangeMaps5
namespace Go.Proofs.Ytfbgbbbfpkpfkaa
open Go.ChangeShapes Go.WideShapes Go.ChangeAt Go.RowKit

theorem streamSteps_o0 : Opens Try.prog 22 (Enc.list Enc.int) := (opens_list (by kernel_rfl) Try.underlying22 (opens_num (by kernel_rfl) Try.underlying3 (fun _ h => bounds_i64 h)) (by decide))
theorem streamSteps_o1 : Opens Try.prog 24 (Enc.list (Enc.list (Enc.pair (Enc.list Enc.int) (Enc.pair (Enc.list Enc.int) (Enc.pair (Enc.list Enc.int) Enc.int))))) := (opens_list (by kernel_rfl) Try.underlying24 (opens_struct (by kernel_rfl) Try.underlying37 (opensF_one rfl (opens_list (by kernel_rfl) Try.underlying35 (opens_struct (by kernel_rfl) Try.underlying56 (opensF_cons rfl (opens_list (by kernel_rfl) Try.underlying22 (opens_num (by kernel_rfl) Try.underlying3 (fun _ h => bounds_i64 h)) (by decide)) (opensF_cons rfl (opens_list (by kernel_rfl) Try.underlying22 (opens_num (by kernel_rfl) Try.underlying3 (fun _ h => bounds_i64 h)) (by decide)) (opensF_cons rfl (opens_list (by kernel_rfl) Try.underlying22 (opens_num (by kernel_rfl) Try.underlying3 (fun _ h => bounds_i64 h)) (by decide)) (opensF_one rfl (opens_num (by kernel_rfl) Try.underlying3 (fun _ h => bounds_i64 h))))))) (by decide)))) (by decide))
theorem streamSteps_o2 : Opens Try.prog 22 (Enc.list Enc.int) := (opens_list (by kernel_rfl) Try.underlying22 (opens_num (by kernel_rfl) Try.underlying3 (fun _ h => bounds_i64 h)) (by decide))
theorem streamSteps_o3 : Opens Try.prog 29 (Enc.list (Enc.pair (Enc.list Enc.int) (Enc.list Enc.int))) := (opens_struct (by kernel_rfl) Try.underlying29 (opensF_one rfl (opens_list (by kernel_rfl) Try.underlying27 (opens_struct (by kernel_rfl) Try.underlying33 (opensF_cons rfl (opens_list (by kernel_rfl) Try.underlying22 (opens_num (by kernel_rfl) Try.underlying3 (fun _ h => bounds_i64 h)) (by decide)) (opensF_one rfl (opens_list (by kernel_rfl) Try.underlying22 (opens_num (by kernel_rfl) Try.underlying3 (fun _ h => bounds_i64 h)) (by decide))))) (by decide))))
set_option maxRecDepth 100000 in
theorem streamSteps_lifted (os : Os) (started : os.Started) (H : Type) (enc : TypeId × Value → H) :
    ReturnsInHanded {} Try.checked os 6 .any (Rows.streamStepsSpec.pre6 enc Try.prog Try.f6 Rows.streamStepsRow.domain false) (Rows.streamStepsSpec.post enc Try.prog Try.f6 false true false false) := by
  refine returnsInHanded_of_change (C := Try.checked) prog_own started (by kernel_rfl) Try.func6
    (ChangeSpec.witness6 (enc := enc) (C := Try.checked) false ⟨#[], #[.slice none 0 0, .slice none 0 0, .slice none 0 0, .agg #[.slice none 0 0]], []⟩ 8 (by kernel_rfl) (by kernel_rfl) (by kernel_rfl) (by kernel_rfl)) ?_
  intro W base args ds gs before hval0 hW hcnd _
  have hval : ∀ (j : Nat) t v, Try.f6.params[j]? = some t → args[j]? = some v → Value.okWide Try.prog W .any base t v := hval0
  have hW' := hW
  obtain ⟨p, q, hA0, hV, rfl, hfz, hnd⟩ := hW
  have hA : DataW.TrodAll enc Try.prog W 0 (fun _ => true) true [22, 24, 22, 29] args.toList ds p := hA0
  obtain ⟨v0, v1, v2, v3, d0, d1, d2, d3, p0, p1, p2, p3, rfl, rfl, rfl, h0, h1, h2, h3⟩ := trodAll_four hA
  obtain ⟨rfl, rfl⟩ := trodVars_none hV
  obtain ⟨a0, n0, c0, l0, rfl, q0, r0, w0⟩ := arg_list Try.underlying22 streamSteps_o0 (hval 0 22 v0 rfl rfl) h0
  obtain ⟨a1, n1, c1, l1, rfl, q1, r1, w1⟩ := arg_list Try.underlying24 streamSteps_o1 (hval 1 24 v1 rfl rfl) h1
  obtain ⟨a2, n2, c2, l2, rfl, q2, r2, w2⟩ := arg_list Try.underlying22 streamSteps_o2 (hval 2 22 v2 rfl rfl) h2
  obtain ⟨c3, y3, rfl, w3⟩ := arg_struct Try.underlying29 streamSteps_o3 (hval 3 29 v3 rfl rfl) h3
  refine (streamSteps_any a0 n0 c0 l0 a1 n1 c1 l1 a2 n2 c2 l2 c3 y3 W w0 q0 r0 w1 q1 r1 w2 q2 r2 w3).mono fun e W' ⟨he, hb⟩ => ?_
  subst he
  simp only [List.append_nil] at hW'
  exact ⟨_, rfl, law_post_all prog_laid hW' rfl rfl Try.underlying4 rfl (by decide +kernel) hb⟩

theorem streamSteps_holds : Rows.StreamStepsSaid :=
  OpenClaim.holds_of_wide (p := Try.pinned) (s := Rows.streamStepsSpec) (c := Rows.streamStepsRow) 6 Try.f6 rfl rfl rfl rfl rfl rfl rfl ⟨rfl, rfl, rfl, rfl, rfl⟩ rfl rfl rfl rfl rfl (by kernel_rfl) Try.func6 (by kernel_rfl)
    (of_decide_eq_true (by kernel_rfl)) (by unfold Func.isWrapper; first | (rw [if_pos (by decide +kernel)]; kernel_rfl) | (rw [if_neg (by decide +kernel)]; exact ⟨rfl, rfl⟩))
    (fun os started H enc _ => streamSteps_lifted os started H enc)
end Go.Proofs.Ytfbgbbbfpkpfkaa
