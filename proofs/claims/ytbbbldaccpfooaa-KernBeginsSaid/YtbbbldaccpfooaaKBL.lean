/- Proved: KernBegins: the positions of a beginning are the first positions; its width is the next position, if there is no kerning and no space there. No condition. -/
import Derived.Test.YtbbbldaccpfooaaOpen
import Derived.Test.YtbbbldaccpfooaaKB
import Derived.ChangeMaps5
namespace Go.Proofs.Ytbbbldaccpfooaa
open Go.ChangeShapes Go.WideShapes Go.ChangeAt Go.RowKit

theorem kernBegins_o0 : Opens Try.prog 26 (Enc.pair (Enc.list (Enc.list Enc.int)) (Enc.pair (Enc.list (Enc.pair Enc.int (Enc.pair Enc.int Enc.int))) (Enc.pair (Enc.list Enc.int) (Enc.list Enc.int)))) := (opens_struct (by kernel_rfl) Try.underlying26 (opensF_cons rfl (opens_list (by kernel_rfl) Try.underlying22 (opens_list (by kernel_rfl) Try.underlying24 (opens_num (by kernel_rfl) Try.underlying3 (fun _ h => bounds_i64 h)) (by decide)) (by decide)) (opensF_cons rfl (opens_list (by kernel_rfl) Try.underlying23 (opens_struct (by kernel_rfl) Try.underlying53 (opensF_cons rfl (opens_num (by kernel_rfl) Try.underlying3 (fun _ h => bounds_i64 h)) (opensF_cons rfl (opens_num (by kernel_rfl) Try.underlying3 (fun _ h => bounds_i64 h)) (opensF_one rfl (opens_num (by kernel_rfl) Try.underlying3 (fun _ h => bounds_i64 h)))))) (by decide)) (opensF_cons rfl (opens_list (by kernel_rfl) Try.underlying24 (opens_num (by kernel_rfl) Try.underlying3 (fun _ h => bounds_i64 h)) (by decide)) (opensF_one rfl (opens_list (by kernel_rfl) Try.underlying24 (opens_num (by kernel_rfl) Try.underlying3 (fun _ h => bounds_i64 h)) (by decide)))))))
theorem kernBegins_o1 : Opens Try.prog 5 (Enc.num .u8 0 255) := (opens_num (by kernel_rfl) Try.underlying5 (fun _ h => bounds_u8 h))
theorem kernBegins_o2 : Opens Try.prog 5 (Enc.num .u8 0 255) := (opens_num (by kernel_rfl) Try.underlying5 (fun _ h => bounds_u8 h))
set_option maxRecDepth 100000 in
theorem kernBegins_lifted (os : Os) (started : os.Started) (H : Type) (enc : TypeId × Value → H) :
    ReturnsInHanded {} Try.checked os 7 .any (Rows.kernBeginsSpec.pre6 enc Try.prog Try.f7 Rows.kernBeginsRow.domain false) (Rows.kernBeginsSpec.post enc Try.prog Try.f7 false true false false) := by
  refine returnsInHanded_of_change (C := Try.checked) prog_own started (by kernel_rfl) Try.func7
    (ChangeSpec.witness6 (enc := enc) (C := Try.checked) false ⟨#[], #[.agg #[.slice none 0 0, .slice none 0 0, .slice none 0 0, .slice none 0 0], .int .u8 0, .int .u8 0], []⟩ 8 (by kernel_rfl) (by kernel_rfl) (by kernel_rfl) (by kernel_rfl)) ?_
  intro W base args ds gs before hval0 hW hcnd _
  have hval : ∀ (j : Nat) t v, Try.f7.params[j]? = some t → args[j]? = some v → Value.okWide Try.prog W .any base t v := hval0
  have hW' := hW
  obtain ⟨p, q, hA0, hV, rfl, hfz, hnd⟩ := hW
  have hA : DataW.TrodAll enc Try.prog W 0 (fun _ => true) true [26, 5, 5] args.toList ds p := hA0
  obtain ⟨v0, v1, v2, d0, d1, d2, p0, p1, p2, rfl, rfl, rfl, h0, h1, h2⟩ := trodAll_three hA
  obtain ⟨rfl, rfl⟩ := trodVars_none hV
  obtain ⟨c0, y0, rfl, w0⟩ := arg_struct Try.underlying26 kernBegins_o0 (hval 0 26 v0 rfl rfl) h0
  obtain ⟨x1, rfl, w1⟩ := arg_num Try.underlying5 kernBegins_o1 (hval 1 5 v1 rfl rfl) h1
  obtain ⟨x2, rfl, w2⟩ := arg_num Try.underlying5 kernBegins_o2 (hval 2 5 v2 rfl rfl) h2
  refine (kernBegins_any c0 y0 x1 x2 W w0 w1 w2).mono fun e W' ⟨he, hb⟩ => ?_
  subst he
  simp only [List.append_nil] at hW'
  exact ⟨_, rfl, law_post_all prog_laid hW' rfl rfl Try.underlying4 rfl (by decide +kernel) hb⟩

theorem kernBegins_holds : Rows.KernBeginsSaid :=
  OpenClaim.holds_of_wide (p := Try.pinned) (s := Rows.kernBeginsSpec) (c := Rows.kernBeginsRow) 7 Try.f7 rfl rfl rfl rfl rfl rfl rfl ⟨rfl, rfl, rfl, rfl, rfl⟩ rfl rfl rfl rfl rfl (by kernel_rfl) Try.func7 (by kernel_rfl)
    (of_decide_eq_true (by kernel_rfl)) (by unfold Func.isWrapper; first | (rw [if_pos (by decide +kernel)]; kernel_rfl) | (rw [if_neg (by decide +kernel)]; exact ⟨rfl, rfl⟩))
    (fun os started H enc _ => kernBegins_lifted os started H enc)
end Go.Proofs.Ytbbbldaccpfooaa
