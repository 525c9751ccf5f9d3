/- Proved: WireReads: for every input and every sequence of calls, a reader returns what the reference implementation returns. No condition. -/
import Derived.Test.YtidbjccfkembeaaOpen
import Derived.Test.YtidbjccfkembeaaWi29
import Derived.ChangeMaps5
namespace Go.Proofs.Ytidbjccfkembeaa
open Go.ChangeShapes Go.WideShapes Go.ChangeAt Go.RowKit

theorem wireReads_o0 : Opens Try.prog 9 Enc.str := (opens_str (by kernel_rfl) Try.underlying9)
theorem wireReads_o1 : Opens Try.prog 31 (Enc.list (Enc.num .u8 0 255)) := (opens_list (by kernel_rfl) Try.underlying31 (opens_num (by kernel_rfl) Try.underlying5 (fun _ h => bounds_u8 h)) (by decide))
set_option maxRecDepth 100000 in
theorem wireReads_lifted (os : Os) (started : os.Started) (H : Type) (enc : TypeId × Value → H) :
    ReturnsInHanded {} Try.checked os 4 .any (Rows.wireReadsSpec.pre6 enc Try.prog Try.f4 Rows.wireReadsRow.domain false) (Rows.wireReadsSpec.post enc Try.prog Try.f4 false true false false) := by
  refine returnsInHanded_of_change (C := Try.checked) prog_own started (by kernel_rfl) Try.func4
    (ChangeSpec.witness6 (enc := enc) (C := Try.checked) false ⟨#[], #[.string ⟨#[]⟩, .slice none 0 0], []⟩ 8 (by kernel_rfl) (by kernel_rfl) (by kernel_rfl) (by kernel_rfl)) ?_
  intro W base args ds gs before hval0 hW hcnd _
  have hval : ∀ (j : Nat) t v, Try.f4.params[j]? = some t → args[j]? = some v → Value.okWide Try.prog W .any base t v := hval0
  have hW' := hW
  obtain ⟨p, q, hA0, hV, rfl, hfz, hnd⟩ := hW
  have hA : DataW.TrodAll enc Try.prog W 0 (fun _ => true) true [9, 31] args.toList ds p := hA0
  obtain ⟨v0, v1, d0, d1, p0, p1, rfl, rfl, rfl, h0, h1⟩ := trodAll_two hA
  obtain ⟨rfl, rfl⟩ := trodVars_none hV
  obtain ⟨x0, rfl, w0⟩ := arg_str Try.underlying9 wireReads_o0 (hval 0 9 v0 rfl rfl) h0
  obtain ⟨a1, n1, c1, l1, rfl, q1, r1, w1⟩ := arg_list Try.underlying31 wireReads_o1 (hval 1 31 v1 rfl rfl) h1
  refine (reads_any x0 a1 n1 c1 l1 W w0 w1 q1 r1).mono fun e W' ⟨he, hb⟩ => ?_
  subst he
  simp only [List.append_nil] at hW'
  exact ⟨_, rfl, law_post_all prog_laid hW' rfl rfl Try.underlying4 rfl (by decide +kernel) hb⟩

theorem wireReads_holds : Rows.WireReadsSaid :=
  OpenClaim.holds_of_wide (p := Try.pinned) (s := Rows.wireReadsSpec) (c := Rows.wireReadsRow) 4 Try.f4 rfl rfl rfl rfl rfl rfl rfl ⟨rfl, rfl, rfl, rfl, rfl⟩ rfl rfl rfl rfl rfl (by kernel_rfl) Try.func4 (by kernel_rfl)
    (of_decide_eq_true (by kernel_rfl)) (by unfold Func.isWrapper; first | (rw [if_pos (by decide +kernel)]; kernel_rfl) | (rw [if_neg (by decide +kernel)]; exact ⟨rfl, rfl⟩))
    (fun os started H enc _ => wireReads_lifted os started H enc)
end Go.Proofs.Ytidbjccfkembeaa
