/- Proved: JournalKeeps: after a crash, a beginning of the appended strings is found, with all that were appended before the last sync; without a crash, all of them. No condition. -/
import Derived.Test.YtcliegeooooonaaOpen
import Derived.Test.YtcliegeooooonaaJnC
import Derived.ChangeMaps5
namespace Go.Proofs.Ytcliegeooooonaa
open Go.ChangeShapes Go.WideShapes Go.ChangeAt Go.RowKit

theorem journalKeeps_o0 : Opens Try.prog 22 (Enc.list (Enc.pair Enc.str Enc.bool)) := (opens_list (by kernel_rfl) Try.underlying22 (opens_struct (by kernel_rfl) Try.underlying55 (opensF_cons rfl (opens_str (by kernel_rfl) Try.underlying9) (opensF_one rfl (opens_bool (by kernel_rfl) Try.underlying4)))) (by decide))
theorem journalKeeps_o1 : Opens Try.prog 45 (Enc.num .i16 (-32768) 32767) := (opens_num (by kernel_rfl) Try.underlying45 (fun _ h => bounds_i16 h))
set_option maxRecDepth 100000 in
theorem journalKeeps_lifted (os : Os) (started : os.Started) (H : Type) (enc : TypeId × Value → H) :
    ReturnsInHanded {} Try.checked os 5 .any (Rows.journalKeepsSpec.pre6 enc Try.prog Try.f5 Rows.journalKeepsRow.domain false) (Rows.journalKeepsSpec.post enc Try.prog Try.f5 false true false false) := by
  refine returnsInHanded_of_change (C := Try.checked) prog_own started (by kernel_rfl) Try.func5
    (ChangeSpec.witness6 (enc := enc) (C := Try.checked) false ⟨#[], #[.slice none 0 0, .int .i16 0], []⟩ 8 (by kernel_rfl) (by kernel_rfl) (by kernel_rfl) (by kernel_rfl)) ?_
  intro W base args ds gs before hval0 hW hcnd _
  have hval : ∀ (j : Nat) t v, Try.f5.params[j]? = some t → args[j]? = some v → Value.okWide Try.prog W .any base t v := hval0
  have hW' := hW
  obtain ⟨p, q, hA0, hV, rfl, hfz, hnd⟩ := hW
  have hA : DataW.TrodAll enc Try.prog W 0 (fun _ => true) true [22, 45] args.toList ds p := hA0
  obtain ⟨v0, v1, d0, d1, p0, p1, rfl, rfl, rfl, h0, h1⟩ := trodAll_two hA
  obtain ⟨rfl, rfl⟩ := trodVars_none hV
  obtain ⟨a0, n0, c0, l0, rfl, q0, r0, w0⟩ := arg_list Try.underlying22 journalKeeps_o0 (hval 0 22 v0 rfl rfl) h0
  obtain ⟨x1, rfl, w1⟩ := arg_num Try.underlying45 journalKeeps_o1 (hval 1 45 v1 rfl rfl) h1
  refine (journalKeeps_any a0 n0 c0 l0 x1 W w0 q0 r0 w1).mono fun e W' ⟨he, hb⟩ => ?_
  subst he
  simp only [List.append_nil] at hW'
  exact ⟨_, rfl, law_post_all prog_laid hW' rfl rfl Try.underlying4 rfl (by decide +kernel) hb⟩

theorem journalKeeps_holds : Rows.JournalKeepsSaid :=
  OpenClaim.holds_of_wide (p := Try.pinned) (s := Rows.journalKeepsSpec) (c := Rows.journalKeepsRow) 5 Try.f5 rfl rfl rfl rfl rfl rfl rfl ⟨rfl, rfl, rfl, rfl, rfl⟩ rfl rfl rfl rfl rfl (by kernel_rfl) Try.func5 (by kernel_rfl)
    (of_decide_eq_true (by kernel_rfl)) (by unfold Func.isWrapper; first | (rw [if_pos (by decide +kernel)]; kernel_rfl) | (rw [if_neg (by decide +kernel)]; exact ⟨rfl, rfl⟩))
    (fun os started H enc _ => journalKeeps_lifted os started H enc)
end Go.Proofs.Ytcliegeooooonaa
