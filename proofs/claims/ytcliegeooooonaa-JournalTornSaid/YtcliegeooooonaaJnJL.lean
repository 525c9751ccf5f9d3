/- Proved: JournalTorn: if a byte of the contents is another one, all records before its record are found, and those from it on are not, unless another record with the right digest stands there. No condition. -/
import Derived.Test.YtcliegeooooonaaOpen
import Derived.Test.YtcliegeooooonaaJnJ
import Derived.ChangeMaps5
namespace Go.Proofs.Ytcliegeooooonaa
open Go.ChangeShapes Go.WideShapes Go.ChangeAt Go.RowKit

theorem journalTorn_o0 : Opens Try.prog 22 (Enc.list (Enc.pair Enc.str Enc.bool)) := (opens_list (by kernel_rfl) Try.underlying22 (opens_struct (by kernel_rfl) Try.underlying55 (opensF_cons rfl (opens_str (by kernel_rfl) Try.underlying9) (opensF_one rfl (opens_bool (by kernel_rfl) Try.underlying4)))) (by decide))
theorem journalTorn_o1 : Opens Try.prog 23 (Enc.num .u16 0 65535) := (opens_num (by kernel_rfl) Try.underlying23 (fun _ h => bounds_u16 h))
theorem journalTorn_o2 : Opens Try.prog 5 (Enc.num .u8 0 255) := (opens_num (by kernel_rfl) Try.underlying5 (fun _ h => bounds_u8 h))
set_option maxRecDepth 100000 in
theorem journalTorn_lifted (os : Os) (started : os.Started) (H : Type) (enc : TypeId × Value → H) :
    ReturnsInHanded {} Try.checked os 7 .any (Rows.journalTornSpec.pre6 enc Try.prog Try.f7 Rows.journalTornRow.domain false) (Rows.journalTornSpec.post enc Try.prog Try.f7 false true false false) := by
  refine returnsInHanded_of_change (C := Try.checked) prog_own started (by kernel_rfl) Try.func7
    (ChangeSpec.witness6 (enc := enc) (C := Try.checked) false ⟨#[], #[.slice none 0 0, .int .u16 0, .int .u8 0], []⟩ 8 (by kernel_rfl) (by kernel_rfl) (by kernel_rfl) (by kernel_rfl)) ?_
  intro W base args ds gs before hval0 hW hcnd _
  have hval : ∀ (j : Nat) t v, Try.f7.params[j]? = some t → args[j]? = some v → Value.okWide Try.prog W .any base t v := hval0
  have hW' := hW
  obtain ⟨p, q, hA0, hV, rfl, hfz, hnd⟩ := hW
  have hA : DataW.TrodAll enc Try.prog W 0 (fun _ => true) true [22, 23, 5] args.toList ds p := hA0
  obtain ⟨v0, v1, v2, d0, d1, d2, p0, p1, p2, rfl, rfl, rfl, h0, h1, h2⟩ := trodAll_three hA
  obtain ⟨rfl, rfl⟩ := trodVars_none hV
  obtain ⟨a0, n0, c0, l0, rfl, q0, r0, w0⟩ := arg_list Try.underlying22 journalTorn_o0 (hval 0 22 v0 rfl rfl) h0
  obtain ⟨x1, rfl, w1⟩ := arg_num Try.underlying23 journalTorn_o1 (hval 1 23 v1 rfl rfl) h1
  obtain ⟨x2, rfl, w2⟩ := arg_num Try.underlying5 journalTorn_o2 (hval 2 5 v2 rfl rfl) h2
  refine (journalTorn_any a0 n0 c0 l0 x1 x2 W w0 q0 r0 w1 w2).mono fun e W' ⟨he, hb⟩ => ?_
  subst he
  simp only [List.append_nil] at hW'
  exact ⟨_, rfl, law_post_all prog_laid hW' rfl rfl Try.underlying4 rfl (by decide +kernel) hb⟩

theorem journalTorn_holds : Rows.JournalTornSaid :=
  OpenClaim.holds_of_wide (p := Try.pinned) (s := Rows.journalTornSpec) (c := Rows.journalTornRow) 7 Try.f7 rfl rfl rfl rfl rfl rfl rfl ⟨rfl, rfl, rfl, rfl, rfl⟩ rfl rfl rfl rfl rfl (by kernel_rfl) Try.func7 (by kernel_rfl)
    (of_decide_eq_true (by kernel_rfl)) (by unfold Func.isWrapper; first | (rw [if_pos (by decide +kernel)]; kernel_rfl) | (rw [if_neg (by decide +kernel)]; exact ⟨rfl, rfl⟩))
    (fun os started H enc _ => journalTorn_lifted os started H enc)
end Go.Proofs.Ytcliegeooooonaa
