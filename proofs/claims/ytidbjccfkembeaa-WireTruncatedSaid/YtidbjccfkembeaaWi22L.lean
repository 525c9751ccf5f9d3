/- Proved: WireTruncated: a reader of a truncated serialization becomes bad, decodes nothing, and stays bad. No condition. -/
import Derived.Test.YtidbjccfkembeaaOpen
import Derived.Test.YtidbjccfkembeaaWi22
import Derived.ChangeMaps5
namespace Go.Proofs.Ytidbjccfkembeaa
open Go.ChangeShapes Go.WideShapes Go.ChangeAt Go.RowKit

theorem wireTruncated_o0 : Opens Try.prog 45 (Enc.pair (Enc.num .u8 0 255) (Enc.pair Enc.int (Enc.pair Enc.str (Enc.pair (Enc.list Enc.int) (Enc.list Enc.str))))) := (opens_struct (by kernel_rfl) Try.underlying45 (opensF_cons rfl (opens_num (by kernel_rfl) Try.underlying5 (fun _ h => bounds_u8 h)) (opensF_cons rfl (opens_num (by kernel_rfl) Try.underlying3 (fun _ h => bounds_i64 h)) (opensF_cons rfl (opens_str (by kernel_rfl) Try.underlying9) (opensF_cons rfl (opens_list (by kernel_rfl) Try.underlying22 (opens_num (by kernel_rfl) Try.underlying3 (fun _ h => bounds_i64 h)) (by decide)) (opensF_one rfl (opens_list (by kernel_rfl) Try.underlying23 (opens_str (by kernel_rfl) Try.underlying9) (by decide))))))))
theorem wireTruncated_o1 : Opens Try.prog 50 (Enc.num .u16 0 65535) := (opens_num (by kernel_rfl) Try.underlying50 (fun _ h => bounds_u16 h))
set_option maxRecDepth 100000 in
theorem wireTruncated_lifted (os : Os) (started : os.Started) (H : Type) (enc : TypeId × Value → H) :
    ReturnsInHanded {} Try.checked os 7 .any (Rows.wireTruncatedSpec.pre6 enc Try.prog Try.f7 Rows.wireTruncatedRow.domain false) (Rows.wireTruncatedSpec.post enc Try.prog Try.f7 false true false false) := by
  refine returnsInHanded_of_change (C := Try.checked) prog_own started (by kernel_rfl) Try.func7
    (ChangeSpec.witness6 (enc := enc) (C := Try.checked) false ⟨#[], #[.agg #[.int .u8 0, .int .i64 0, .string ⟨#[]⟩, .slice none 0 0, .slice none 0 0], .int .u16 0], []⟩ 8 (by kernel_rfl) (by kernel_rfl) (by kernel_rfl) (by kernel_rfl)) ?_
  intro W base args ds gs before hval0 hW hcnd _
  have hval : ∀ (j : Nat) t v, Try.f7.params[j]? = some t → args[j]? = some v → Value.okWide Try.prog W .any base t v := hval0
  have hW' := hW
  obtain ⟨p, q, hA0, hV, rfl, hfz, hnd⟩ := hW
  have hA : DataW.TrodAll enc Try.prog W 0 (fun _ => true) true [45, 50] args.toList ds p := hA0
  obtain ⟨v0, v1, d0, d1, p0, p1, rfl, rfl, rfl, h0, h1⟩ := trodAll_two hA
  obtain ⟨rfl, rfl⟩ := trodVars_none hV
  obtain ⟨c0, y0, rfl, w0⟩ := arg_struct Try.underlying45 wireTruncated_o0 (hval 0 45 v0 rfl rfl) h0
  obtain ⟨x1, rfl, w1⟩ := arg_num Try.underlying50 wireTruncated_o1 (hval 1 50 v1 rfl rfl) h1
  refine (truncated_law c0 y0 x1 W w0 w1).mono fun e W' ⟨he, hb⟩ => ?_
  subst he
  simp only [List.append_nil] at hW'
  exact ⟨_, rfl, law_post_all prog_laid hW' rfl rfl Try.underlying4 rfl (by decide +kernel) hb⟩

theorem wireTruncated_holds : Rows.WireTruncatedSaid :=
  OpenClaim.holds_of_wide (p := Try.pinned) (s := Rows.wireTruncatedSpec) (c := Rows.wireTruncatedRow) 7 Try.f7 rfl rfl rfl rfl rfl rfl rfl ⟨rfl, rfl, rfl, rfl, rfl⟩ rfl rfl rfl rfl rfl (by kernel_rfl) Try.func7 (by kernel_rfl)
    (of_decide_eq_true (by kernel_rfl)) (by unfold Func.isWrapper; first | (rw [if_pos (by decide +kernel)]; kernel_rfl) | (rw [if_neg (by decide +kernel)]; exact ⟨rfl, rfl⟩))
    (fun os started H enc _ => wireTruncated_lifted os started H enc)
end Go.Proofs.Ytidbjccfkembeaa
