/- Proved: KernPlaces: Place returns what the reference implementation returns, for made fonts, glyphs and spaces, and any. No condition. -/
import Derived.Test.YtbbbldaccpfooaaOpen
import Derived.Test.YtbbbldaccpfooaaKP
import Derived.ChangeMaps5
namespace Go.Proofs.Ytbbbldaccpfooaa
open Go.ChangeShapes Go.WideShapes Go.ChangeAt Go.RowKit

theorem kernPlaces_o0 : Opens Try.prog 26 (Enc.pair (Enc.list (Enc.list Enc.int)) (Enc.pair (Enc.list (Enc.pair Enc.int (Enc.pair Enc.int Enc.int))) (Enc.pair (Enc.list Enc.int) (Enc.list Enc.int)))) := (opens_struct (by kernel_rfl) Try.underlying26 (opensF_cons rfl (opens_list (by kernel_rfl) Try.underlying22 (opens_list (by kernel_rfl) Try.underlying24 (opens_num (by kernel_rfl) Try.underlying3 (fun _ h => bounds_i64 h)) (by decide)) (by decide)) (opensF_cons rfl (opens_list (by kernel_rfl) Try.underlying23 (opens_struct (by kernel_rfl) Try.underlying53 (opensF_cons rfl (opens_num (by kernel_rfl) Try.underlying3 (fun _ h => bounds_i64 h)) (opensF_cons rfl (opens_num (by kernel_rfl) Try.underlying3 (fun _ h => bounds_i64 h)) (opensF_one rfl (opens_num (by kernel_rfl) Try.underlying3 (fun _ h => bounds_i64 h)))))) (by decide)) (opensF_cons rfl (opens_list (by kernel_rfl) Try.underlying24 (opens_num (by kernel_rfl) Try.underlying3 (fun _ h => bounds_i64 h)) (by decide)) (opensF_one rfl (opens_list (by kernel_rfl) Try.underlying24 (opens_num (by kernel_rfl) Try.underlying3 (fun _ h => bounds_i64 h)) (by decide)))))))
theorem kernPlaces_o1 : Opens Try.prog 3 Enc.int := (opens_num (by kernel_rfl) Try.underlying3 (fun _ h => bounds_i64 h))
theorem kernPlaces_o2 : Opens Try.prog 24 (Enc.list Enc.int) := (opens_list (by kernel_rfl) Try.underlying24 (opens_num (by kernel_rfl) Try.underlying3 (fun _ h => bounds_i64 h)) (by decide))
theorem kernPlaces_o3 : Opens Try.prog 24 (Enc.list Enc.int) := (opens_list (by kernel_rfl) Try.underlying24 (opens_num (by kernel_rfl) Try.underlying3 (fun _ h => bounds_i64 h)) (by decide))
set_option maxRecDepth 100000 in
theorem kernPlaces_lifted (os : Os) (started : os.Started) (H : Type) (enc : TypeId × Value → H) :
    ReturnsInHanded {} Try.checked os 4 .any (Rows.kernPlacesSpec.pre6 enc Try.prog Try.f4 Rows.kernPlacesRow.domain false) (Rows.kernPlacesSpec.post enc Try.prog Try.f4 false true false false) := by
  refine returnsInHanded_of_change (C := Try.checked) prog_own started (by kernel_rfl) Try.func4
    (ChangeSpec.witness6 (enc := enc) (C := Try.checked) false ⟨#[], #[.agg #[.slice none 0 0, .slice none 0 0, .slice none 0 0, .slice none 0 0], .int .i64 0, .slice none 0 0, .slice none 0 0], []⟩ 8 (by kernel_rfl) (by kernel_rfl) (by kernel_rfl) (by kernel_rfl)) ?_
  intro W base args ds gs before hval0 hW hcnd _
  have hval : ∀ (j : Nat) t v, Try.f4.params[j]? = some t → args[j]? = some v → Value.okWide Try.prog W .any base t v := hval0
  have hW' := hW
  obtain ⟨p, q, hA0, hV, rfl, hfz, hnd⟩ := hW
  have hA : DataW.TrodAll enc Try.prog W 0 (fun _ => true) true [26, 3, 24, 24] args.toList ds p := hA0
  obtain ⟨v0, v1, v2, v3, d0, d1, d2, d3, p0, p1, p2, p3, rfl, rfl, rfl, h0, h1, h2, h3⟩ := trodAll_four hA
  obtain ⟨rfl, rfl⟩ := trodVars_none hV
  obtain ⟨c0, y0, rfl, w0⟩ := arg_struct Try.underlying26 kernPlaces_o0 (hval 0 26 v0 rfl rfl) h0
  obtain ⟨x1, rfl, w1⟩ := arg_num Try.underlying3 kernPlaces_o1 (hval 1 3 v1 rfl rfl) h1
  obtain ⟨a2, n2, c2, l2, rfl, q2, r2, w2⟩ := arg_list Try.underlying24 kernPlaces_o2 (hval 2 24 v2 rfl rfl) h2
  obtain ⟨a3, n3, c3, l3, rfl, q3, r3, w3⟩ := arg_list Try.underlying24 kernPlaces_o3 (hval 3 24 v3 rfl rfl) h3
  refine (kernPlaces_any c0 y0 x1 a2 n2 c2 l2 a3 n3 c3 l3 W w0 w1 w2 q2 r2 w3 q3 r3).mono fun e W' ⟨he, hb⟩ => ?_
  subst he
  simp only [List.append_nil] at hW'
  exact ⟨_, rfl, law_post_all prog_laid hW' rfl rfl Try.underlying4 rfl (by decide +kernel) hb⟩

theorem kernPlaces_holds : Rows.KernPlacesSaid :=
  OpenClaim.holds_of_wide (p := Try.pinned) (s := Rows.kernPlacesSpec) (c := Rows.kernPlacesRow) 4 Try.f4 rfl rfl rfl rfl rfl rfl rfl ⟨rfl, rfl, rfl, rfl, rfl⟩ rfl rfl rfl rfl rfl (by kernel_rfl) Try.func4 (by kernel_rfl)
    (of_decide_eq_true (by kernel_rfl)) (by unfold Func.isWrapper; first | (rw [if_pos (by decide +kernel)]; kernel_rfl) | (rw [if_neg (by decide +kernel)]; exact ⟨rfl, rfl⟩))
    (fun os started H enc _ => kernPlaces_lifted os started H enc)
end Go.Proofs.Ytbbbldaccpfooaa
