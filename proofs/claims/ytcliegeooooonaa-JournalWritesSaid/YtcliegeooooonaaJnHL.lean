/- Proved: JournalWrites: Append, Sync and Crash return what the reference implementation returns, for disks of records, such with a change, and any. No condition. -/
import Derived.Test.YtcliegeooooonaaOpen
import Derived.Test.YtcliegeooooonaaJnH
import Derived.ChangeMaps5
namespace Go.Proofs.Ytcliegeooooonaa
open Go.ChangeShapes Go.WideShapes Go.ChangeAt Go.RowKit

theorem journalWrites_o0 : Opens Try.prog 22 (Enc.list (Enc.pair Enc.str Enc.bool)) := (opens_list (by kernel_rfl) Try.underlying22 (opens_struct (by kernel_rfl) Try.underlying55 (opensF_cons rfl (opens_str (by kernel_rfl) Try.underlying9) (opensF_one rfl (opens_bool (by kernel_rfl) Try.underlying4)))) (by decide))
theorem journalWrites_o1 : Opens Try.prog 25 (Enc.pair (Enc.num .u16 0 65535) (Enc.pair (Enc.num .u8 0 255) (Enc.num .u8 0 255))) := (opens_struct (by kernel_rfl) Try.underlying25 (opensF_cons rfl (opens_num (by kernel_rfl) Try.underlying23 (fun _ h => bounds_u16 h)) (opensF_cons rfl (opens_num (by kernel_rfl) Try.underlying5 (fun _ h => bounds_u8 h)) (opensF_one rfl (opens_num (by kernel_rfl) Try.underlying5 (fun _ h => bounds_u8 h))))))
theorem journalWrites_o2 : Opens Try.prog 27 (Enc.pair Enc.str Enc.str) := (opens_struct (by kernel_rfl) Try.underlying27 (opensF_cons rfl (opens_str (by kernel_rfl) Try.underlying9) (opensF_one rfl (opens_str (by kernel_rfl) Try.underlying9))))
theorem journalWrites_o3 : Opens Try.prog 9 Enc.str := (opens_str (by kernel_rfl) Try.underlying9)
theorem journalWrites_o4 : Opens Try.prog 3 Enc.int := (opens_num (by kernel_rfl) Try.underlying3 (fun _ h => bounds_i64 h))
/-- five parameters -/
theorem trodAll_five {H : Type} {enc : TypeId × Value → H} {P : Program} {w : World} {base : Nat} {spare : Nat → Bool} {held : Bool} {t0 t1 t2 t3 t4 : TypeId} {args : Array Value} {ds : List (DataW H)} {ps : List MemPlace} (h : DataW.TrodAll enc P w base spare held [t0, t1, t2, t3, t4] args.toList ds ps) :
    ∃ v0 v1 v2 v3 v4 d0 d1 d2 d3 d4 p0 p1 p2 p3 p4, args = #[v0, v1, v2, v3, v4] ∧ ds = [d0, d1, d2, d3, d4] ∧ ps = p0 ++ p1 ++ p2 ++ p3 ++ p4 ∧ DataW.Trod enc P w base spare held t0 v0 d0 p0 ∧ DataW.Trod enc P w base spare held t1 v1 d1 p1 ∧ DataW.Trod enc P w base spare held t2 v2 d2 p2 ∧ DataW.Trod enc P w base spare held t3 v3 d3 p3 ∧ DataW.Trod enc P w base spare held t4 v4 d4 p4 := by
  obtain ⟨v0, vs0, d0, ds0, p0, q0, hargs, rfl, rfl, h0, hrest⟩ := Go.ChangeShapes.trodAll_cons h
  obtain ⟨v1, vs1, d1, ds1, p1, q1, rfl, rfl, rfl, h1, hrest1⟩ := Go.ChangeShapes.trodAll_cons hrest
  obtain ⟨v2, vs2, d2, ds2, p2, q2, rfl, rfl, rfl, h2, hrest2⟩ := Go.ChangeShapes.trodAll_cons hrest1
  obtain ⟨v3, vs3, d3, ds3, p3, q3, rfl, rfl, rfl, h3, hrest3⟩ := Go.ChangeShapes.trodAll_cons hrest2
  obtain ⟨v4, vs4, d4, ds4, p4, q4, rfl, rfl, rfl, h4, hrest4⟩ := Go.ChangeShapes.trodAll_cons hrest3
  obtain ⟨rfl, rfl, rfl⟩ := Go.ChangeShapes.trodAll_nil hrest4
  exact ⟨v0, v1, v2, v3, v4, d0, d1, d2, d3, d4, p0, p1, p2, p3, p4, by cases args; simp_all, rfl, by simp, h0, h1, h2, h3, h4⟩
set_option maxRecDepth 100000 in
theorem journalWrites_lifted (os : Os) (started : os.Started) (H : Type) (enc : TypeId × Value → H) :
    ReturnsInHanded {} Try.checked os 3 .any (Rows.journalWritesSpec.pre6 enc Try.prog Try.f3 Rows.journalWritesRow.domain false) (Rows.journalWritesSpec.post enc Try.prog Try.f3 false true false false) := by
  refine returnsInHanded_of_change (C := Try.checked) prog_own started (by kernel_rfl) Try.func3
    (ChangeSpec.witness6 (enc := enc) (C := Try.checked) false ⟨#[], #[.slice none 0 0, .agg #[.int .u16 0, .int .u8 0, .int .u8 0], .agg #[.string ⟨#[]⟩, .string ⟨#[]⟩], .string ⟨#[]⟩, .int .i64 0], []⟩ 8 (by kernel_rfl) (by kernel_rfl) (by kernel_rfl) (by kernel_rfl)) ?_
  intro W base args ds gs before hval0 hW hcnd _
  have hval : ∀ (j : Nat) t v, Try.f3.params[j]? = some t → args[j]? = some v → Value.okWide Try.prog W .any base t v := hval0
  have hW' := hW
  obtain ⟨p, q, hA0, hV, rfl, hfz, hnd⟩ := hW
  have hA : DataW.TrodAll enc Try.prog W 0 (fun _ => true) true [22, 25, 27, 9, 3] args.toList ds p := hA0
  obtain ⟨v0, v1, v2, v3, v4, d0, d1, d2, d3, d4, p0, p1, p2, p3, p4, rfl, rfl, rfl, h0, h1, h2, h3, h4⟩ := trodAll_five hA
  obtain ⟨rfl, rfl⟩ := trodVars_none hV
  obtain ⟨a0, n0, c0, l0, rfl, q0, r0, w0⟩ := arg_list Try.underlying22 journalWrites_o0 (hval 0 22 v0 rfl rfl) h0
  obtain ⟨c1, y1, rfl, w1⟩ := arg_struct Try.underlying25 journalWrites_o1 (hval 1 25 v1 rfl rfl) h1
  obtain ⟨c2, y2, rfl, w2⟩ := arg_struct Try.underlying27 journalWrites_o2 (hval 2 27 v2 rfl rfl) h2
  obtain ⟨x3, rfl, w3⟩ := arg_str Try.underlying9 journalWrites_o3 (hval 3 9 v3 rfl rfl) h3
  obtain ⟨x4, rfl, w4⟩ := arg_num Try.underlying3 journalWrites_o4 (hval 4 3 v4 rfl rfl) h4
  refine (journalWrites_any a0 n0 c0 l0 c1 y1 c2 y2 x3 x4 W w0 q0 r0 w1 w2 w3 w4).mono fun e W' ⟨he, hb⟩ => ?_
  subst he
  simp only [List.append_nil] at hW'
  exact ⟨_, rfl, law_post_all prog_laid hW' rfl rfl Try.underlying4 rfl (by decide +kernel) hb⟩

theorem journalWrites_holds : Rows.JournalWritesSaid :=
  OpenClaim.holds_of_wide (p := Try.pinned) (s := Rows.journalWritesSpec) (c := Rows.journalWritesRow) 3 Try.f3 rfl rfl rfl rfl rfl rfl rfl ⟨rfl, rfl, rfl, rfl, rfl⟩ rfl rfl rfl rfl rfl (by kernel_rfl) Try.func3 (by kernel_rfl)
    (of_decide_eq_true (by kernel_rfl)) (by unfold Func.isWrapper; first | (rw [if_pos (by decide +kernel)]; kernel_rfl) | (rw [if_neg (by decide +kernel)]; exact ⟨rfl, rfl⟩))
    (fun os started H enc _ => journalWrites_lifted os started H enc)
end Go.Proofs.Ytcliegeooooonaa
