/- The reference's Check. -/
import Derived.Test.YtbodidhggdggmaaOl1
namespace Go.Proofs.Ytbodidhggdggmaa
open Go.RowKit
theorem any_take_far {c : List Pt} {i : Nat} {p : Pt} (h : c[i]? = some p) (hf : farP p = true) : c.any farP = true := List.any_eq_true.2 ⟨p, List.mem_of_getElem? h, hf⟩
theorem any_take_next {c : List Pt} {i : Nat} {p : Pt} (h : c[i]? = some p) (hf : farP p = false) (ht : (c.take i).any farP = false) : (c.take (i + 1)).any farP = false := by
  rw [List.take_add_one, h, List.any_append, ht]
  simp [hf]
theorem checkO_bad {o : Ot} {k : Nat} {c : List Pt} {e : Int} (h0 : ¬ (8 < o.length ∨ 64 < countS o)) (h : o[k]? = some c) (hp : ∀ (i : Nat) (d : List Pt), i < k → o[i]? = some d → ctErr d = 0) (he : ctErr c = e) (hz : e ≠ 0) : checkO o = e := by
  rw [checkO_few h0, firstErr_skip h hp (by rw [he]; exact hz), he]
theorem checkO_good {o : Ot} (h0 : ¬ (8 < o.length ∨ 64 < countS o)) (h : ∀ (i : Nat) (d : List Pt), o[i]? = some d → ctErr d = 0) : checkO o = 0 := by
  rw [checkO_few h0, firstErr_none h]
theorem errs_next {o : Ot} {k : Nat} {c : List Pt} (hx : o[k]? = some c) (h0 : ∀ (i : Nat) (d : List Pt), i < k → o[i]? = some d → ctErr d = 0) (h : ctErr c = 0) : ∀ (i : Nat) (d : List Pt), i < k + 1 → o[i]? = some d → ctErr d = 0 := by
  intro i d hi hd
  by_cases he : i = k
  · subst he
    rw [hx] at hd
    injection hd with hd
    rw [← hd]
    exact h
  · exact h0 i d (by omega) hd
theorem box_pt {w : World} {x y : Int} {z : Bool} {b : Nat} {V : World} (hb : b = w.heap.size) (hV : V = w.alloc (Obj.cells #[.int .i64 x, .int .i64 y, .bool z] 56)) : Below w.heap.size w V ∧ V.heap[b]? = some (.cells #[.int .i64 x, .int .i64 y, .bool z] 56 (0, 0)) ∧ V.cell? ⟨b, 0, none⟩ = some (.int .i64 x) ∧ V.cell? ⟨b, 1, none⟩ = some (.int .i64 y) ∧ V.cell? ⟨b, 2, none⟩ = some (.bool z) := by
  subst hV; subst hb
  have h := heap_alloc_new w (Obj.cells #[.int .i64 x, .int .i64 y, .bool z] 56)
  exact ⟨(Below.refl _ _).alloc (Nat.le_refl _) _, h, (cell_of_row _ _ 0 _ _ _ h).trans rfl, (cell_of_row _ _ 1 _ _ _ h).trans rfl, (cell_of_row _ _ 2 _ _ _ h).trans rfl⟩
set_option maxHeartbeats 4000000 in
theorem rcheckO_any (a : Option Addr) (n c : Nat) (o : Ot) (w : World) (hl : Lst Enc.ct w (· < w.heap.size) a n o) (hs : Sml o) :
    Calls Try.prog 14 #[.slice a n c] w fun e w' => e = .returned (.int .i64 (checkO o)) ∧ Below w.heap.size w w' := by
  have h1 := hl.1
  have hn : n ≤ 1000 := by have := hs.1; omega
  by_cases h8 : 8 < n
  · have hfin := hide (checkO_many (o := o) (.inl (by omega)))
    have t4 : (8 : Int) < (n : Int) := by omega
    clear h8 h1 hl
    go_enter Try.func14, Try.ntmps14
    go_wp2_with fail
    go_ret
    exact ⟨ret_int (unhide hfin).symm, Below.refl _ _⟩
  have t4 : ¬ (8 : Int) < (n : Int) := by omega
  have hc := rcount_any a n c o w hl hs
  by_cases h64 : 64 < countS o
  · have hfin := hide (checkO_many (.inr h64))
    replace hc := hide hc; replace hl := hide hl; replace h1 := hide h1
    go_enter Try.func14, Try.ntmps14
    go_wp2_with fail
    refine (unhide hc).mono ?_
    rintro e w1 ⟨rfl, ew⟩
    subst ew
    clear hc
    go_wp2_with fail
    go_ret
    exact ⟨ret_int (unhide hfin).symm, Below.refl _ _⟩
  have hno := hide (show ¬ (8 < o.length ∨ 64 < countS o) by omega)
  replace hc := hide hc; replace hl := hide hl; replace h1 := hide h1; replace hs := hide hs
  go_enter Try.func14, Try.ntmps14
  go_wp2_with fail
  refine (unhide hc).mono ?_
  rintro e w1 ⟨rfl, ew⟩
  subst ew
  clear hc
  go_wp2_with fail
  clear t4 h64 h8
  obtain ⟨w, rfl⟩ : ∃ wo : World, wo = w1 := ⟨_, rfl⟩
  go_loopw [3] (fun v wr => ∃ k : Nat, k ≤ n ∧ v = .int .i64 (k : Int) ∧ (∀ (i : Nat) (d : List Pt), i < k → o[i]? = some d → ctErr d = 0) ∧ Below w.heap.size w wr) (fun v _ => (n - intOf v).toNat)
  case atStart => exact ⟨0, by omega, rfl, fun i d hi => by omega, Below.refl _ _⟩
  case round =>
    obtain ⟨k, hk, rfl, h0, hbw⟩ := hrel
    obtain ⟨wo, rfl⟩ : ∃ wo : World, wo = wr := ⟨_, rfl⟩
    replace h0 := hide h0
    by_cases hlt : k < n
    · obtain ⟨b, off, x, ax, nx, cx, rfl, hb, hx, hnc, hcm, hlx, hc⟩ := lst_list ((unhide hl).under hbw) hlt
      have mx : nx ≤ 1000 := by have := (unhide hs).ct hx; have := hlx.1; omega
      have x1 := hlx.1
      have t1 : (k : Int) < (n : Int) := by omega
      replace hx := hide hx; replace x1 := hide x1
      clear hb hnc hcm
      by_cases h3 : nx < 3
      · have t3 : (nx : Int) < 3 := by omega
        have hfin := hide (checkO_bad (unhide hno) (unhide hx) (unhide h0) (ctErr_short (.inl (by rw [unhide x1]; exact h3))) (by decide))
        replace hbw := hide hbw
        clear hlx h3
        go_wp2_with fail
        go_ret
        exact ⟨ret_int (unhide hfin).symm, unhide hbw⟩
      have t3 : ¬ (nx : Int) < 3 := by omega
      obtain ⟨g, og, px, py, pz, rfl, hg, hp, _, _, g0, g1, g2⟩ := lst_pt hlx (show 0 < nx by omega)
      have hon := onAt_some hp
      simp only [Nat.zero_mul, Nat.add_zero] at g0 g1 g2
      clear g0 g1 hp
      cases pz with
      | false =>
        have hfin := hide (checkO_bad (unhide hno) (unhide hx) (unhide h0) (ctErr_short (.inr hon)) (by decide))
        replace hbw := hide hbw
        clear hlx h3 hon
        go_wp2_with fail
        go_ret
        exact ⟨ret_int (unhide hfin).symm, unhide hbw⟩
      | true =>
        have hok := hide (show ¬ (x.length < 3 ∨ onAt x 0 = false) by rw [unhide x1, hon]; simp; omega)
        clear hon
        replace hbw := hide hbw
        go_wp2_with fail
        clear t3 g2
        go_loopw [4] (fun v wr => ∃ i : Nat, i ≤ nx ∧ v = .int .i64 (i : Int) ∧ (x.take i).any farP = false ∧ Below wo.heap.size wo wr) (fun v _ => (nx - intOf v).toNat)
        case atStart => exact ⟨0, by omega, rfl, rfl, Below.refl _ _⟩
        case round =>
          obtain ⟨i, hi', rfl, hti, hbv⟩ := hrel
          obtain ⟨wi, rfl⟩ : ∃ wo : World, wo = wr := ⟨_, rfl⟩
          replace hti := hide hti
          have f1 : wi.cell? ⟨b, off + k, none⟩ = some (.slice (some ⟨g, og, none⟩) nx cx) := cell_under hc hbv
          by_cases hlt2 : i < nx
          · obtain ⟨g', og', px, py, pz, hge, _, hp, _, _, g0, g1, g2⟩ := lst_pt (hlx.under hbv) hlt2
            cases hge
            have u1 : (i : Int) < (nx : Int) := by omega
            obtain ⟨bx, hbx⟩ : ∃ bx, bx = wi.heap.size := ⟨_, rfl⟩
            obtain ⟨V1, hV1⟩ : ∃ V1, V1 = wi.alloc (Obj.cells #[.int .i64 px, .int .i64 py, .bool pz] 56) := ⟨_, rfl⟩
            obtain ⟨hbo, hcx, d0, d1, d2⟩ := box_pt hbx hV1
            have hbz := hide (hbv.trans (hbo.mono hbv.size))
            clear hbo hcx d2
            replace hbv := hide hbv; replace hp := hide hp; replace hbx := hide hbx; replace hV1 := hide hV1; replace hlx := hide hlx; replace hc := hide hc

            by_cases c0 : px < -512
            · skip
              have hfar : farP (px, py, pz) = true := by unfold farP; simp [c0]
              have hfin := hide (checkO_bad (unhide hno) (unhide hx) (unhide h0) (ctErr_far (unhide hok) (any_take_far (unhide hp) hfar)) (by decide))
              clear hfar hl hlx hc hp hti
              have hbzz := hide ((unhide hbw).trans ((unhide hbz).mono (unhide hbw).size))
              clear hbz
              go_wp2_with fail
              rw [← unhide hV1, ← unhide hbx]
              go_wp2_with fail
              go_ret
              exact ⟨ret_int (unhide hfin).symm, unhide hbzz⟩
            by_cases c1 : (512 : Int) < px
            · skip
              have hfar : farP (px, py, pz) = true := by unfold farP; simp [c0, c1]
              have hfin := hide (checkO_bad (unhide hno) (unhide hx) (unhide h0) (ctErr_far (unhide hok) (any_take_far (unhide hp) hfar)) (by decide))
              clear hfar hl hlx hc hp hti
              have hbzz := hide ((unhide hbw).trans ((unhide hbz).mono (unhide hbw).size))
              clear hbz
              go_wp2_with fail
              rw [← unhide hV1, ← unhide hbx]
              go_wp2_with fail
              go_ret
              exact ⟨ret_int (unhide hfin).symm, unhide hbzz⟩
            by_cases c2 : py < -512
            · skip
              have hfar : farP (px, py, pz) = true := by unfold farP; simp [c0, c1, c2]
              have hfin := hide (checkO_bad (unhide hno) (unhide hx) (unhide h0) (ctErr_far (unhide hok) (any_take_far (unhide hp) hfar)) (by decide))
              clear hfar hl hlx hc hp hti
              have hbzz := hide ((unhide hbw).trans ((unhide hbz).mono (unhide hbw).size))
              clear hbz
              go_wp2_with fail
              rw [← unhide hV1, ← unhide hbx]
              go_wp2_with fail
              go_ret
              exact ⟨ret_int (unhide hfin).symm, unhide hbzz⟩
            by_cases c3 : (512 : Int) < py
            · skip
              have hfar : farP (px, py, pz) = true := by unfold farP; simp [c0, c1, c2, c3]
              have hfin := hide (checkO_bad (unhide hno) (unhide hx) (unhide h0) (ctErr_far (unhide hok) (any_take_far (unhide hp) hfar)) (by decide))
              clear hfar hl hlx hc hp hti
              have hbzz := hide ((unhide hbw).trans ((unhide hbz).mono (unhide hbw).size))
              clear hbz
              go_wp2_with fail
              rw [← unhide hV1, ← unhide hbx]
              go_wp2_with fail
              go_ret
              exact ⟨ret_int (unhide hfin).symm, unhide hbzz⟩
            have hfar : farP (px, py, pz) = false := by unfold farP; simp only [c0, c1, c2, c3]; rfl
            have hnx := hide (any_take_next (unhide hp) hfar (unhide hti))
            clear hfar hl hp hti
            go_wp2_with fail
            rw [← unhide hV1]
            go_roundw
            case rel => exact ⟨i + 1, by omega, by go_num, unhide hnx, unhide hbz⟩
            case measure => simp [intOf]; omega
          · have hfa : x.any farP = false := by have := unhide hti; rwa [List.take_of_length_le (by have := unhide x1; omega)] at this
            have hnx := hide (errs_next (unhide hx) (unhide h0) (ctErr_ok (unhide hok) hfa))
            have hbz := hide ((unhide hbw).trans (hbv.mono (unhide hbw).size))
            clear hfa hbv hti hlx hc hl hbw
            go_wp2_with fail
            go_roundw
            case rel => exact ⟨k + 1, by omega, by go_num, unhide hnx, unhide hbz⟩
            case measure => simp [intOf]; omega
    · have hfin := hide (checkO_good (unhide hno) (fun i d hd => unhide h0 i d (by have := (List.getElem?_eq_some_iff.1 hd).1; have := unhide h1; omega) hd))
      replace hbw := hide hbw
      clear hl h0
      go_wp2_with fail
      go_ret
      exact ⟨ret_int (unhide hfin).symm, unhide hbw⟩
end Go.Proofs.Ytbodidhggdggmaa
