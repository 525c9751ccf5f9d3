/- The walk of AxisTents. -/
import Derived.Test.YthkppilelpaieaaAxT0
namespace Go.Proofs.Ythkppilelpaieaa
open Go.RowKit
set_option maxHeartbeats 8000000 in
set_option maxRecDepth 100000 in
theorem axisTents_any (a : Option Addr) (n c : Nat) (L : List Int) (ap : Int) (w : World) (hl : Lst Enc.int w (fun b => b < w.heap.size) a n L) (hn : n ≤ c) (hc : c ≤ maxLen) (h3 : -32768 ≤ ap ∧ ap ≤ 32767) :
    Calls Try.prog 7 #[.slice a n c, .int .i16 ap] w fun e w' => e = .returned (.bool true) ∧ Below w.heap.size w w' := by
  obtain ⟨pv, hv⟩ : ∃ x, Int.tmod ap 65 = x := ⟨_, rfl⟩
  have bv : -64 ≤ pv ∧ pv ≤ 64 := by rw [← hv]; have := Int.tmod_lt_of_pos ap (show (0:Int) < 65 by decide); have := Int.lt_tmod_of_pos ap (show (0:Int) < 65 by decide); omega
  obtain ⟨gm, egm⟩ : ∃ gm : Nat, (min (n : Int) 10).toNat = gm := ⟨_, rfl⟩
  have qgm : (if (10 : Int) < (n : Int) then (10 : Int) else (n : Int)) = (gm : Int) := by split <;> omega
  have mgm : gm ≤ c := by omega
  have ugm : (gm : Int) ≤ (c : Int) := by omega
  have ggn : gm ≤ n := by omega
  replace egm := hide egm
  replace hl := hide hl
  go_enter Try.func7, Try.ntmps7
  go_wp2_with fail
  refine (sanity_any _).mono ?_
  rintro e w1 ⟨rfl, hb1⟩
  have hr := region_one a gm c (L.take gm) w1 (((unhide hl).under hb1).take ggn) (by omega)
  replace hr := hide hr; replace hb1 := hide hb1
  clear hl
  go_wp2_with fail
  rw [unhide egm]
  refine (unhide hr).mono ?_
  rintro e w2 ⟨br, off, rc, lo, pk, hi, rfl, hR, hR1, hall, hvd, ⟨q1, q2, q3, q4⟩, c0, c1, c2, hb2⟩
  clear hr
  have hz := (unhide hb1).trans (hb2.mono (unhide hb1).size)
  clear hb1 hb2
  obtain ⟨b7, V7, hb7, hV7, st⟩ := (St.start w2).new (Obj.cells #[.int .i64 lo, .int .i64 pk, .int .i64 hi] 52)
  obtain ⟨bV, VV, hbV, hVV, st⟩ := st.new (Obj.cells #[.int .i64 pv] 3)
  have hcV : b7 + 1 = bV := by rw [← hbV, ← hV7, World.size_alloc, hb7]
  have h7 := hide (st.get 1 rfl)
  have hs := scalar_one (rc := rc) (hR.under st.below) hall (st.get 0 rfl) bv
  have hRV := hide (hR.under st.below)
  have hzV := hide (hz.trans (st.below.mono hz.size))
  clear st hz hR hbV
  replace hs := hide hs; replace hV7 := hide hV7; replace hVV := hide hVV; replace hb7 := hide hb7; replace hcV := hide hcV; replace hall := hide hall; replace hvd := hide hvd
  go_wp2_with fail
  rw [unhide hV7, unhide hb7, unhide hcV, unhide hVV]
  refine (unhide hs).mono ?_
  rintro e w3 ⟨rfl, hb3⟩
  have hR := (unhide hRV).under hb3
  have hz := (unhide hzV).trans (hb3.mono (unhide hzV).size)
  have r7 := (hb3.block b7 (Array.getElem?_eq_some_iff.1 (unhide h7)).1).trans (unhide h7)
  clear hs hRV hzV hb3 h7 hV7 hVV hb7 hcV c0 c1 c2
  obtain ⟨N0, hN0⟩ : ∃ x, (tq (lo, pk, hi) pv).num = x := ⟨_, rfl⟩
  obtain ⟨D0, hD0⟩ : ∃ x : Nat, (tq (lo, pk, hi) pv).den = x := ⟨_, rfl⟩
  have bN0 := tq_bd (t := (lo, pk, hi)) (v := pv) (unhide hvd)
  have bD0 := (tq (lo, pk, hi) pv).den_pos
  rw [hN0, hD0] at bN0
  rw [hD0] at bD0
  rw [hN0, hD0]
  obtain ⟨b9, V9, hb9, hV9, st⟩ := (St.start w3).new (Obj.cells #[.int .i64 N0, .int .i64 (D0 : Int)] 44)
  obtain ⟨bV, VV, hbV, hVV, st⟩ := st.new (Obj.cells #[.int .i64 pk] 3)
  have hcV : b9 + 1 = bV := by rw [← hbV, ← hV9, World.size_alloc, hb9]
  have h9 := hide (st.get 1 rfl)
  have h7 := hide ((st.below.block b7 (Array.getElem?_eq_some_iff.1 r7).1).trans r7)
  have hs := scalar_one (rc := rc) (hR.under st.below) (unhide hall) (st.get 0 rfl) (v := pk) ⟨by omega, by omega⟩
  rw [(tq_peak (t := (lo, pk, hi)) (v := pk) (Or.inr rfl)).1, (tq_peak (t := (lo, pk, hi)) (v := pk) (Or.inr rfl)).2] at hs
  have hRV := hide (hR.under st.below)
  have hzV := hide (hz.trans (st.below.mono hz.size))
  have d9 : ∀ o, (w3.alloc o).heap.size = b9 + 1 := fun o => by rw [World.size_alloc, hb9]
  have x0 : V9.cell? ⟨b7, 1, none⟩ = some (.int .i64 pk) := by
    rw [← hV9]
    exact cell_under ((cell_of_row _ _ 1 _ _ _ r7).trans rfl) ((Below.refl _ _).alloc (Nat.le_refl _) _)
  have y0 : V9.cell? ⟨b9, 0, none⟩ = some (.int .i64 N0) := by
    rw [← hV9, ← hb9]
    exact (cell_of_row _ _ 0 _ _ _ (heap_alloc_new _ _)).trans rfl
  have y1 : V9.cell? ⟨b9, 1, none⟩ = some (.int .i64 (D0 : Int)) := by
    rw [← hV9, ← hb9]
    exact (cell_of_row _ _ 1 _ _ _ (heap_alloc_new _ _)).trans rfl
  clear st hz hR r7
  replace hbV := hide hbV
  replace hs := hide hs; replace hV9 := hide hV9; replace hVV := hide hVV; replace hb9 := hide hb9; replace hcV := hide hcV; replace x0 := hide x0; replace y0 := hide y0; replace y1 := hide y1
  go_upto_region 6 with fail
  rw [unhide hV9]
  try rw [unhide hb9]
  have g1 : decide ((D0 : Int) < 1) = false := by simp; omega
  have g2 : decide (N0 < 0) = false := by simp; omega
  have g3 : decide ((D0 : Int) < N0) = false := by simp; omega
  replace x0 := unhide x0; replace y0 := unhide y0; replace y1 := unhide y1
  go_wp2_with fail
  first | rw [unhide hcV, unhide hVV] | rw [unhide hbV, unhide hVV]
  refine (unhide hs).mono ?_
  rintro e w4 ⟨rfl, hb4⟩
  have hR := hide ((unhide hRV).under hb4)
  have hz := hide ((unhide hzV).trans (hb4.mono (unhide hzV).size))
  have r7 := (hb4.block b7 (Array.getElem?_eq_some_iff.1 (unhide h7)).1).trans (unhide h7)
  have r9 := (hb4.block b9 (Array.getElem?_eq_some_iff.1 (unhide h9)).1).trans (unhide h9)
  clear hs hRV hzV hb4 h7 h9 hV9 hVV hb9 hcV hbV x0 y0 y1 g1 g2 g3 d9
  have f70 : w4.cell? ⟨b7, 0, none⟩ = some (.int .i64 lo) := (cell_of_row _ _ 0 _ _ _ r7).trans rfl
  have f71 : w4.cell? ⟨b7, 1, none⟩ = some (.int .i64 pk) := (cell_of_row _ _ 1 _ _ _ r7).trans rfl
  have f72 : w4.cell? ⟨b7, 2, none⟩ = some (.int .i64 hi) := (cell_of_row _ _ 2 _ _ _ r7).trans rfl
  have f9 : w4.cell? ⟨b9, 0, none⟩ = some (.int .i64 N0) := (cell_of_row _ _ 0 _ _ _ r9).trans rfl
  have f9' : w4.cell? ⟨b9, 1, none⟩ = some (.int .i64 (D0 : Int)) := (cell_of_row _ _ 1 _ _ _ r9).trans rfl
  replace r7 := hide r7; replace r9 := hide r9
  replace hvd := unhide hvd
  by_cases hp : pk = 0
  · have kN := (tq_peak (t := (lo, pk, hi)) (v := pv) (Or.inl hp)).1
    have kD := (tq_peak (t := (lo, pk, hi)) (v := pv) (Or.inl hp)).2
    rw [hN0] at kN
    rw [hD0] at kD
    rw [kN] at f9
    rw [kD] at f9'
    have kp : (pk == 0) = true := by simp [hp]
    clear kN kD hN0 hD0 bN0 bD0
    go_wp2_with fail
    go_ret
    exact ⟨rfl, unhide hz⟩
  · have kp : (pk == 0) = false := by simp [hp]
    by_cases e1 : pv = pk
    · by_cases e2 : pv ≤ lo
      · by_cases e3 : hi ≤ pv
        · have k1 : (pv != pk) = false := by simp [e1]
          have k1' : (pv == pk) = true := by simp [e1]
          have k2 : decide (pv ≤ lo) = true := by simp; omega
          have k3 : decide (hi ≤ pv) = true := by simp; omega
          go_wp2_with fail
          go_ret
          exact ⟨rfl, unhide hz⟩
        · have k1 : (pv != pk) = false := by simp [e1]
          have k1' : (pv == pk) = true := by simp [e1]
          have k2 : decide (pv ≤ lo) = true := by simp; omega
          have k3 : decide (hi ≤ pv) = false := by simp; omega
          go_wp2_with fail
          go_ret
          exact ⟨rfl, unhide hz⟩
      · by_cases e3 : hi ≤ pv
        · have k1 : (pv != pk) = false := by simp [e1]
          have k1' : (pv == pk) = true := by simp [e1]
          have k2 : decide (pv ≤ lo) = false := by simp; omega
          have k3 : decide (hi ≤ pv) = true := by simp; omega
          go_wp2_with fail
          go_ret
          exact ⟨rfl, unhide hz⟩
        · have k1 : (pv != pk) = false := by simp [e1]
          have k1' : (pv == pk) = true := by simp [e1]
          have k2 : decide (pv ≤ lo) = false := by simp; omega
          have k3 : decide (hi ≤ pv) = false := by simp; omega
          go_wp2_with fail
          go_ret
          exact ⟨rfl, unhide hz⟩
    · by_cases e2 : pv ≤ lo
      · by_cases e3 : hi ≤ pv
        · exfalso
          omega
        · have k1 : (pv != pk) = true := by simp [e1]
          have k1' : (pv == pk) = false := by simp [e1]
          have k2 : decide (pv ≤ lo) = true := by simp; omega
          have k3 : decide (hi ≤ pv) = false := by simp; omega
          have kN : N0 = 0 := by rw [← hN0]; exact tq_out (by simp; exact ⟨hp, e1⟩) (by show pv ≤ lo ∨ hi ≤ pv; omega)
          rw [kN] at f9
          clear kN bN0 hN0
          go_wp2_with fail
          go_ret
          exact ⟨rfl, unhide hz⟩
      · by_cases e3 : hi ≤ pv
        · have k1 : (pv != pk) = true := by simp [e1]
          have k1' : (pv == pk) = false := by simp [e1]
          have k2 : decide (pv ≤ lo) = false := by simp; omega
          have k3 : decide (hi ≤ pv) = true := by simp; omega
          have kN : N0 = 0 := by rw [← hN0]; exact tq_out (by simp; exact ⟨hp, e1⟩) (by show pv ≤ lo ∨ hi ≤ pv; omega)
          rw [kN] at f9
          clear kN bN0 hN0
          go_wp2_with fail
          go_ret
          exact ⟨rfl, unhide hz⟩
        · have k1 : (pv != pk) = true := by simp [e1]
          have k1' : (pv == pk) = false := by simp [e1]
          have k2 : decide (pv ≤ lo) = false := by simp; omega
          have k3 : decide (hi ≤ pv) = false := by simp; omega
          have m1 : decide (pv - 1 < lo) = false := by simp; omega
          have m2 : decide (hi < pv + 1) = false := by simp; omega
          have hln := tq_line (t := (lo, pk, hi)) (v := pv) hvd hp e1 (by show lo ≤ pv - 1; omega) (by show pv + 1 ≤ hi; omega)
          have n1 := tq_bd (t := (lo, pk, hi)) (v := pv - 1) hvd
          have n2 := tq_bd (t := (lo, pk, hi)) (v := pv + 1) hvd
          have p1 := (tq (lo, pk, hi) (pv - 1)).den_pos
          have p2 := (tq (lo, pk, hi) (pv + 1)).den_pos
          obtain ⟨bA, VA, hbA, hVA, st⟩ := (St.start w4).new (Obj.cells #[.int .i64 (pv - 1)] 3)
          have hsA := scalar_one (rc := rc) ((unhide hR).under st.below) (unhide hall) (st.get 0 rfl) (v := pv - 1) ⟨by omega, by omega⟩
          have hbl := st.below
          clear st
          have hcB := fun (W : World) (b : Nat) (hW : Below w4.heap.size w4 W) (h : W.heap[b]? = some (.cells #[.int .i64 (pv + 1)] 3 (0, 0))) => scalar_one (rc := rc) (((unhide hR)).under hW) (unhide hall) h (v := pv + 1) ⟨by omega, by omega⟩
          obtain ⟨N1, hN1⟩ : ∃ x, (tq (lo, pk, hi) (pv - 1)).num = x := ⟨_, rfl⟩
          obtain ⟨D1, hD1⟩ : ∃ x : Nat, (tq (lo, pk, hi) (pv - 1)).den = x := ⟨_, rfl⟩
          obtain ⟨N2, hN2⟩ : ∃ x, (tq (lo, pk, hi) (pv + 1)).num = x := ⟨_, rfl⟩
          obtain ⟨D2, hD2⟩ : ∃ x : Nat, (tq (lo, pk, hi) (pv + 1)).den = x := ⟨_, rfl⟩
          rw [hN1, hD1] at hsA n1
          rw [hD1] at p1
          simp only [hN2, hD2] at hcB n2 p2
          rw [hN0, hD0, hN1, hD1, hN2, hD2] at hln
          clear hN0 hD0 hN1 hD1 hN2 hD2
          obtain ⟨x1, x2, x3, x4, x5, x6, x7⟩ := tent_wraps bN0.1 bN0.2.1 bN0.2.2 bD0 n1.1 n1.2.1 n1.2.2 p1 n2.1 n2.2.1 n2.2.2 p2
          replace hln : (2 * N0 * (D1 : Int) * (D2 : Int) == (D0 : Int) * (N1 * (D2 : Int) + N2 * (D1 : Int))) = true := beq_iff_eq.2 hln
          replace hsA := hide hsA; replace hbl := hide hbl; replace hbA := hide hbA; replace hVA := hide hVA; replace hcB := hide hcB; replace hln := hide hln; replace x1 := hide x1; replace x2 := hide x2; replace x3 := hide x3; replace x4 := hide x4; replace x5 := hide x5; replace x6 := hide x6; replace x7 := hide x7
          clear hR hall hvd r7 r9
          go_wp2_with fail
          rw [unhide hbA, unhide hVA]
          refine (unhide hsA).mono ?_
          rintro e w5 ⟨rfl, hb5⟩
          have hb5' := (unhide hbl).trans (hb5.mono (unhide hbl).size)
          clear hb5 hbl hsA hbA hVA
          obtain ⟨bB, VB, hbB, hVB, st⟩ := (St.start w5).new (Obj.cells #[.int .i64 (pv + 1)] 3)
          have hb6 := hb5'.trans (st.below.mono hb5'.size)
          have hsB := (unhide hcB) VB bB hb6 (st.get 0 rfl)
          clear st hb5' hcB
          replace hsB := hide hsB; replace hb6 := hide hb6; replace hbB := hide hbB; replace hVB := hide hVB
          go_wp2_with fail
          rw [unhide hbB, unhide hVB]
          refine (unhide hsB).mono ?_
          rintro e w6 ⟨rfl, hb7⟩
          have hbz := (unhide hb6).trans (hb7.mono (unhide hb6).size)
          have a9 := cell_under f9 hbz
          have a9' := cell_under f9' hbz
          replace hz := hide ((unhide hz).trans (hbz.mono (unhide hz).size))
          clear hb6 hb7 hsB hbB hVB hbz f9 f9' f70 f71 f72
          obtain ⟨b10, V10, hb10, hV10, st⟩ := (St.start w6).new (Obj.cells #[.int .i64 N1, .int .i64 (D1 : Int)] 44)
          obtain ⟨b11, V11, hb11, hV11, st⟩ := st.new (Obj.cells #[.int .i64 N2, .int .i64 (D2 : Int)] 44)
          have hc1 : b10 + 1 = b11 := by rw [← hb11, ← hV10, World.size_alloc, hb10]
          replace a9 := cell_under a9 st.below
          replace a9' := cell_under a9' st.below
          have c0 := st.cell 1 rfl 0 (v := .int .i64 N1) rfl
          have c1 := st.cell 1 rfl 1 (v := .int .i64 (D1 : Int)) rfl
          have d0 := st.cell 0 rfl 0 (v := .int .i64 N2) rfl
          have d1 := st.cell 0 rfl 1 (v := .int .i64 (D2 : Int)) rfl
          replace hz := hide ((unhide hz).trans (st.below.mono (unhide hz).size))
          clear st hb11
          replace a9 := hide a9; replace a9' := hide a9'; replace c0 := hide c0; replace c1 := hide c1; replace d0 := hide d0; replace d1 := hide d1; replace hb10 := hide hb10; replace hV10 := hide hV10; replace hV11 := hide hV11; replace hc1 := hide hc1
          go_upto_region 15 with fail
          rw [unhide hb10, unhide hc1, unhide hV10, unhide hV11]
          replace a9 := unhide a9; replace a9' := unhide a9'; replace c0 := unhide c0; replace c1 := unhide c1; replace d0 := unhide d0; replace d1 := unhide d1
          have y1 : decide ((D1 : Int) < 1) = false := by simp; omega
          have y2 : decide ((D2 : Int) < 1) = false := by simp; omega
          replace x1 := unhide x1; replace x2 := unhide x2; replace x3 := unhide x3; replace x4 := unhide x4; replace x5 := unhide x5; replace x6 := unhide x6; replace x7 := unhide x7; replace hln := unhide hln
          go_wp2_with fail
          go_ret
          exact ⟨rfl, unhide hz⟩
end Go.Proofs.Ythkppilelpaieaa
