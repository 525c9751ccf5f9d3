/- The walk of AxisMonotone. -/
import Derived.Test.YthkppilelpaieaaAxI
import Derived.Test.YthkppilelpaieaaAxMP
import Derived.Test.YthkppilelpaieaaAx16
namespace Go.Proofs.Ythkppilelpaieaa
open Go.RowKit
set_option maxHeartbeats 8000000 in
set_option maxRecDepth 100000 in
theorem axisMonotone_any (a : Option Addr) (n c : Nat) (L : List Int) (u v : Int) (w : World) (hl : Lst Enc.int w (fun b => b < w.heap.size) a n L) (hn : n ≤ c) (hc : c ≤ maxLen) (hu : -9223372036854775808 ≤ u ∧ u ≤ 9223372036854775807) (hv : -9223372036854775808 ≤ v ∧ v ≤ 9223372036854775807) :
    Calls Try.prog 5 #[.slice a n c, .int .i64 u, .int .i64 v] w fun e w' => e = .returned (.bool true) ∧ Below w.heap.size w w' := by
  obtain ⟨gm, egm⟩ : ∃ gm : Nat, (min (n : Int) 30).toNat = gm := ⟨_, rfl⟩
  have mgm : gm ≤ c := by omega
  have ggn : gm ≤ n := by omega
  obtain ⟨q1, hq1⟩ : ∃ q, min u v = q := ⟨_, rfl⟩
  obtain ⟨q2, hq2⟩ : ∃ q, max u v = q := ⟨_, rfl⟩
  have bq1 : -9223372036854775808 ≤ q1 ∧ q1 ≤ 9223372036854775807 := by omega
  have bq2 : -9223372036854775808 ≤ q2 ∧ q2 ≤ 9223372036854775807 := by omega
  have hqq : q1 ≤ q2 := by omega
  replace egm := hide egm; replace hq1 := hide hq1; replace hq2 := hide hq2; replace hl := hide hl
  go_enter Try.func5, Try.ntmps5
  go_wp2_with fail
  refine (sanity_any _).mono ?_
  rintro e w1 ⟨rfl, hz1⟩
  have hr := amade_any a gm c (L.take gm) w1 (((unhide hl).under hz1).take ggn) (by omega)
  clear hl
  replace hr := hide hr; replace hz1 := hide hz1
  go_wp2_with fail
  rw [unhide egm]
  refine (unhide hr).mono ?_
  rintro e w2 ⟨ra, rc, l, rfl, hlst, h1, h2, h3, hval, hb2⟩
  have hz2 := hide ((unhide hz1).trans (hb2.mono (unhide hz1).size))
  clear hr hz1 hb2
  obtain ⟨m, hm⟩ : ∃ m, l.length = m := ⟨_, rfl⟩
  rw [hm] at hlst h1 h3
  rw [hm]
  replace hm := hide hm; replace hlst := hide hlst; replace hval := hide hval
  go_wp2_with fail
  go_loopw [29] (fun v wr => ∃ k : Nat, k ≤ m ∧ v = .int .i64 (k : Int) ∧ Below w2.heap.size w2 wr) (fun v _ => m - (intOf v).toNat)
  case atStart => exact ⟨0, by omega, rfl, Below.refl _ _⟩
  case round =>
    obtain ⟨k, hk, rfl, hbw⟩ := hrel
    obtain ⟨wo, rfl⟩ : ∃ wo : World, wo = wr := ⟨_, rfl⟩
    by_cases hlt : k < m
    · have tk : (k : Int) < (m : Int) := by omega
      obtain ⟨b1, o1, t, rfl, _, hx, hsz, i1, i2, i3, c0, c1, c2, c3⟩ := lst_axis ((unhide hlst).under hbw) hlt
      have hv := unhide hval t (List.mem_of_getElem? hx)
      clear hx
      have p1 := normA_mono hv hqq
      have p2 := normA_usual hv
      have p3 := normA_low hv
      have p4 := normA_high hv
      have p5 := normA_least hv q1
      have p6 := normA_most hv q2
      obtain ⟨s, lo, us, hi⟩ := t
      simp only at c0 c1 c2 c3 hsz i1 i2 i3 p1 p2 p3 p4 p5 p6
      have hv2 : -1000 ≤ lo ∧ lo ≤ us ∧ us ≤ hi ∧ hi ≤ 1000 := hv.2
      obtain ⟨X, hX⟩ : ∃ x, normA (s, lo, us, hi) q1 = x := ⟨_, rfl⟩
      obtain ⟨Y, hY⟩ : ∃ x, normA (s, lo, us, hi) q2 = x := ⟨_, rfl⟩
      obtain ⟨NL, hNL⟩ : ∃ x, normA (s, lo, us, hi) lo = x := ⟨_, rfl⟩
      obtain ⟨NH, hNH⟩ : ∃ x, normA (s, lo, us, hi) hi = x := ⟨_, rfl⟩
      have hNU := p2
      rw [hX, hY] at p1
      rw [hNL] at p3 p5
      rw [hNH] at p4 p6
      rw [hX] at p5
      rw [hY] at p6
      obtain ⟨bl, gl2⟩ : ∃ x, (lo == us) = x := ⟨_, rfl⟩
      obtain ⟨bh, gh2⟩ : ∃ x, (hi == us) = x := ⟨_, rfl⟩
      have gl : (NL != (-64)) = bl := p3.trans gl2
      have gh : (NH != 64) = bh := p4.trans gh2
      have gm2 : (bl != bl) = false := by simp
      have gh3 : (bh != bh) = false := by simp
      have g1 : decide (Y < X) = false := by simp; exact p1
      have g5 : decide (X < NL) = false := by simp; exact p5
      have g6 : decide (NH < Y) = false := by simp; exact p6
      clear p1 p2 p3 p4 p5 p6 i1 i2 i3
      replace hX := hide hX; replace hY := hide hY; replace hNL := hide hNL; replace hNH := hide hNH; replace hNU := hide hNU; replace gl := hide gl; replace gh := hide gh; replace gl2 := hide gl2; replace gh2 := hide gh2; replace gm2 := hide gm2; replace gh3 := hide gh3; replace g1 := hide g1; replace g5 := hide g5; replace g6 := hide g6
      obtain ⟨b9, V9, hb9, hV9, st⟩ := (St.start wo).new (Obj.cells #[.string s, .int .i64 lo, .int .i64 us, .int .i64 hi] 29)
      obtain ⟨b10, V10, hb10, hV10, st⟩ := st.new (Obj.cells #[.string s, .int .i64 lo, .int .i64 us, .int .i64 hi] 29)
      have hc9 : b9 + 1 = b10 := by rw [← hb10, ← hV9, World.size_alloc, hb9]
      have h9 := st.get 1 rfl
      have h10 := st.get 0 rfl
      have hzo := hbw.trans (st.below.mono hbw.size)
      have d0 : V9.cell? ⟨b9, 0, none⟩ = some (.string s) := by rw [← hV9, ← hb9]; exact (cell_of_row _ _ 0 _ _ _ (heap_alloc_new _ _)).trans rfl
      have d1 : V9.cell? ⟨b9, 1, none⟩ = some (.int .i64 lo) := by rw [← hV9, ← hb9]; exact (cell_of_row _ _ 1 _ _ _ (heap_alloc_new _ _)).trans rfl
      have d2 : V9.cell? ⟨b9, 2, none⟩ = some (.int .i64 us) := by rw [← hV9, ← hb9]; exact (cell_of_row _ _ 2 _ _ _ (heap_alloc_new _ _)).trans rfl
      have d3 : V9.cell? ⟨b9, 3, none⟩ = some (.int .i64 hi) := by rw [← hV9, ← hb9]; exact (cell_of_row _ _ 3 _ _ _ (heap_alloc_new _ _)).trans rfl
      clear st hbw
      replace h9 := hide h9; replace h10 := hide h10; replace hzo := hide hzo; replace hb9 := hide hb9; replace hV9 := hide hV9; replace hV10 := hide hV10; replace hc9 := hide hc9; replace hb10 := hide hb10; replace d0 := hide d0; replace d1 := hide d1; replace d2 := hide d2; replace d3 := hide d3
      go_upto_region 5 with fail
      rw [unhide hV9]
      try rw [unhide hb9]
      clear hb9 hV9 c0 c1 c2 c3
      replace d0 := unhide d0; replace d1 := unhide d1; replace d2 := unhide d2; replace d3 := unhide d3
      go_upto_region 6 with fail
      first | rw [unhide hV10, unhide hb10] | rw [unhide hV10, unhide hc9]
      clear d0 d1 d2 d3
      obtain ⟨bA, VA, hbA, hVA, st⟩ := (St.start V10).new (Obj.cells #[.int .i64 q1] 3)
      have hcall := normal_one hsz hv ⟨by omega, by omega⟩ (unhide hX) b10 bA VA ((st.below.block b10 (Array.getElem?_eq_some_iff.1 (unhide h10)).1).trans (unhide h10)) (st.get 0 rfl)
      have hbl := hide st.below
      clear st
      replace hcall := hide hcall; replace hbA := hide hbA; replace hVA := hide hVA
      go_wp2_with fail
      rw [unhide hq1]
      rw [unhide hVA]
      try rw [unhide hbA]
      refine (unhide hcall).mono ?_
      rintro e W0 ⟨bx0, ox0, qx0, rfl, cx0, hbx⟩
      have hbt := (unhide hbl).trans (hbx.mono (unhide hbl).size)
      have h9x := (hbt.block b9 (Array.getElem?_eq_some_iff.1 (unhide h9)).1).trans (unhide h9)
      have h10x := (hbt.block b10 (Array.getElem?_eq_some_iff.1 (unhide h10)).1).trans (unhide h10)
      have hzx := (unhide hzo).trans (hbt.mono (unhide hzo).size)
      clear hcall hbA hVA hbl hbx hbt h9 h10 hzo
      have h9 := hide h9x
      have h10 := hide h10x
      have hzo := hide hzx
      replace cx0 := hide cx0
      clear h9x h10x hzx
      obtain ⟨bA, VA, hbA, hVA, st⟩ := (St.start W0).new (Obj.cells #[.int .i64 q2] 3)
      have hcall := normal_one hsz hv ⟨by omega, by omega⟩ (unhide hY) b10 bA VA ((st.below.block b10 (Array.getElem?_eq_some_iff.1 (unhide h10)).1).trans (unhide h10)) (st.get 0 rfl)
      have hbl := hide st.below
      clear st
      replace hcall := hide hcall; replace hbA := hide hbA; replace hVA := hide hVA
      go_wp2_with fail
      rw [unhide hq2]
      rw [unhide hVA]
      try rw [unhide hbA]
      refine (unhide hcall).mono ?_
      rintro e W1 ⟨bx1, ox1, qx1, rfl, cx1, hbx⟩
      have hbt := (unhide hbl).trans (hbx.mono (unhide hbl).size)
      have h9x := (hbt.block b9 (Array.getElem?_eq_some_iff.1 (unhide h9)).1).trans (unhide h9)
      have h10x := (hbt.block b10 (Array.getElem?_eq_some_iff.1 (unhide h10)).1).trans (unhide h10)
      have cy0 := cell_under (unhide cx0) hbt
      have hzx := (unhide hzo).trans (hbt.mono (unhide hzo).size)
      clear hcall hbA hVA hbl hbx hbt h9 h10 hzo cx0
      have h9 := hide h9x
      have h10 := hide h10x
      have hzo := hide hzx
      have cx0 := hide cy0
      replace cx1 := hide cx1
      clear h9x h10x hzx cy0
      obtain ⟨bA, VA, hbA, hVA, st⟩ := (St.start W1).new (Obj.cells #[.int .i64 lo] 3)
      have hcall := normal_one hsz hv ⟨by omega, by omega⟩ (unhide hNL) b10 bA VA ((st.below.block b10 (Array.getElem?_eq_some_iff.1 (unhide h10)).1).trans (unhide h10)) (st.get 0 rfl)
      have hbl := hide st.below
      have e1 : W1.cell? ⟨b9, 1, none⟩ = some (.int .i64 lo) := (cell_of_row _ _ 1 _ _ _ (unhide h9)).trans rfl
      clear st
      replace hcall := hide hcall; replace hbA := hide hbA; replace hVA := hide hVA
      go_wp2_with fail
      rw [unhide hVA]
      try rw [unhide hbA]
      refine (unhide hcall).mono ?_
      rintro e W2 ⟨bx2, ox2, qx2, rfl, cx2, hbx⟩
      have hbt := (unhide hbl).trans (hbx.mono (unhide hbl).size)
      have h9x := (hbt.block b9 (Array.getElem?_eq_some_iff.1 (unhide h9)).1).trans (unhide h9)
      have h10x := (hbt.block b10 (Array.getElem?_eq_some_iff.1 (unhide h10)).1).trans (unhide h10)
      have cy0 := cell_under (unhide cx0) hbt
      have cy1 := cell_under (unhide cx1) hbt
      have hzx := (unhide hzo).trans (hbt.mono (unhide hzo).size)
      clear hcall hbA hVA hbl hbx hbt h9 h10 hzo e1 cx0 cx1
      have h9 := hide h9x
      have h10 := hide h10x
      have hzo := hide hzx
      have cx0 := hide cy0
      have cx1 := hide cy1
      replace cx2 := hide cx2
      clear h9x h10x hzx cy0 cy1
      obtain ⟨bA, VA, hbA, hVA, st⟩ := (St.start W2).new (Obj.cells #[.int .i64 hi] 3)
      have hcall := normal_one hsz hv ⟨by omega, by omega⟩ (unhide hNH) b10 bA VA ((st.below.block b10 (Array.getElem?_eq_some_iff.1 (unhide h10)).1).trans (unhide h10)) (st.get 0 rfl)
      have hbl := hide st.below
      have e1 : W2.cell? ⟨b9, 3, none⟩ = some (.int .i64 hi) := (cell_of_row _ _ 3 _ _ _ (unhide h9)).trans rfl
      clear st
      replace hcall := hide hcall; replace hbA := hide hbA; replace hVA := hide hVA
      go_wp2_with fail
      rw [unhide hVA]
      try rw [unhide hbA]
      refine (unhide hcall).mono ?_
      rintro e W3 ⟨bx3, ox3, qx3, rfl, cx3, hbx⟩
      have hbt := (unhide hbl).trans (hbx.mono (unhide hbl).size)
      have h9x := (hbt.block b9 (Array.getElem?_eq_some_iff.1 (unhide h9)).1).trans (unhide h9)
      have h10x := (hbt.block b10 (Array.getElem?_eq_some_iff.1 (unhide h10)).1).trans (unhide h10)
      have cy0 := cell_under (unhide cx0) hbt
      have cy1 := cell_under (unhide cx1) hbt
      have cy2 := cell_under (unhide cx2) hbt
      have hzx := (unhide hzo).trans (hbt.mono (unhide hzo).size)
      clear hcall hbA hVA hbl hbx hbt h9 h10 hzo e1 cx0 cx1 cx2
      have h9 := hide h9x
      have h10 := hide h10x
      have hzo := hide hzx
      have cx0 := hide cy0
      have cx1 := hide cy1
      have cx2 := hide cy2
      replace cx3 := hide cx3
      clear h9x h10x hzx cy0 cy1 cy2
      obtain ⟨bA, VA, hbA, hVA, st⟩ := (St.start W3).new (Obj.cells #[.int .i64 us] 3)
      have hcall := normal_one hsz hv ⟨by omega, by omega⟩ (unhide hNU) b10 bA VA ((st.below.block b10 (Array.getElem?_eq_some_iff.1 (unhide h10)).1).trans (unhide h10)) (st.get 0 rfl)
      have hbl := hide st.below
      have e1 : W3.cell? ⟨b9, 2, none⟩ = some (.int .i64 us) := (cell_of_row _ _ 2 _ _ _ (unhide h9)).trans rfl
      clear st
      replace hcall := hide hcall; replace hbA := hide hbA; replace hVA := hide hVA
      go_wp2_with fail
      rw [unhide hVA]
      try rw [unhide hbA]
      refine (unhide hcall).mono ?_
      rintro e W4 ⟨bx4, ox4, qx4, rfl, cx4, hbx⟩
      have hbt := (unhide hbl).trans (hbx.mono (unhide hbl).size)
      have h9x := (hbt.block b9 (Array.getElem?_eq_some_iff.1 (unhide h9)).1).trans (unhide h9)
      have h10x := (hbt.block b10 (Array.getElem?_eq_some_iff.1 (unhide h10)).1).trans (unhide h10)
      have cy0 := cell_under (unhide cx0) hbt
      have cy1 := cell_under (unhide cx1) hbt
      have cy2 := cell_under (unhide cx2) hbt
      have cy3 := cell_under (unhide cx3) hbt
      have hzx := (unhide hzo).trans (hbt.mono (unhide hzo).size)
      clear hcall hbA hVA hbl hbx hbt h9 h10 hzo e1 cx0 cx1 cx2 cx3
      have h9 := hide h9x
      have h10 := hide h10x
      have hzo := hide hzx
      have cx0 := hide cy0
      have cx1 := hide cy1
      have cx2 := hide cy2
      have cx3 := hide cy3
      replace cx4 := hide cx4
      clear h9x h10x hzx cy0 cy1 cy2 cy3
      go_upto_region 13 with fail
      have e1 : W4.cell? ⟨b9, 1, none⟩ = some (.int .i64 lo) := (cell_of_row _ _ 1 _ _ _ (unhide h9)).trans rfl
      have e2 : W4.cell? ⟨b9, 2, none⟩ = some (.int .i64 us) := (cell_of_row _ _ 2 _ _ _ (unhide h9)).trans rfl
      have e3 : W4.cell? ⟨b9, 3, none⟩ = some (.int .i64 hi) := (cell_of_row _ _ 3 _ _ _ (unhide h9)).trans rfl
      replace cx0 := unhide cx0
      replace cx1 := unhide cx1
      replace cx2 := unhide cx2
      replace cx3 := unhide cx3
      replace cx4 := unhide cx4
      replace g1 := unhide g1; replace gl := unhide gl; replace gm2 := unhide gm2; replace gl2 := unhide gl2; replace gh := unhide gh; replace gh2 := unhide gh2; replace gh3 := unhide gh3; replace g5 := unhide g5; replace g6 := unhide g6
      go_quiet (fail)
      go_wp2_with fail
      go_roundw
      case rel => exact ⟨k + 1, by omega, by go_num, ⟨(unhide hzo).os, (unhide hzo).tape, (unhide hzo).output, (unhide hzo).size, (unhide hzo).block⟩⟩
      case measure => simp [intOf]; omega
    · have hke : k = m := by omega
      subst hke
      have hz3 := hide ((unhide hz2).trans (hbw.mono (unhide hz2).size))
      clear hbw hz2
      go_wp2_with fail
      go_ret
      exact ⟨rfl, unhide hz3⟩
end Go.Proofs.Ythkppilelpaieaa
