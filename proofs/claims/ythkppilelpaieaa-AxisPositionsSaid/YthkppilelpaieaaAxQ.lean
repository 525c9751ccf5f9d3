/- The walk of AxisPositions. -/
import Derived.Test.YthkppilelpaieaaAx17
import Derived.Test.YthkppilelpaieaaOpenA
namespace Go.Proofs.Ythkppilelpaieaa
open Go.RowKit
set_option maxHeartbeats 8000000 in
set_option maxRecDepth 100000 in
theorem axisPositions_any (a : Option Addr) (n c : Nat) (L : List Int) (ua : Option Addr) (un uc : Nat) (U : List Int) (ta : Option Addr) (tn tc : Nat) (ts : List Axis) (cs : Array Value) (y : List Int) (w : World) (hl : Lst Enc.int w (fun b => b < w.heap.size) a n L) (hn : n ≤ c) (hc : c ≤ maxLen) (hu : Lst Enc.int w (fun b => b < w.heap.size) ua un U) (hun : un ≤ uc) (_ : uc ≤ maxLen) (ht : Lst Enc.axis w (fun b => b < w.heap.size) ta tn ts) (htn : tn ≤ tc) (_ : tc ≤ maxLen) (hy : (Enc.arr 3 Enc.int).rep w (fun b => b < w.heap.size) cs.toList y) :
    Calls Try.prog 3 #[.slice a n c, .slice ua un uc, .slice ta tn tc, .agg cs] w fun e w' => e = .returned (.bool true) ∧ Below w.heap.size w w' := by
  obtain ⟨c0, c1, c2, l0, u0, l1, u1, l2, u2, rfl⟩ := arr3_open hy
  clear hy
  obtain ⟨gm, egm⟩ : ∃ gm : Nat, (min (n : Int) 30).toNat = gm := ⟨_, rfl⟩
  obtain ⟨um, eum⟩ : ∃ gm : Nat, (min (un : Int) 4).toNat = gm := ⟨_, rfl⟩
  obtain ⟨tm, etm⟩ : ∃ gm : Nat, (min (tn : Int) 5).toNat = gm := ⟨_, rfl⟩
  have mgm : gm ≤ c := by omega
  have ggn : gm ≤ n := by omega
  have gg30 : gm ≤ 30 := by omega
  have uum : um ≤ uc := by omega
  have uun : um ≤ un := by omega
  have uu4 : um ≤ 4 := by omega
  have ttm : tm ≤ tc := by omega
  have ttn : tm ≤ tn := by omega
  have tt5 : tm ≤ 5 := by omega
  obtain ⟨b7, V7, hb7, hV7, st⟩ := (St.start w).new (Obj.cells #[.int .i64 c0, .int .i64 c1, .int .i64 c2] 24)
  have h7 := hide (st.get 0 rfl)
  have hz := hide st.below
  clear st
  replace egm := hide egm; replace eum := hide eum; replace etm := hide etm
  replace hl := hide hl; replace hu := hide hu; replace ht := hide ht; replace hb7 := hide hb7; replace hV7 := hide hV7
  go_enter Try.func3, Try.ntmps3
  go_wp2_with fail
  rw [unhide hV7]
  try rw [unhide hb7]
  refine (sanity_any _).mono ?_
  rintro e w1 ⟨rfl, hb1⟩
  have hz1 := hide ((unhide hz).trans (hb1.mono (unhide hz).size))
  have h71 := hide ((hb1.block b7 (Array.getElem?_eq_some_iff.1 (unhide h7)).1).trans (unhide h7))
  clear hz h7 hb1 hV7 hb7
  go_wp2_with fail
  go_quiet (fail)
  rw [unhide egm, unhide eum, unhide etm]
  obtain ⟨w2, hw2⟩ : ∃ W : World, w1.drewN nq = W := ⟨_, rfl⟩
  have hz2 : Below w.heap.size w w2 := by rw [← hw2]; exact ⟨(unhide hz1).os, (unhide hz1).tape, (unhide hz1).output, (unhide hz1).size, (unhide hz1).block⟩
  have h72 : w2.heap[b7]? = some (.cells #[.int .i64 c0, .int .i64 c1, .int .i64 c2] 24 (0, 0)) := by rw [← hw2]; exact unhide h71
  rw [hw2]
  clear hw2 hz1 h71
  have hL2 := ((unhide hl).under hz2).take ggn
  have hU2 := ((unhide hu).under hz2).take uun
  have hT2 := ((unhide ht).under hz2).take ttn
  clear hl hu ht
  generalize L.take gm = L2 at *
  generalize U.take um = U2 at *
  generalize ts.take tm = T2 at *
  have hr := amade_own a gm c L2 w2 hL2 (by omega)
  replace hL2 := hide hL2; replace hU2 := hide hU2; replace hT2 := hide hT2; replace hz2 := hide hz2; replace h72 := hide h72; replace hr := hide hr
  go_wp2_with fail
  refine (unhide hr).mono ?_
  rintro e w3 ⟨ra, rc, lm, rfl, hM, hM1, hM2, hM3, -, hb3, -⟩
  obtain ⟨n1, hn1⟩ : ∃ m, lm.length = m := ⟨_, rfl⟩
  rw [hn1] at hM hM1 hM3
  rw [hn1]
  have hr' := amade_own a gm c L2 w3 ((unhide hL2).under hb3) (by omega)
  have hU3 := hide ((unhide hU2).under hb3)
  have hT3 := hide ((unhide hT2).under hb3)
  have hz3 := hide ((unhide hz2).trans (hb3.mono (unhide hz2).size))
  have h73 := hide ((hb3.block b7 (Array.getElem?_eq_some_iff.1 (unhide h72)).1).trans (unhide h72))
  clear hr hb3 hL2 hU2 hT2 hz2 h72
  replace hr' := hide hr'; replace hM := hide hM; replace hn1 := hide hn1
  go_wp2_with fail
  refine (unhide hr').mono ?_
  rintro e w4 ⟨rb, sc, lo, rfl, hO, hO1, hO2, hO3, -, hb4, hown⟩
  obtain ⟨n2, hn2⟩ : ∃ m, lo.length = m := ⟨_, rfl⟩
  rw [hn2] at hO hO1 hO3 hown
  rw [hn2]
  clear hr'
  replace hO := hide hO; replace hb4 := hide hb4; replace hown := hide hown; replace hn2 := hide hn2
  go_upto_if 43 with fail
  go_cut [] (fun wr => ∃ l3 : List Axis, Lst Enc.axis wr (· < wr.heap.size) rb n2 l3 ∧ Below w3.heap.size w3 wr)
  case first =>
    by_cases h0 : n2 = 0
    · have t0 : ¬ (0 : Int) < (n2 : Int) := by omega
      replace h0 := hide h0
      go_wp2_with fail
      go_meet
      exact ⟨lo, unhide hO, unhide hb4⟩
    · have t0 : (0 : Int) < (n2 : Int) := by omega
      obtain ⟨g, gs, rfl, hg3, hgs⟩ := unhide hown (by omega)
      have hA := AxB.of (unhide hO) hgs
      have r7 := ((unhide hb4).block b7 (Array.getElem?_eq_some_iff.1 (unhide h73)).1).trans (unhide h73)
      have d0 : w4.cell? ⟨b7, 0, none⟩ = some (.int .i64 c0) := (cell_of_row _ _ 0 _ _ _ r7).trans rfl
      have d1 : w4.cell? ⟨b7, 1, none⟩ = some (.int .i64 c1) := (cell_of_row _ _ 1 _ _ _ r7).trans rfl
      have d2 : w4.cell? ⟨b7, 2, none⟩ = some (.int .i64 c2) := (cell_of_row _ _ 2 _ _ _ r7).trans rfl
      obtain ⟨z0, hz0⟩ : ∃ z, IntKind.u64.wrap c0 = z := ⟨_, rfl⟩
      obtain ⟨z1, hzz1⟩ : ∃ z, IntKind.u64.wrap c1 = z := ⟨_, rfl⟩
      obtain ⟨z2, hzz2⟩ : ∃ z, IntKind.u64.wrap c2 = z := ⟨_, rfl⟩
      obtain ⟨i, hri, hi, bz0⟩ := rem_nat hz0 (show 1 ≤ n2 by omega)
      obtain ⟨sw, hrs, hsw, bz1⟩ := rem_nat (m := 4) hzz1 (by omega)
      obtain ⟨j, hrj, hj, bz2⟩ := rem_nat (m := 5) hzz2 (by omega)
      have hrs' : Int.tmod z1 4 = (sw : Int) := hrs
      have hrj' : Int.tmod z2 5 = (j : Int) := hrj
      have hx : lo[i]? = some (lo[i]'(by rw [unhide hn2]; exact hi)) := List.getElem?_eq_getElem _
      clear hgs r7 hrs hrj hown
      replace h0 := hide h0
      obtain rfl | rfl | rfl | rfl : sw = 0 ∨ sw = 1 ∨ sw = 2 ∨ sw = 3 := by omega
      · have x0 : (0 : Nat) = 0 := rfl
        obtain ⟨l3, hl3, hP⟩ := hA.num (by rw [unhide hn2]; exact hi) c2 ⟨l2, u2⟩ 1 (by decide)
        obtain ⟨_, _, _, _, hfz⟩ := hA.cell hx
        obtain ⟨e0, e1, e2, e3, _⟩ := hA.cell hx
        have ff := hfz (i * 4 + 1)
        have hL3 := hP.lst
        rw [hl3, unhide hn2] at hL3
        have hbs := (unhide hb4).setCell (p := ⟨g, i * 4 + 1, none⟩) hg3 (.int .i64 c2)
        clear hP hA hl3 hfz hx x0
        replace hL3 := hide hL3; replace hbs := hide hbs
        go_wp2_with fail
        go_meet
        exact ⟨l3, unhide hL3, unhide hbs⟩
      · have x0 : (1 : Nat) = 1 := rfl
        obtain ⟨l3, hl3, hP⟩ := hA.num (by rw [unhide hn2]; exact hi) c2 ⟨l2, u2⟩ 2 (by decide)
        obtain ⟨_, _, _, _, hfz⟩ := hA.cell hx
        obtain ⟨e0, e1, e2, e3, _⟩ := hA.cell hx
        have ff := hfz (i * 4 + 2)
        have hL3 := hP.lst
        rw [hl3, unhide hn2] at hL3
        have hbs := (unhide hb4).setCell (p := ⟨g, i * 4 + 2, none⟩) hg3 (.int .i64 c2)
        clear hP hA hl3 hfz hx x0
        replace hL3 := hide hL3; replace hbs := hide hbs
        go_wp2_with fail
        go_meet
        exact ⟨l3, unhide hL3, unhide hbs⟩
      · have x0 : (2 : Nat) = 2 := rfl
        obtain ⟨l3, hl3, hP⟩ := hA.num (by rw [unhide hn2]; exact hi) c2 ⟨l2, u2⟩ 3 (by decide)
        obtain ⟨_, _, _, _, hfz⟩ := hA.cell hx
        obtain ⟨e0, e1, e2, e3, _⟩ := hA.cell hx
        have ff := hfz (i * 4 + 3)
        have hL3 := hP.lst
        rw [hl3, unhide hn2] at hL3
        have hbs := (unhide hb4).setCell (p := ⟨g, i * 4 + 3, none⟩) hg3 (.int .i64 c2)
        clear hP hA hl3 hfz hx x0
        replace hL3 := hide hL3; replace hbs := hide hbs
        go_wp2_with fail
        go_meet
        exact ⟨l3, unhide hL3, unhide hbs⟩
      · obtain ⟨bT, VT, hbT, hVT, st⟩ := (St.start w4).new (Obj.cells #[.string ⟨#[]⟩, .string ⟨#[119, 103, 104, 116]⟩, .string ⟨#[87, 103, 104, 116]⟩, .string ⟨#[97, 98, 99, 100, 101]⟩, .string ⟨#[122]⟩] 9)
        obtain ⟨sx, hsx, hcx⟩ := odd_cell (st.get 0 rfl) hj
        have hA2 := hA.kept st.below
        obtain ⟨l3, hl3, hP⟩ := hA2.str (by rw [unhide hn2]; exact hi) sx (by unfold maxLen; omega)
        obtain ⟨e0, e1, e2, e3, hfz⟩ := hA2.cell hx
        have ff := hfz (i * 4)
        have hL3 := hP.lst
        rw [hl3, unhide hn2] at hL3
        have hb44 := unhide hb4
        have hbs := (hb44.trans (st.below.mono hb44.size)).setCell (p := ⟨g, i * 4, none⟩) hg3 (.string sx)
        have dd2 := cell_under d2 st.below
        subst hbT
        subst hVT
        clear hP hA hA2 hl3 hfz hx st hb44
        replace hL3 := hide hL3; replace hbs := hide hbs
        go_wp2_with fail
        go_meet
        exact ⟨l3, unhide hL3, unhide hbs⟩
  case rest =>
    obtain ⟨l3, hL3, hbc⟩ := hcut
    have hMc := (unhide hM).under hbc
    have hUc := (unhide hU3).under hbc
    have hTc := (unhide hT3).under hbc
    have hzc := (unhide hz3).trans (hbc.mono (unhide hz3).size)
    clear hM hO hb4 hown hU3 hT3 hz3 h73 hbc hn1 hn2
    obtain ⟨bl, Vl, hbl, hVl, st⟩ := (St.start wc).new (Obj.cells #[.slice ra n1 rc, .slice rb n2 sc, .slice ta tm tc] 23)
    have hrow3 := st.get 0 rfl
    have hx3 : ∀ k, k < 3 → ∃ xa xn xc xl, Vl.cell? ⟨bl, k, none⟩ = some (.slice xa xn xc) ∧ Lst Enc.axis Vl (· < Vl.heap.size) xa xn xl ∧ xn ≤ xc ∧ xn ≤ 5 := fun k hk => by
      have hc : ∀ k, Vl.cell? ⟨bl, k, none⟩ = _ := fun k => cell_of_row _ _ k _ _ _ hrow3
      obtain rfl | rfl | rfl : k = 0 ∨ k = 1 ∨ k = 2 := by omega
      · exact ⟨_, _, _, _, (hc 0).trans rfl, hMc.under st.below, hM1, by omega⟩
      · exact ⟨_, _, _, _, (hc 1).trans rfl, hL3.under st.below, hO1, by omega⟩
      · exact ⟨_, _, _, _, (hc 2).trans rfl, hTc.under st.below, ttm, tt5⟩
    have hUl := hUc.under st.below
    have hzl := hzc.trans (st.below.mono hzc.size)
    clear hMc hUc hTc hzc hL3 st hrow3
    replace hx3 := hide hx3; replace hUl := hide hUl; replace hzl := hide hzl; replace hbl := hide hbl; replace hVl := hide hVl
    go_wp2_with fail
    rw [unhide hVl]
    try rw [unhide hbl]
    go_loopw [96] (fun v wr => ∃ k : Nat, k ≤ 3 ∧ v = .int .i64 (k : Int) ∧ Below Vl.heap.size Vl wr) (fun v _ => 3 - (intOf v).toNat)
    case atStart => exact ⟨0, by omega, rfl, Below.refl _ _⟩
    case round =>
      obtain ⟨k, hk, rfl, hbw⟩ := hrel
      obtain ⟨wo, rfl⟩ : ∃ wo : World, wo = wr := ⟨_, rfl⟩
      by_cases hlt : k < 3
      · have tk : (k : Int) < 3 := by omega
        obtain ⟨xa, xn, xc, xl, cx, hX, hxc, hx5⟩ := unhide hx3 k hlt
        have cxo := cell_under cx hbw
        have hXo := hX.under hbw
        have hUo := (unhide hUl).under hbw
        have hcn := normal_any xa xn xc xl ua um uc U2 wo hXo hxc hUo (by omega) (by omega)
        have hi2 := normS_i64 (l := xl) (u := U2)
        obtain ⟨NS, hNS⟩ : ∃ x, (normS xl U2).1 = x := ⟨_, rfl⟩
        obtain ⟨E, hE⟩ : ∃ x, (normS xl U2).2 = x := ⟨_, rfl⟩
        rw [hNS, hE] at hcn
        rw [hNS] at hi2
        have hnl : NS.length ≤ 1000000 := normS_small (by rw [hXo.1]; omega) hNS
        clear cx hX
        replace hXo := hide hXo; replace hUo := hide hUo; replace hcn := hide hcn; replace hi2 := hide hi2; replace hNS := hide hNS; replace hE := hide hE; replace hbw := hide hbw
        go_wp2_with fail
        refine (unhide hcn).mono ?_
        rintro e w5 ⟨v1, m1, rfl, hr1, hb5⟩
        obtain ⟨a1, k1, rfl, _, _, hS1⟩ := own_lst2 hr1 (unhide hi2)
        have hX5 := (unhide hXo).under hb5
        have hcn2 := rNormal_any xa xn xc xl ua um uc U2 w5 hX5 ((unhide hUo).under hb5) (by omega) (by omega)
        rw [unhide hNS, unhide hE] at hcn2
        have hS1' := hS1.wide (S' := (· < w5.heap.size)) (fun b hb => hb.2)
        clear hr1 hS1 hcn
        replace hcn2 := hide hcn2; replace hb5 := hide hb5; replace hS1' := hide hS1'; replace hX5 := hide hX5
        go_wp2_with fail
        refine (unhide hcn2).mono ?_
        rintro e w6 ⟨v2, m2, rfl, hr2, hb6⟩
        obtain ⟨a2, k2, rfl, _, _, hS2⟩ := own_lst2 hr2 (unhide hi2)
        have hS2' := hS2.wide (S' := (· < w6.heap.size)) (fun b hb => hb.2)
        have hS16 := (unhide hS1').under hb6
        have hX6 := (unhide hX5).under hb6
        have hb56 := (unhide hb5).trans (hb6.mono (unhide hb5).size)
        have hcc := fun (W : World) (hW : Below w6.heap.size w6 W) => check_any xa xn xc xl W (hX6.under hW) hxc (by omega)
        have hcd := fun (W : World) (hW : Below w6.heap.size w6 W) => rcheck_any xa xn xc xl W (hX6.under hW) (by omega)
        have hce := fun (W : World) (hW : Below w6.heap.size w6 W) => same_any a1 NS.length k1 a2 k2 NS W (hS16.under hW) (hS2'.under hW) (by omega)
        generalize axCheck xl = C at *
        have xC : (C != C) = false := by simp
        have xE : (E != E) = false := by simp
        clear hr2 hS2 hS2' hS16 hcn2 hb5 hS1' hX5 hb6
        replace hcc := hide hcc; replace hcd := hide hcd; replace hce := hide hce; replace hb56 := hide hb56; replace hX6 := hide hX6
        go_wp2_with fail
        refine (unhide hcc _ (Below.refl _ _)).mono ?_
        rintro e w7 ⟨rfl, hb7⟩
        go_wp2_with fail
        refine (unhide hcd _ hb7).mono ?_
        rintro e w8 ⟨rfl, hb8⟩
        have hb8' := hb7.trans (hb8.mono hb7.size)
        clear hb7 hb8
        go_wp2_with fail
        refine (unhide hce _ hb8').mono ?_
        rintro e w9 ⟨rfl, hb9⟩
        have hb69 := hb8'.trans (hb9.mono hb8'.size)
        have hb59 := (unhide hb56).trans (hb69.mono (unhide hb56).size)
        have hX9 := (unhide hX6).under hb69
        have hU9 := (unhide hUo).under hb59
        have hbw9 := (unhide hbw).trans (hb59.mono (unhide hbw).size)
        clear hb8' hb9 hb69 hb59 hb56 hX6 hXo hUo hcc hcd hce xC xE hbw
        obtain ⟨ob, hob⟩ : ∃ ob, ob = w9.heap.size := ⟨_, rfl⟩
        obtain ⟨w10, hw10⟩ : ∃ w2, w2 = w9.alloc (.cells (madeCells #[Value.int .i64 0] xn) 3) := ⟨_, rfl⟩
        have hbm : Below w9.heap.size w9 w10 := by rw [hw10]; exact (Below.refl _ _).alloc (Nat.le_refl _) _
        have hrow : w10.heap[ob]? = some (.cells ((List.replicate xn (0 : Int)).map (Value.int .i64)).toArray 3 (0, 0)) := by rw [hw10, hob, zeros_row]; exact heap_alloc_new w9 _
        have hmk := make_ints xn (by omega)
        replace hX9 := hide hX9; replace hU9 := hide hU9; replace hbw9 := hide hbw9; replace hob := hide hob; replace hw10 := hide hw10; replace hrow := hide hrow; replace hbm := hide hbm
        go_wp2_with fail
        rw [← unhide hw10, ← unhide hob]
        clear hmk
        go_loopw [133] (fun v wr => ∃ (j : Nat) (zs : List Int), j ≤ xn ∧ v = .int .i64 (j : Int) ∧ zs.length = xn ∧ (∀ z ∈ zs, I64 z) ∧ wr.heap[ob]? = some (.cells (zs.map (Value.int .i64)).toArray 3 (0, 0)) ∧ Below w9.heap.size w9 wr) (fun v _ => xn - (intOf v).toNat)
        case atStart => exact ⟨0, List.replicate xn 0, by omega, rfl, List.length_replicate, fun z hz => by rw [List.eq_of_mem_replicate hz]; exact ⟨by decide, by decide⟩, unhide hrow, unhide hbm⟩
        case round =>
          clear hrow hbm
          obtain ⟨j, zs0, hj, rfl, hzl, hzi, hrow, hbi⟩ := hrel
          obtain ⟨wp, rfl⟩ : ∃ wp : World, wp = wr := ⟨_, rfl⟩
          replace hzl := hide hzl; replace hzi := hide hzi; replace hrow := hide hrow; replace hbi := hide hbi
          by_cases hjl : j < xn
          · have tj : (j : Int) < (xn : Int) := by omega
            go_upto_if 138 with fail
            go_cut [] (fun wr => ∃ zs : List Int, zs.length = xn ∧ (∀ z ∈ zs, I64 z) ∧ wr.heap[ob]? = some (.cells (zs.map (Value.int .i64)).toArray 3 (0, 0)) ∧ Below w9.heap.size w9 wr)
            case first =>
              by_cases hu0 : um = 0
              · have t0 : ¬ (0 : Int) < (um : Int) := by omega
                replace hu0 := hide hu0
                go_wp2_with fail
                go_meet
                exact ⟨zs0, unhide hzl, unhide hzi, unhide hrow, unhide hbi⟩
              · have t0 : (0 : Int) < (um : Int) := by omega
                obtain ⟨r, hr⟩ : ∃ r : Nat, j % um = r := ⟨_, rfl⟩
                have hrl : r < um := by rw [← hr]; exact Nat.mod_lt _ (by omega)
                have hrm : Int.tmod (j : Int) (um : Int) = (r : Int) := by rw [Int.tmod_eq_emod_of_nonneg (by omega), ← hr]; rfl
                obtain ⟨b2, o2, y, rfl, _, hy, iy, c4⟩ := lst_int ((unhide hU9).under (unhide hbi)) hrl
                have hjz : j < zs0.length := by rw [unhide hzl]; exact hjl
                have hz0 : wp.cell? ⟨ob, j, none⟩ = some (.int .i64 (zs0[j]'hjz)) := (cell_of_row _ _ _ _ _ _ (unhide hrow)).trans (by simp [hjz])
                have hfz : wp.frozen? ⟨ob, j, none⟩ = false := by simp [World.frozen?, unhide hrow]
                have hrow2 := heap_set (unhide hrow) (.int .i64 y) (off := j)
                rw [set_ints] at hrow2
                have hbs := (unhide hbi).setCell (p := ⟨ob, j, none⟩) (by rw [unhide hob]; exact Nat.le_refl _) (.int .i64 y)
                have hzi2 : ∀ z ∈ zs0.set j y, I64 z := fun z hz => by
                  rcases List.mem_or_eq_of_mem_set hz with h | h
                  · exact unhide hzi z h
                  · rw [h]; exact iy
                have hzl2 : (zs0.set j y).length = xn := by rw [List.length_set]; exact unhide hzl
                clear hr hy iy hrow hbi hzi hzl
                replace hu0 := hide hu0; replace hrow2 := hide hrow2; replace hbs := hide hbs; replace hzi2 := hide hzi2; replace hzl2 := hide hzl2
                go_wp2_with fail
                go_meet
                exact ⟨_, unhide hzl2, unhide hzi2, unhide hrow2, unhide hbs⟩
            case rest =>
              clear hzl hzi hrow hbi
              obtain ⟨zs, hzl, hzi, hrow, hbi⟩ := hcut
              obtain ⟨wi, rfl⟩ : ∃ wi : World, wi = wc := ⟨_, rfl⟩
              obtain ⟨b1, o1, t, rfl, _, _, hsz, i1, i2, i3, d0, d1, d2, d3⟩ := lst_axis ((unhide hX9).under hbi) hjl
              obtain ⟨s, al, au, ah⟩ := t
              simp only at d0 d1 d2 d3 hsz i1 i2 i3
              have hjz : j < zs.length := by rw [hzl]; exact hjl
              obtain ⟨z, hz⟩ : ∃ z, zs[j]'hjz = z := ⟨_, rfl⟩
              have d4 : wi.cell? ⟨ob, j, none⟩ = some (.int .i64 z) := (cell_of_row _ _ _ _ _ _ hrow).trans (by simp [hjz, hz])
              have hcu := fun W => user_any s al au ah z W hsz i1 i2 i3
              have hcr := fun W => ruser_any s al au ah z W hsz i1 i2 i3
              generalize userS (s, al, au, ah) z = r at *
              clear hz hjz i1 i2 i3 hsz
              replace hzl := hide hzl; replace hzi := hide hzi; replace hrow := hide hrow; replace hbi := hide hbi; replace hcu := hide hcu; replace hcr := hide hcr
              go_wp2_with fail
              refine wp_region_frontG 19 (fun _ _ w' => Below wi.heap.size wi w') (fun wa wb => Below wa.heap.size wa wb)
                (fun ix v w' => match ix with
                  | 0 => v = .slice (some ⟨b1, o1, none⟩) xn xc
                  | 1 => v = .int .i64 (j : Int)
                  | 2 => v = .pointer (some ⟨b1, o1 + j * 4, none⟩)
                  | 3 => v = .agg #[.string s, .int .i64 al, .int .i64 au, .int .i64 ah]
                  | 4 => v = .slice (some ⟨ob, 0, none⟩) xn xn
                  | 5 => v = .int .i64 (j : Int)
                  | 6 => v = .pointer (some ⟨ob, j, none⟩)
                  | 7 => v = .int .i64 z
                  | 8 => v = .int .i64 r
                  | 9 => v = .slice (some ⟨b1, o1, none⟩) xn xc
                  | 10 => v = .int .i64 (j : Int)
                  | 11 => v = .pointer (some ⟨b1, o1 + j * 4, none⟩)
                  | 12 => v = .agg #[.string s, .int .i64 al, .int .i64 au, .int .i64 ah]
                  | 13 => v = .slice (some ⟨ob, 0, none⟩) xn xn
                  | 14 => v = .int .i64 (j : Int)
                  | 15 => v = .pointer (some ⟨ob, j, none⟩)
                  | 16 => v = .int .i64 z
                  | 17 => v = .int .i64 r
                  | 18 => v = .bool false
                  | _ => True) (by rfl) (by kernel_rfl) ?_ ?_ ?_ ?_
              · exact (Below.refl _ _).drew
              · intro wa wb hR ix v hv
                match ix, hv with
                | 0, h => exact h
                | 1, h => exact h
                | 2, h => exact h
                | 3, h => exact h
                | 4, h => exact h
                | 5, h => exact h
                | 6, h => exact h
                | 7, h => exact h
                | 8, h => exact h
                | 9, h => exact h
                | 10, h => exact h
                | 11, h => exact h
                | 12, h => exact h
                | 13, h => exact h
                | 14, h => exact h
                | 15, h => exact h
                | 16, h => exact h
                | 17, h => exact h
                | 18, h => exact h
                | _ + 19, _ => trivial
              · intro ix hix
                obtain rfl | rfl | rfl | rfl | rfl | rfl | rfl | rfl | rfl | rfl | rfl | rfl | rfl | rfl | rfl | rfl | rfl | rfl | rfl : ix = 0 ∨ ix = 1 ∨ ix = 2 ∨ ix = 3 ∨ ix = 4 ∨ ix = 5 ∨ ix = 6 ∨ ix = 7 ∨ ix = 8 ∨ ix = 9 ∨ ix = 10 ∨ ix = 11 ∨ ix = 12 ∨ ix = 13 ∨ ix = 14 ∨ ix = 15 ∨ ix = 16 ∨ ix = 17 ∨ ix = 18 := by omega
                · refine FrontStep.of [] _ rfl (by kernel_rfl) ?_
                  intro vs LL wq hLL hC hf
                  simp only [putL, List.foldl_nil]
                  go_wp2_with fail
                  first | exact Below.refl _ _ | exact hC | exact ⟨hC, Below.refl _ _⟩ | exact ⟨hC, Below.refl _ _, by omega⟩ | exact ⟨Below.refl _ _, by omega⟩
                · refine FrontStep.of [] _ rfl (by kernel_rfl) ?_
                  intro vs LL wq hLL hC hf
                  simp only [putL, List.foldl_nil]
                  go_wp2_with fail
                  first | exact Below.refl _ _ | exact hC | exact ⟨hC, Below.refl _ _⟩ | exact ⟨hC, Below.refl _ _, by omega⟩ | exact ⟨Below.refl _ _, by omega⟩
                · refine FrontStep.of [0, 1] _ rfl (by kernel_rfl) ?_
                  intro vs LL wq hLL hC hf
                  simp only [putL, List.foldl_nil, List.foldl_cons, List.getElem?_cons_zero, List.getElem?_cons_succ]
                  have e0 : vs 0 = _ := hf 0 (by simp)
                  rw [e0]
                  have e1 : vs 1 = _ := hf 1 (by simp)
                  rw [e1]
                  go_wp2_with fail
                  first | exact Below.refl _ _ | exact hC | exact ⟨hC, Below.refl _ _⟩ | exact ⟨hC, Below.refl _ _, by omega⟩ | exact ⟨Below.refl _ _, by omega⟩
                · refine FrontStep.of [2] _ rfl (by kernel_rfl) ?_
                  intro vs LL wq hLL hC hf
                  simp only [putL, List.foldl_nil, List.foldl_cons, List.getElem?_cons_zero, List.getElem?_cons_succ]
                  have e2 : vs 2 = _ := hf 2 (by simp)
                  rw [e2]
                  have f0 := cell_under d0 hC
                  have f1 := cell_under d1 hC
                  have f2 := cell_under d2 hC
                  have f3 := cell_under d3 hC
                  go_wp2_with fail
                  first | exact Below.refl _ _ | exact hC | exact ⟨hC, Below.refl _ _⟩ | exact ⟨hC, Below.refl _ _, by omega⟩ | exact ⟨Below.refl _ _, by omega⟩
                · refine FrontStep.of [] _ rfl (by kernel_rfl) ?_
                  intro vs LL wq hLL hC hf
                  simp only [putL, List.foldl_nil]
                  go_wp2_with fail
                  first | exact Below.refl _ _ | exact hC | exact ⟨hC, Below.refl _ _⟩ | exact ⟨hC, Below.refl _ _, by omega⟩ | exact ⟨Below.refl _ _, by omega⟩
                · refine FrontStep.of [] _ rfl (by kernel_rfl) ?_
                  intro vs LL wq hLL hC hf
                  simp only [putL, List.foldl_nil]
                  go_wp2_with fail
                  first | exact Below.refl _ _ | exact hC | exact ⟨hC, Below.refl _ _⟩ | exact ⟨hC, Below.refl _ _, by omega⟩ | exact ⟨Below.refl _ _, by omega⟩
                · refine FrontStep.of [4, 5] _ rfl (by kernel_rfl) ?_
                  intro vs LL wq hLL hC hf
                  simp only [putL, List.foldl_nil, List.foldl_cons, List.getElem?_cons_zero, List.getElem?_cons_succ]
                  have e4 : vs 4 = _ := hf 4 (by simp)
                  rw [e4]
                  have e5 : vs 5 = _ := hf 5 (by simp)
                  rw [e5]
                  go_wp2_with fail
                  first | exact Below.refl _ _ | exact hC | exact ⟨hC, Below.refl _ _⟩ | exact ⟨hC, Below.refl _ _, by omega⟩ | exact ⟨Below.refl _ _, by omega⟩
                · refine FrontStep.of [6] _ rfl (by kernel_rfl) ?_
                  intro vs LL wq hLL hC hf
                  simp only [putL, List.foldl_nil, List.foldl_cons, List.getElem?_cons_zero, List.getElem?_cons_succ]
                  have e6 : vs 6 = _ := hf 6 (by simp)
                  rw [e6]
                  have f4 := cell_under d4 hC
                  go_wp2_with fail
                  first | exact Below.refl _ _ | exact hC | exact ⟨hC, Below.refl _ _⟩ | exact ⟨hC, Below.refl _ _, by omega⟩ | exact ⟨Below.refl _ _, by omega⟩
                · refine FrontStep.of [3, 7] _ rfl (by kernel_rfl) ?_
                  intro vs LL wq hLL hC hf
                  simp only [putL, List.foldl_nil, List.foldl_cons, List.getElem?_cons_zero, List.getElem?_cons_succ]
                  have e3 : vs 3 = _ := hf 3 (by simp)
                  rw [e3]
                  have e7 : vs 7 = _ := hf 7 (by simp)
                  rw [e7]
                  have hcq := unhide hcu wq
                  replace hcq := hide hcq
                  go_wp2_with fail
                  refine (unhide hcq).mono ?_
                  rintro e wz ⟨rfl, hbz⟩
                  clear hcq
                  replace hbz := hide hbz
                  go_wp2_with fail
                  first | exact ⟨hC.trans ((unhide hbz).mono hC.size), unhide hbz⟩ | exact hC.trans ((unhide hbz).mono hC.size) | exact ⟨hC.trans ((unhide hbz).mono hC.size), unhide hbz, rfl⟩
                · refine FrontStep.of [] _ rfl (by kernel_rfl) ?_
                  intro vs LL wq hLL hC hf
                  simp only [putL, List.foldl_nil]
                  go_wp2_with fail
                  first | exact Below.refl _ _ | exact hC | exact ⟨hC, Below.refl _ _⟩ | exact ⟨hC, Below.refl _ _, by omega⟩ | exact ⟨Below.refl _ _, by omega⟩
                · refine FrontStep.of [] _ rfl (by kernel_rfl) ?_
                  intro vs LL wq hLL hC hf
                  simp only [putL, List.foldl_nil]
                  go_wp2_with fail
                  first | exact Below.refl _ _ | exact hC | exact ⟨hC, Below.refl _ _⟩ | exact ⟨hC, Below.refl _ _, by omega⟩ | exact ⟨Below.refl _ _, by omega⟩
                · refine FrontStep.of [9, 10] _ rfl (by kernel_rfl) ?_
                  intro vs LL wq hLL hC hf
                  simp only [putL, List.foldl_nil, List.foldl_cons, List.getElem?_cons_zero, List.getElem?_cons_succ]
                  have e9 : vs 9 = _ := hf 9 (by simp)
                  rw [e9]
                  have e10 : vs 10 = _ := hf 10 (by simp)
                  rw [e10]
                  go_wp2_with fail
                  first | exact Below.refl _ _ | exact hC | exact ⟨hC, Below.refl _ _⟩ | exact ⟨hC, Below.refl _ _, by omega⟩ | exact ⟨Below.refl _ _, by omega⟩
                · refine FrontStep.of [11] _ rfl (by kernel_rfl) ?_
                  intro vs LL wq hLL hC hf
                  simp only [putL, List.foldl_nil, List.foldl_cons, List.getElem?_cons_zero, List.getElem?_cons_succ]
                  have e11 : vs 11 = _ := hf 11 (by simp)
                  rw [e11]
                  have f0 := cell_under d0 hC
                  have f1 := cell_under d1 hC
                  have f2 := cell_under d2 hC
                  have f3 := cell_under d3 hC
                  go_wp2_with fail
                  first | exact Below.refl _ _ | exact hC | exact ⟨hC, Below.refl _ _⟩ | exact ⟨hC, Below.refl _ _, by omega⟩ | exact ⟨Below.refl _ _, by omega⟩
                · refine FrontStep.of [] _ rfl (by kernel_rfl) ?_
                  intro vs LL wq hLL hC hf
                  simp only [putL, List.foldl_nil]
                  go_wp2_with fail
                  first | exact Below.refl _ _ | exact hC | exact ⟨hC, Below.refl _ _⟩ | exact ⟨hC, Below.refl _ _, by omega⟩ | exact ⟨Below.refl _ _, by omega⟩
                · refine FrontStep.of [] _ rfl (by kernel_rfl) ?_
                  intro vs LL wq hLL hC hf
                  simp only [putL, List.foldl_nil]
                  go_wp2_with fail
                  first | exact Below.refl _ _ | exact hC | exact ⟨hC, Below.refl _ _⟩ | exact ⟨hC, Below.refl _ _, by omega⟩ | exact ⟨Below.refl _ _, by omega⟩
                · refine FrontStep.of [13, 14] _ rfl (by kernel_rfl) ?_
                  intro vs LL wq hLL hC hf
                  simp only [putL, List.foldl_nil, List.foldl_cons, List.getElem?_cons_zero, List.getElem?_cons_succ]
                  have e13 : vs 13 = _ := hf 13 (by simp)
                  rw [e13]
                  have e14 : vs 14 = _ := hf 14 (by simp)
                  rw [e14]
                  go_wp2_with fail
                  first | exact Below.refl _ _ | exact hC | exact ⟨hC, Below.refl _ _⟩ | exact ⟨hC, Below.refl _ _, by omega⟩ | exact ⟨Below.refl _ _, by omega⟩
                · refine FrontStep.of [15] _ rfl (by kernel_rfl) ?_
                  intro vs LL wq hLL hC hf
                  simp only [putL, List.foldl_nil, List.foldl_cons, List.getElem?_cons_zero, List.getElem?_cons_succ]
                  have e15 : vs 15 = _ := hf 15 (by simp)
                  rw [e15]
                  have f4 := cell_under d4 hC
                  go_wp2_with fail
                  first | exact Below.refl _ _ | exact hC | exact ⟨hC, Below.refl _ _⟩ | exact ⟨hC, Below.refl _ _, by omega⟩ | exact ⟨Below.refl _ _, by omega⟩
                · refine FrontStep.of [8, 12, 16] _ rfl (by kernel_rfl) ?_
                  intro vs LL wq hLL hC hf
                  simp only [putL, List.foldl_nil, List.foldl_cons, List.getElem?_cons_zero, List.getElem?_cons_succ]
                  have e8 : vs 8 = _ := hf 8 (by simp)
                  rw [e8]
                  have e12 : vs 12 = _ := hf 12 (by simp)
                  rw [e12]
                  have e16 : vs 16 = _ := hf 16 (by simp)
                  rw [e16]
                  have hcq := unhide hcr wq
                  replace hcq := hide hcq
                  go_wp2_with fail
                  refine (unhide hcq).mono ?_
                  rintro e wz ⟨rfl, hbz⟩
                  clear hcq
                  replace hbz := hide hbz
                  go_wp2_with fail
                  first | exact ⟨hC.trans ((unhide hbz).mono hC.size), unhide hbz⟩ | exact hC.trans ((unhide hbz).mono hC.size) | exact ⟨hC.trans ((unhide hbz).mono hC.size), unhide hbz, rfl⟩
                · refine FrontStep.of [8, 17] _ rfl (by kernel_rfl) ?_
                  intro vs LL wq hLL hC hf
                  simp only [putL, List.foldl_nil, List.foldl_cons, List.getElem?_cons_zero, List.getElem?_cons_succ]
                  have e8 : vs 8 = _ := hf 8 (by simp)
                  rw [e8]
                  have e17 : vs 17 = _ := hf 17 (by simp)
                  rw [e17]
                  have xr : (r != r) = false := by simp
                  go_wp2_with fail
                  first | exact Below.refl _ _ | exact hC | exact ⟨hC, Below.refl _ _⟩ | exact ⟨hC, Below.refl _ _, by omega⟩ | exact ⟨Below.refl _ _, by omega⟩
              · intro vs LL wq hLL hC hf
                have e18 : vs 18 = _ := hf 18 (by omega)
                rw [putSome_all]
                simp only [putL, List.range, List.range.loop, List.foldl_nil, List.foldl_cons, List.getElem?_cons_zero, List.getElem?_cons_succ, List.drop_succ_cons, List.drop_zero]
                rw [e18]
                clear e18 hf hLL
                have hbz := hide ((unhide hbi).trans (hC.mono (unhide hbi).size))
                have hrow2 := hide ((hC.block ob (Array.getElem?_eq_some_iff.1 (unhide hrow)).1).trans (unhide hrow))
                clear hC hbi hrow d0 d1 d2 d3 d4 hcu hcr
                go_simp
                go_wp2_with fail
                go_roundw
                case rel => exact ⟨j + 1, zs, by omega, by go_num, unhide hzl, unhide hzi, unhide hrow2, unhide hbz⟩
                case measure => simp [intOf]; omega
          · have hje : j = xn := by omega
            subst hje
            have hXp := (unhide hX9).under (unhide hbi)
            have hFp := lst_ints (l := zs0) (unhide hrow) (unhide hzi) (S := (· < wp.heap.size)) (Array.getElem?_eq_some_iff.1 (unhide hrow)).1
            rw [unhide hzl] at hFp
            have hcn := normal_any xa j xc xl (some ⟨ob, 0, none⟩) j j zs0 wp hXp hxc hFp (by omega) (by omega)
            have hi3 := normS_i64 (l := xl) (u := zs0)
            obtain ⟨NT, hNT⟩ : ∃ x, (normS xl zs0).1 = x := ⟨_, rfl⟩
            obtain ⟨F, hF⟩ : ∃ x, (normS xl zs0).2 = x := ⟨_, rfl⟩
            rw [hNT, hF] at hcn
            rw [hNT] at hi3
            have hnl2 : NT.length ≤ 1000000 := normS_small (by rw [hXp.1]; omega) hNT
            replace hXp := hide hXp; replace hFp := hide hFp; replace hcn := hide hcn; replace hi3 := hide hi3; replace hNT := hide hNT; replace hF := hide hF
            go_wp2_with fail
            refine (unhide hcn).mono ?_
            rintro e w5' ⟨v1, m1, rfl, hr1, hb5⟩
            obtain ⟨a1', k1', rfl, _, _, hS1⟩ := own_lst2 hr1 (unhide hi3)
            have hcn2 := rNormal_any xa j xc xl (some ⟨ob, 0, none⟩) j j zs0 w5' ((unhide hXp).under hb5) ((unhide hFp).under hb5) (by omega) (by omega)
            rw [unhide hNT, unhide hF] at hcn2
            have hS1' := hS1.wide (S' := (· < w5'.heap.size)) (fun b hb => hb.2)
            clear hr1 hS1 hcn hXp hFp
            replace hcn2 := hide hcn2; replace hb5 := hide hb5; replace hS1' := hide hS1'
            go_wp2_with fail
            refine (unhide hcn2).mono ?_
            rintro e w6' ⟨v2, m2, rfl, hr2, hb6⟩
            obtain ⟨a2', k2', rfl, _, _, hS2⟩ := own_lst2 hr2 (unhide hi3)
            have hS2' := hS2.wide (S' := (· < w6'.heap.size)) (fun b hb => hb.2)
            have hS16 := (unhide hS1').under hb6
            have hce := same_any a1' NT.length k1' a2' k2' NT w6' hS16 hS2' (by omega)
            have hb56 := (unhide hb5).trans (hb6.mono (unhide hb5).size)
            have hbp6 := (unhide hbi).trans (hb56.mono (unhide hbi).size)
            have hbf := (unhide hbw9).trans (hbp6.mono (unhide hbw9).size)
            have xF : (F != F) = false := by simp
            clear hr2 hS2 hS2' hS16 hcn2 hb5 hS1' hb6 hb56 hbp6 hbi hbw9
            replace hce := hide hce; replace hbf := hide hbf
            go_wp2_with fail
            refine (unhide hce).mono ?_
            rintro e w7' ⟨rfl, hb7⟩
            have hbg := hide ((unhide hbf).trans (hb7.mono (unhide hbf).size))
            clear hce hbf hb7
            go_wp2_with fail
            go_roundw
            case rel => exact ⟨k + 1, by omega, by go_num, unhide hbg⟩
            case measure => simp [intOf]; omega
      · have hk3 : k = 3 := by omega
        subst hk3
        have tk : ¬ (3 : Int) < 3 := by omega
        have hzf := hide ((unhide hzl).trans (hbw.mono (unhide hzl).size))
        clear hbw hzl
        go_wp2_with fail
        go_ret
        exact ⟨rfl, unhide hzf⟩
end Go.Proofs.Ythkppilelpaieaa
