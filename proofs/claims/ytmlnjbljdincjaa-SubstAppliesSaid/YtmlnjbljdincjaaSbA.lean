/- SubstApplies. -/
import Derived.Test.YtmlnjbljdincjaaSbK
namespace Go.Proofs.Ytmlnjbljdincjaa
open Go.RowKit
/-- numbers in a cell -/
def IntAt (w : World) (b i : Nat) : Prop := ∃ a n c l, w.cell? ⟨b, i, none⟩ = some (.slice a n c) ∧ Lst Enc.int w (fun b => b < w.heap.size) a n l ∧ n ≤ 24
theorem IntAt.under {w w' : World} {b i : Nat} (h : IntAt w b i) (hb : Below w.heap.size w w') : IntAt w' b i := by
  obtain ⟨a, n, c, l, h1, h2, h3⟩ := h
  exact ⟨a, n, c, l, cell_under h1 hb, h2.under hb, h3⟩
theorem at_row {w : World} {b : Nat} {T : TypeId} {cs : Array Value} (h : w.heap[b]? = some (.cells cs T (0, 0))) (i : Nat) {v : Value} (hv : cs[i]? = some v) : w.cell? ⟨b, i, none⟩ = some v := (cell_of_row _ _ i _ _ _ h).trans hv
set_option maxRecDepth 100000 in
set_option maxHeartbeats 8000000 in
theorem substApplies_any (na : Option Addr) (nn nc : Nat) (N : List Int) (ra : Option Addr) (rn rc : Nat) (R : List (List Sub)) (ga : Option Addr) (gn gc : Nat) (g : List Int) (w : World) (hN : Lst Enc.int w (fun b => b < w.heap.size) na nn N) (hN1 : nn ≤ nc) (hN2 : nc ≤ maxLen) (hR : Lst Enc.lk w (fun b => b < w.heap.size) ra rn R) (hR1 : rn ≤ rc) (hR2 : rc ≤ maxLen) (hG : Lst Enc.int w (fun b => b < w.heap.size) ga gn g) (hG1 : gn ≤ gc) (hG2 : gc ≤ maxLen) :
    Calls Try.prog 4 #[.slice na nn nc, .slice ra rn rc, .slice ga gn gc] w fun e w' => e = .returned (.bool true) ∧ Below w.heap.size w w' := by
  replace hN := hide hN; replace hR := hide hR; replace hG := hide hG
  go_enter Try.func4, Try.ntmps4
  go_wp2_with fail
  refine (sanity_any _).mono ?_
  rintro e w1 ⟨rfl, hb1⟩
  have hN' := (unhide hN).under hb1
  have hR' := (unhide hR).under hb1
  have hG' := (unhide hG).under hb1
  have hz := hb1
  clear hN hR hG hb1
  have hc := few_any ra rn rc R w1 hR' hR1 hR2
  clear hR'
  replace hc := hide hc; replace hN' := hide hN'; replace hG' := hide hG'; replace hz := hide hz
  go_wp2_with fail
  refine (unhide hc).mono ?_
  rintro e w2 ⟨v, us, rfl, hF⟩
  obtain ⟨fa, fc, rfl, hf⟩ := InR.lst hF.out hF.row (fun b hb => Nat.lt_of_lt_of_le hb hF.bel.size)
  have hfs := fewS_small R
  obtain ⟨F, hFe⟩ : ∃ F, fewS R = F := ⟨_, rfl⟩
  rw [hFe] at hf hfs ⊢
  obtain ⟨fn, hfn⟩ : ∃ fn, F.length = fn := ⟨_, rfl⟩
  rw [hfn] at hf hfs ⊢
  have hN := (unhide hN').under hF.bel
  have hG := (unhide hG').under hF.bel
  have hz' := (unhide hz).trans (hF.bel.mono (unhide hz).size)
  clear hc hN' hG' hz hF hFe
  have hc := made_any na nn nc N 4 w2 hN (by omega) (by omega) (by omega)
  clear hN
  obtain ⟨gm, egm⟩ : ∃ gm : Nat, (min (gn : Int) 24).toNat = gm := ⟨_, rfl⟩
  have qgm : (if (24 : Int) < (gn : Int) then (24 : Int) else (gn : Int)) = (gm : Int) := by split <;> omega
  have mgm : gm ≤ gc := by omega
  have ugm : (gm : Int) ≤ (gc : Int) := by omega
  have ggn : gm ≤ gn ∧ gm ≤ 24 := by omega
  clear egm
  replace hc := hide hc; replace hz' := hide hz'; replace hf := hide hf; replace hfs := hide hfs; replace hfn := hide hfn; replace hG := hide hG
  go_wp2_with fail
  refine (unhide hc).mono ?_
  rintro e w3 ⟨la, lc, l, rfl, hl, hlg, hb⟩
  obtain ⟨ln, hln⟩ : ∃ ln, l.length = ln := ⟨_, rfl⟩
  rw [hln] at hl ⊢
  have hll := hlg.1
  rw [hln] at hll
  obtain ⟨bq, hbq⟩ : ∃ bq, bq = w3.heap.size := ⟨_, rfl⟩
  obtain ⟨w4, hw4⟩ : ∃ w4, w4 = w3.alloc (Obj.cells #[.slice la ln lc, .slice fa fn fc] 23) := ⟨_, rfl⟩
  have hb4 : Below w3.heap.size w3 w4 := by rw [hw4]; exact (Below.refl _ _).alloc (Nat.le_refl _) _
  have hb24 := hb.trans (hb4.mono hb.size)
  have hq4 : w4.heap[bq]? = some (.cells #[.slice la ln lc, .slice fa fn fc] 23 (0, 0)) := by rw [hw4, hbq]; exact heap_alloc_new w3 _
  have hG4 := (unhide hG).under hb24
  have hz4 := (unhide hz').trans (hb24.mono (unhide hz').size)
  have hL4 : ∀ i, i < 2 → LkAt w4 bq i := fun i hi => by
    have h1 := hl.under hb4
    have h2 := (unhide hf).under hb24
    match i, hi with
    | 0, _ => exact ⟨_, _, _, _, at_row hq4 0 rfl, h1, by omega, goodL_small hlg, lst_to h1⟩
    | 1, _ => exact ⟨_, _, _, _, at_row hq4 1 rfl, h2, by have := (unhide hfs).1; omega, (unhide hfs).2, lst_to h2⟩
  clear hc hz' hf hfs hfn hG hl hlg hb hb4 hb24 hq4 hln
  replace hbq := hide hbq; replace hw4 := hide hw4; replace hG4 := hide hG4; replace hz4 := hide hz4; replace hL4 := hide hL4
  go_wp2_with fail
  rw [← unhide hw4, ← unhide hbq]
  go_loopw [32] (fun v wr => ∃ k : Nat, k ≤ 2 ∧ v = .int .i64 (k : Int) ∧ Below w4.heap.size w4 wr) (fun v _ => 2 - (intOf v).toNat)
  case atStart => exact ⟨0, by omega, rfl, Below.refl _ _⟩
  case round =>
    obtain ⟨k, hk, rfl, hbk⟩ := hrel
    obtain ⟨w5, rfl⟩ : ∃ wo : World, wo = wr := ⟨_, rfl⟩
    by_cases hlt : k < 2
    · obtain ⟨xa, xn, xc, L, cX, hX, hXn, hXs, hXt⟩ := ((unhide hL4) k hlt).under hbk
      have t1 : (k : Int) < 2 := by omega
      have t2 : ¬ (2 : Int) ≤ (k : Int) := by omega
      have hG5 := (unhide hG4).under hbk
      have hc := glyphs_any ga gn gc g 4 w5 hG5 (by omega) (by omega) (by omega)
      replace hX := hide hX; replace hbk := hide hbk; replace hc := hide hc; replace hG5 := hide hG5; replace hXs := hide hXs; replace hXt := hide hXt
      go_wp2_with fail
      refine (unhide hc).mono ?_
      rintro e w6 ⟨v, rfl, hown, hb⟩
      have hx1l := glyphsS_len g 4
      have hx1b := glyphsS_mem g 4 (by decide)
      obtain ⟨X1, hX1⟩ : ∃ X, glyphsS g 4 = X := ⟨_, rfl⟩
      rw [hX1] at hown hx1l hx1b
      obtain ⟨x1a, x1c, rfl, -, hx1⟩ := own_lst hown (fun y hy => by have := hx1b y hy; exact ⟨by omega, by omega⟩)
      obtain ⟨x1n, hx1n⟩ : ∃ n, X1.length = n := ⟨_, rfl⟩
      rw [hx1n] at hx1 hx1l ⊢
      have hX6 := (unhide hX).under hb
      have hG6 := (unhide hG5).under hb
      have hb6 := hb
      have hc' := glyphs_any ga gn gc g 2 w6 hG6 (by omega) (by omega) (by omega)
      clear hc hown hX hG5 hb hX1 hx1b hx1n
      replace hX6 := hide hX6; replace hG6 := hide hG6; replace hb6 := hide hb6; replace hc' := hide hc'; replace hx1 := hide hx1
      go_wp2_with fail
      refine (unhide hc').mono ?_
      rintro e w7 ⟨v, rfl, hown, hb⟩
      have hx2l := glyphsS_len g 2
      have hx2b := glyphsS_mem g 2 (by decide)
      obtain ⟨X2, hX2⟩ : ∃ X, glyphsS g 2 = X := ⟨_, rfl⟩
      rw [hX2] at hown hx2l hx2b
      obtain ⟨x2a, x2c, rfl, -, hx2⟩ := own_lst hown (fun y hy => by have := hx2b y hy; exact ⟨by omega, by omega⟩)
      obtain ⟨x2n, hx2n⟩ : ∃ n, X2.length = n := ⟨_, rfl⟩
      rw [hx2n] at hx2 hx2l ⊢
      obtain ⟨b3, hb3⟩ : ∃ bq, bq = w7.heap.size := ⟨_, rfl⟩
      obtain ⟨w8, hw8⟩ : ∃ w4, w4 = w7.alloc (Obj.cells #[.slice x1a x1n x1c, .slice x2a x2n x2c, .slice ga gm gc] 22) := ⟨_, rfl⟩
      have hb8 : Below w7.heap.size w7 w8 := by rw [hw8]; exact (Below.refl _ _).alloc (Nat.le_refl _) _
      have hb68 := hb.trans (hb8.mono hb.size)
      have hq8 : w8.heap[b3]? = some (.cells #[.slice x1a x1n x1c, .slice x2a x2n x2c, .slice ga gm gc] 22 (0, 0)) := by rw [hw8, hb3]; exact heap_alloc_new w7 _
      have hX8 := (unhide hX6).under hb68
      have hb58 := (unhide hb6).trans (hb68.mono (unhide hb6).size)
      have hb48 := (unhide hbk).trans (hb58.mono (unhide hbk).size)
      have hI8 : ∀ i, i < 3 → IntAt w8 b3 i := fun i hi => by
        have h1 := (unhide hx1).under hb68
        have h2 := hx2.under hb8
        have h3 := ((unhide hG6).under hb68).take (k := gm) (by omega)
        match i, hi with
        | 0, _ => exact ⟨_, _, _, _, at_row hq8 0 rfl, h1, by omega⟩
        | 1, _ => exact ⟨_, _, _, _, at_row hq8 1 rfl, h2, by omega⟩
        | 2, _ => exact ⟨_, _, _, _, at_row hq8 2 rfl, h3, by omega⟩
      clear hc' hown hX6 hG6 hb hX2 hx2b hx2n hx1 hx2 hb6 hb8 hb68 hq8 hbk hb58 cX
      replace hb3 := hide hb3; replace hw8 := hide hw8; replace hX8 := hide hX8; replace hb48 := hide hb48; replace hI8 := hide hI8
      go_wp2_with fail
      rw [← unhide hw8, ← unhide hb3]
      go_loopw [43] (fun v wr => ∃ j : Nat, j ≤ 3 ∧ v = .int .i64 (j : Int) ∧ Below w8.heap.size w8 wr) (fun v _ => 3 - (intOf v).toNat)
      case atStart => exact ⟨0, by omega, rfl, Below.refl _ _⟩
      case round =>
        obtain ⟨j, hj, rfl, hbj⟩ := hrel
        obtain ⟨w9, rfl⟩ : ∃ wo : World, wo = wr := ⟨_, rfl⟩
        by_cases hlt : j < 3
        · obtain ⟨ya, yn, yc, Y, cY, hY, hYn⟩ := ((unhide hI8) j hlt).under hbj
          have t3 : (j : Int) < 3 := by omega
          have t4 : ¬ (3 : Int) ≤ (j : Int) := by omega
          have hX9 := (unhide hX8).under hbj
          replace hY := hide hY; replace hbj := hide hbj; replace hX9 := hide hX9
          go_wp2_with fail
          go_loopw [49] (fun v wr => ∃ i : Nat, i ≤ xn ∧ v = .int .i64 (i : Int) ∧ Below w9.heap.size w9 wr) (fun v _ => xn - (intOf v).toNat)
          case atStart => exact ⟨0, by omega, rfl, Below.refl _ _⟩
          case round =>
            obtain ⟨i, hi, rfl, hbi⟩ := hrel
            obtain ⟨wa, rfl⟩ : ∃ wo : World, wo = wr := ⟨_, rfl⟩
            by_cases hlt : i < xn
            · obtain ⟨bL, oL, x, xa', xn', xc', rfl, _, hx', hxc1, hxc2, hXa, cL⟩ := lst_list ((unhide hX9).under hbi) hlt
              have hsm := unhide hXs x (List.mem_of_getElem? hx')
              have t5 : (i : Int) < (xn : Int) := by omega
              have t6 : ¬ (xn : Int) ≤ (i : Int) := by omega
              have hYa := (unhide hY).under hbi
              clear hx'
              replace hXa := hide hXa; replace hbi := hide hbi; replace hYa := hide hYa; replace hsm := hide hsm
              go_wp2_with fail
              go_loopw [14] (fun v wr => ∃ q : Int, -1 ≤ q ∧ q ≤ (yn : Int) + 1 ∧ v = .int .i64 q ∧ Below wa.heap.size wa wr) (fun v _ => ((yn : Int) + 1 - intOf v).toNat)
              case atStart => exact ⟨-1, by omega, by omega, rfl, Below.refl _ _⟩
              case round =>
                obtain ⟨q, hq1, hq2, rfl, hbq⟩ := hrel
                obtain ⟨wb, rfl⟩ : ∃ wo : World, wo = wr := ⟨_, rfl⟩
                by_cases hlt : q ≤ (yn : Int)
                · have hXb := (unhide hXa).under hbq
                  have hYb := (unhide hYa).under hbq
                  have cA : ∀ z : Ext wb, Calls Try.prog 15 #[.agg #[.slice xa' xn' xc'], .slice ya yn yc, .int .i64 q] z.get fun e w' => e = .returned (.int .i64 (matchS x Y q)) ∧ Below z.get.heap.size z.get w' := fun z => match_any xa' xn' xc' x ya yn yc Y q z.get (hXb.under z.le) (hYb.under z.le) (unhide hsm) (by omega)
                  have cB : ∀ z : Ext wb, Calls Try.prog 16 #[.agg #[.slice xa' xn' xc'], .slice ya yn yc, .int .i64 q] z.get fun e w' => e = .returned (.int .i64 (matchS x Y q)) ∧ Below z.get.heap.size z.get w' := fun z => rmatch_any xa' xn' xc' x ya yn yc Y q z.get (hXb.under z.le) (hYb.under z.le) (unhide hsm) (by omega)
                  have z0 : ∀ z : Ext wb, z.get.cell? ⟨bL, oL + i, none⟩ = some (.slice xa' xn' xc') := fun z => z.cell (cell_under cL hbq)
                  obtain ⟨mq, hmq⟩ : ∃ mq, matchS x Y q = mq := ⟨_, rfl⟩
                  simp only [hmq] at cA cB
                  clear hXb hYb hmq
                  replace hbq := hide hbq; replace cA := hide cA; replace cB := hide cB
                  go_wp2_with fail
                  refine wp_region_ext (by rfl) (by kernel_rfl) ?_
                  repeat (quiet_step ((first | (go_at_call 15; with_reducible exact Ext.calls (unhide cA _)) | (go_at_call 16; with_reducible exact Ext.calls (unhide cB _)))))
                  refine wpQuiet_nil ?_
                  rintro w' ⟨z, rfl⟩
                  clear z0 cA cB
                  have hbz := (unhide hbq).trans (z.le.mono (unhide hbq).size)
                  clear hbq
                  replace hbz := hide hbz
                  go_wp2_with fail
                  go_roundw
                  case rel => exact ⟨q + 1, by omega, by omega, rfl, unhide hbz⟩
                  case measure => simp [intOf]; omega
                · have hbz := (unhide hbi).trans (hbq.mono (unhide hbi).size)
                  clear hbq
                  replace hbz := hide hbz
                  go_wp2_with fail
                  go_roundw
                  case rel => exact ⟨i + 1, by omega, by go_num, unhide hbz⟩
                  case measure => simp [intOf]; omega
            · have hXa := (unhide hX9).under hbi
              have hYa := (unhide hY).under hbi
              have hc := apply_any xa xn xc L ya yn yc Y wa hXa hYa hXn (unhide hXs) (unhide hXt) (by omega)
              have hc2 := fun w h1 h2 => rapply_any xa xn xc L ya yn yc Y w h1 h2 hXn (unhide hXs) (unhide hXt) (by omega)
              have hi1 := applyS_i64 (unhide hXt) hYa.i64 (by rw [hYa.1]; omega)
              have hn1 := applyS_len L Y
              rw [hYa.1] at hn1
              obtain ⟨st, hst⟩ : ∃ st, applyS L Y = st := ⟨_, rfl⟩
              simp only [hst] at hc hc2 hi1 hn1
              obtain ⟨Al, Bl⟩ := st
              simp only at hc hc2 hi1 hn1
              clear hst
              have hbz := (unhide hbj).trans (hbi.mono (unhide hbj).size)
              clear hbi
              replace hc := hide hc; replace hc2 := hide hc2; replace hi1 := hide hi1; replace hn1 := hide hn1; replace hXa := hide hXa; replace hYa := hide hYa; replace hbz := hide hbz
              go_wp2_with fail
              refine (unhide hc).mono ?_
              rintro e wb ⟨q1, q2, rfl, ht, hb⟩
              obtain ⟨a1, c1, a2, c2, rfl, rfl, hA, hB⟩ := ht.lst (unhide hi1).1 (unhide hi1).2
              have hcc := unhide hc2 wb ((unhide hXa).under hb) ((unhide hYa).under hb)
              have hbz2 := (unhide hbz).trans (hb.mono (unhide hbz).size)
              clear hc hc2 hXa hYa hbz ht hb
              replace hcc := hide hcc; replace hbz2 := hide hbz2; replace hA := hide hA; replace hB := hide hB
              go_wp2_with fail
              refine (unhide hcc).mono ?_
              rintro e wc ⟨q1, q2, rfl, ht, hb⟩
              obtain ⟨a3, c3, a4, c4, rfl, rfl, hC, hD⟩ := ht.lst (unhide hi1).1 (unhide hi1).2
              obtain ⟨h1, h2⟩ := unhide hn1
              have hs := sameInts_blw a1 Al.length c1 Al a3 Al.length c3 Al wc ((unhide hA).under hb) hC (by omega) (by omega)
              rw [decide_eq_true rfl] at hs
              have hB2 := (unhide hB).under hb
              have hbz := (unhide hbz2).trans (hb.mono (unhide hbz2).size)
              obtain ⟨an, han⟩ : ∃ an, Al.length = an := ⟨_, rfl⟩
              obtain ⟨bn, hbn⟩ : ∃ an, Bl.length = an := ⟨_, rfl⟩
              rw [hbn] at hB2 hD
              simp only [han, hbn] at hs ⊢
              have hbn2 : bn ≤ 24 := by omega
              clear hcc hbz2 hA hB ht hb hC h1 h2 hn1 hi1 han hbn
              replace hs := hide hs; replace hB2 := hide hB2; replace hD := hide hD; replace hbz := hide hbz
              go_wp2_with fail
              refine (unhide hs).mono ?_
              rintro e wd ⟨rfl, hb⟩
              have hs2 := sameInts_blw a2 bn c2 Bl a4 bn c4 Bl wd ((unhide hB2).under hb) ((unhide hD).under hb) (by omega) (by omega)
              rw [decide_eq_true rfl] at hs2
              have hbz2 := (unhide hbz).trans (hb.mono (unhide hbz).size)
              clear hs hB2 hD hbz hb
              replace hs2 := hide hs2; replace hbz2 := hide hbz2
              go_wp2_with fail
              refine (unhide hs2).mono ?_
              rintro e we ⟨rfl, hb⟩
              have hbz := (unhide hbz2).trans (hb.mono (unhide hbz2).size)
              clear hs2 hbz2 hb
              replace hbz := hide hbz
              go_wp2_with fail
              go_roundw
              case rel => exact ⟨j + 1, by omega, by go_num, unhide hbz⟩
              case measure => simp [intOf]; omega
        · have hbz := (unhide hb48).trans (hbj.mono (unhide hb48).size)
          clear hbj
          replace hbz := hide hbz
          go_wp2_with fail
          go_roundw
          case rel => exact ⟨k + 1, by omega, by go_num, unhide hbz⟩
          case measure => simp [intOf]; omega
    · have hbz := (unhide hz4).trans (hbk.mono (unhide hz4).size)
      clear hbk
      replace hbz := hide hbz
      go_wp2_with fail
      go_ret
      exact ⟨rfl, unhide hbz⟩
end Go.Proofs.Ytmlnjbljdincjaa
