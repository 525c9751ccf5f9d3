/- OutlineInstances, walked. -/
import Derived.Test.YtbodidhggdggmaaOlX
import Derived.Test.YtbodidhggdggmaaOr3
namespace Go.Proofs.Ytbodidhggdggmaa
open Go.RowKit
theorem cut_small (l : List Dl) : (cutS l).length ≤ 10 ∧ ∀ d ∈ cutS l, d.1.length ≤ 4 ∧ d.2.length ≤ 20 := by
  unfold cutS
  refine ⟨by rw [List.length_map, List.length_take]; omega, fun d hd => ?_⟩
  obtain ⟨e, _, rfl⟩ := List.mem_map.1 hd
  unfold cutD
  simp only [List.length_take]
  omega
set_option maxHeartbeats 16000000 in
set_option maxRecDepth 100000 in
theorem outlineInstances_any (cs : Array Value) (cy : List (List Int) × (List (List Int) × List Int)) (ra : Option Addr) (rn rc : Nat) (raw : List Dl) (za : Option Addr) (zn zc : Nat) (z : List Int) (w : World)
    (hcs : (Enc.pair (Enc.list (Enc.list Enc.int)) (Enc.pair (Enc.list (Enc.list Enc.int)) (Enc.list Enc.int))).rep w (fun b => b < w.heap.size) cs.toList cy)
    (hraw : Lst Enc.dl w (fun b => b < w.heap.size) ra rn raw) (hr1 : rn ≤ rc) (hr2 : rc ≤ maxLen) (hz : Lst Enc.int w (fun b => b < w.heap.size) za zn z) (hz1 : zn ≤ zc) (_ : zc ≤ maxLen) :
    Calls Try.prog 4 #[.agg cs, .slice ra rn rc, .slice za zn zc] w fun e w' => e = .returned (.bool true) ∧ Below w.heap.size w w' := by
  obtain ⟨L, D, A⟩ := cy
  obtain ⟨x1, x2, hcl, ⟨la, ln, lc, rfl, hl1, hl2, hL⟩, x3, x4, rfl, ⟨ea, en, ec, rfl, he1, he2, hD⟩, ta, tn, tc, rfl, ht1, ht2, hA⟩ := hcs
  obtain ⟨cs⟩ := cs
  simp only at hcl hL hD hA
  subst hcl
  have hlm : ln ≤ maxLen := by omega
  have hem : en ≤ maxLen := by omega
  have htm : tn ≤ maxLen := by omega
  have hrm : rn ≤ maxLen := by omega
  obtain ⟨b1, V1, hb1, hV1, n1, k1, s1⟩ := al1 w (.cells #[.slice la ln lc, .slice ea en ec, .slice ta tn tc] 40)
  have hsan := sanity6_any V1
  clear s1
  replace hL := hide hL; replace hD := hide hD; replace hA := hide hA; replace n1 := hide n1; replace k1 := hide k1; replace hsan := hide hsan; replace hraw := hide hraw; replace hz := hide hz
  go_enter Try.func4, Try.ntmps4
  go_wp2_with fail
  refine (unhide hsan).mono ?_
  rintro e w2 ⟨rfl, hb2⟩
  clear hsan hV1 hb1
  have kk2 := (unhide k1).trans (hb2.mono (unhide k1).size)
  have n12 := (hb2.block b1 (Array.getElem?_eq_some_iff.1 (unhide n1)).1).trans (unhide n1)
  have q0 : w2.cell? ⟨b1, 0, none⟩ = some (.slice la ln lc) := (cell_of_row _ _ 0 _ _ _ n12).trans rfl
  have q1 : w2.cell? ⟨b1, 1, none⟩ = some (.slice ea en ec) := (cell_of_row _ _ 1 _ _ _ n12).trans rfl
  have q2 : w2.cell? ⟨b1, 2, none⟩ = some (.slice ta tn tc) := (cell_of_row _ _ 2 _ _ _ n12).trans rfl
  have hcm := cmade6_any la ln lc L ea en ec D ta tn tc A w2 ((unhide hL).under kk2) hlm ((unhide hD).under kk2) hem ((unhide hA).under kk2) htm
  clear hb2 n1 k1 n12 hL hD hA
  replace kk2 := hide kk2; replace hcm := hide hcm
  go_wp2_with fail
  refine (unhide hcm).mono ?_
  rintro e w3 ⟨oa, on, oc, o, da, dn, dc, dl, pa, pn, pc, u, rfl, hol, hgo, hdl, hdn, hgd, hul, hpn, hdc, hdc2, hpc, _, _, hb3⟩
  have kk3 := (unhide kk2).trans (hb3.mono (unhide kk2).size)
  have hcut := cut6_any ra rn rc raw w3 ((unhide hraw).under kk3) hrm
  clear hcm hb3 kk2 q0 q1 q2 hraw
  replace kk3 := hide kk3; replace hol := hide hol; replace hgo := hide hgo; replace hdl := hide hdl; replace hgd := hide hgd; replace hul := hide hul; replace hcut := hide hcut
  go_wp2_with fail
  refine (unhide hcut).mono ?_
  rintro e w4 ⟨v, vs4, rfl, hrow4, hfl4, hb4⟩
  obtain ⟨hc10, hcb⟩ := cut_small raw
  obtain ⟨nn, hnn⟩ : ∃ nn, (cutS raw).length = nn := ⟨_, rfl⟩
  rw [hnn] at hrow4 hc10
  obtain ⟨va, vc, rfl⟩ := own_shape hrow4
  clear hcut
  replace hrow4 := hide hrow4; replace hfl4 := hide hfl4; replace hb4 := hide hb4; replace hcb := hide hcb; replace hnn := hide hnn
  go_wp2_with fail
  go_loopw [12] (fun v wr => ∃ (k : Nat) (vs : List Value) (L : List Dl), k ≤ nn ∧ v = .int .i64 (k : Int) ∧ wr.ownsRow w3.heap.size 48 2 (.slice va nn vc) nn vs ∧ Flat Enc.dl w3 (· < w3.heap.size) vs L ∧ L.length = nn ∧ (∀ d ∈ L, d.1.length ≤ 4 ∧ d.2.length ≤ 20) ∧ Below w3.heap.size w3 wr) (fun v _ => (nn - intOf v).toNat)
  case atStart => exact ⟨0, vs4, cutS raw, by omega, rfl, unhide hrow4, unhide hfl4, unhide hnn, unhide hcb, unhide hb4⟩
  case round =>
    clear hrow4 hfl4 hb4 hcb hnn
    obtain ⟨k, vs, L, hk, rfl, hrow, hfl, hLn, hLb, hbw⟩ := hrel
    obtain ⟨wo, rfl⟩ : ∃ wo : World, wo = wr := ⟨_, rfl⟩
    by_cases hlt : k < nn
    · have t1 : (k : Int) < (nn : Int) := by omega
      have t2 : ¬ (nn : Int) ≤ (k : Int) := by omega
      by_cases hd0 : dn = 0
      · subst hd0
        replace hrow := hide hrow; replace hfl := hide hfl; replace hLn := hide hLn; replace hLb := hide hLb; replace hbw := hide hbw
        go_wp2_with fail
        go_roundw
        case rel => exact ⟨k + 1, vs, L, by omega, by go_num, unhide hrow, unhide hfl, unhide hLn, unhide hLb, unhide hbw⟩
        case measure => simp [intOf]; omega
      · have t3 : (0 : Int) < (dn : Int) := by omega
        have t4 : decide ((0 : Int) < (dn : Int)) = true := by simp; omega
        have t5 : ¬ (dn : Int) ≤ 0 := by omega
        obtain ⟨r, hr⟩ : ∃ r : Nat, k % 2 = r := ⟨_, rfl⟩
        have hrem : Int.tmod (k : Int) 2 = (r : Int) := by rw [Int.tmod_eq_emod_of_nonneg (by omega)]; omega
        obtain rfl | rfl : r = 0 ∨ r = 1 := by omega
        · obtain ⟨bl, ol, ⟨ts, ms⟩, xa, xn, xc, ma, mn, mc, rfl, hbl, hd, y1, y2, y3, y4, htl, hml, g0, g1⟩ := lst_dl (unhide hdl) (show 0 < dn by omega)
          rw [Nat.zero_mul, Nat.add_zero] at g0
          simp only at htl hml
          obtain ⟨g, rfl, hgB, hgw⟩ := own_some hrow (by omega)
          obtain ⟨hrs, hgs⟩ := hrow.stored (k * 2) (.slice xa xn xc)
          have hvl := hrow.1
          obtain ⟨vq, hcx⟩ : ∃ vq, wo.cell? ⟨g, k * 2, none⟩ = some vq := by rw [hrow.cellAt (k * 2) (by omega)]; exact ⟨_, List.getElem?_eq_getElem (by omega)⟩
          have hfx := hrow.frozenAt (k * 2)
          obtain ⟨dk, hx⟩ : ∃ d, L[k]? = some d := ⟨_, List.getElem?_eq_getElem (by omega)⟩
          have hfl2 := flat_set1 (s := .slice xa xn xc) (t := ts) ⟨_, _, _, rfl, y1, y2, htl⟩ hfl hx
          have hLn2 : (L.set k (ts, dk.2)).length = nn := by rw [List.length_set]; exact hLn
          have htsl : ts.length ≤ 4 := by
            have h1 := (unhide hgd _ (List.mem_of_getElem? hd)).1
            simp only at h1
            omega
          have hLb2 : ∀ d ∈ L.set k (ts, dk.2), d.1.length ≤ 4 ∧ d.2.length ≤ 20 := fun d hd => by
            rcases List.mem_or_eq_of_mem_set hd with h | rfl
            · exact hLb d h
            · exact ⟨htsl, (hLb _ (List.mem_of_getElem? hx)).2⟩
          have g0w := cell_under g0 hbw
          obtain ⟨wy, hwy⟩ : ∃ wy, wo.setCell ⟨g, k * 2, none⟩ (.slice xa xn xc) = wy := ⟨_, rfl⟩
          have hbz := hbw.setCell (p := ⟨g, k * 2, none⟩) hgB (.slice xa xn xc)
          rw [hwy] at hrs hbz
          have hrem0 : Int.tmod (k : Int) 2 = 0 := hrem
          clear hrow hgs hvl hfl hx hLn hLb hbw hd htl hml hgw hr hrem
          replace hrs := hide hrs; replace hfl2 := hide hfl2; replace hLn2 := hide hLn2; replace hLb2 := hide hLb2; replace hbz := hide hbz
          go_wp2_with fail
          go_roundw
          case rel => exact ⟨k + 1, _, _, by omega, by go_num, unhide hrs, unhide hfl2, unhide hLn2, unhide hLb2, unhide hbz⟩
          case measure => simp [intOf]; omega
        · have hrem1 : Int.tmod (k : Int) 2 = 1 := hrem
          clear hr hrem
          replace hrow := hide hrow; replace hfl := hide hfl; replace hLn := hide hLn; replace hLb := hide hLb; replace hbw := hide hbw
          go_wp2_with fail
          go_roundw
          case rel => exact ⟨k + 1, vs, L, by omega, by go_num, unhide hrow, unhide hfl, unhide hLn, unhide hLb, unhide hbw⟩
          case measure => simp [intOf]; omega
    · have t1 : ¬ (k : Int) < (nn : Int) := by omega
      obtain ⟨ys, hyl, hyf, hyc⟩ := lst_news (unhide hdl)
      have hyl : ys.length = dn * 2 := hyl
      have hyone := flat_one hyf
      have hvone := flat_one hfl
      have hvl := hrow.1
      obtain ⟨b54, V5, hb54, hV5, n54, k54, s54⟩ := al1 wo (.cells #[] 48)
      have hr54 : V5.ownsRow b54 48 2 (.slice (some ⟨b54, 0, none⟩) 0 0) 0 [] := ⟨rfl, .inr ⟨b54, 0, #[], rfl, Nat.le_refl _, n54, Nat.le_refl _, Nat.zero_le _, rfl, rfl⟩⟩
      have hbV5 := hbw.trans (k54.mono hbw.size)
      have hy5 := news_under hyc hbV5
      have hs5 : b54 ≤ V5.heap.size := by omega
      have k54' : Below b54 wo V5 := by rw [← hb54]; exact k54
      have hsz3 : w3.heap.size ≤ wo.heap.size := hbw.size
      have hob := hide hb54
      clear n54 k54 s54 hbV5
      replace hrow := hide hrow; replace hbw := hide hbw; replace hfl := hide hfl; replace hLn := hide hLn; replace hLb := hide hLb; replace hyl := hide hyl; replace hyf := hide hyf; replace hyc := hide hyc; replace hyone := hide hyone; replace hvone := hide hvone; replace hvl := hide hvl; replace hr54 := hide hr54; replace hy5 := hide hy5; replace k54' := hide k54'
      go_wp2_with (at_builtin; refine wpList_append_dls rfl _ _ rfl b54 _ 0 [] rfl (unhide hr54) da dn dc ys rfl (unhide hyl) (unhide hy5) (unhide hyone) (by omega) hs5 ?_)
      intro v6 w6 hr6 hg6
      have hg6' : V5.grownBy w6 (some b54) := hg6
      have hbo6 : Below b54 wo w6 := (unhide k54').grown hg6' hs5 (fun j hj => by injection hj with hj; omega)
      have hs6 : b54 ≤ w6.heap.size := Nat.le_trans hs5 hg6.size
      have hnw6 := own_news (own_blw (unhide hrow) (by rw [unhide hob]; exact hbo6))
      have hr6 : w6.ownsRow b54 48 2 v6 dn ys := by simpa using hr6
      clear hg6 hg6' hr54 hy5 k54' hV5 hb54
      replace hr6 := hide hr6; replace hbo6 := hide hbo6; replace hnw6 := hide hnw6
      go_wp2_with (at_builtin; refine wpList_append_dls rfl _ _ rfl b54 _ dn ys rfl (unhide hr6) va nn vc vs rfl (unhide hvl) (unhide hnw6) (unhide hvone) (by omega) hs6 ?_)
      intro v7 w7 hr7 hg7
      have hbo7 : Below b54 wo w7 := (unhide hbo6).grown hg7 hs6 (fun j hj => ((unhide hr6).lt j hj).1)
      obtain ⟨s1, hs1⟩ : ∃ s, dn + nn = s := ⟨_, rfl⟩
      rw [hs1] at hr7
      obtain ⟨a7, c7, rfl⟩ := own_shape hr7
      have hb37 : Below w3.heap.size w3 w7 := (unhide hbw).trans (Below.mono hbo7 (by rw [← unhide hob]; exact hsz3))
      clear hg7 hr6 hbo6 hnw6
      obtain ⟨b59, V8, hb59, hV8, n59, k59, s59⟩ := al1 w7 (.cells #[] 48)
      have hr59 : V8.ownsRow b59 48 2 (.slice (some ⟨b59, 0, none⟩) 0 0) 0 [] := ⟨rfl, .inr ⟨b59, 0, #[], rfl, Nat.le_refl _, n59, Nat.le_refl _, Nat.zero_le _, rfl, rfl⟩⟩
      have hb38 := hb37.trans (k59.mono hb37.size)
      have hy8 := news_under (unhide hyc) hb38
      have hs8 : b59 ≤ V8.heap.size := by omega
      have k59' : Below b59 w7 V8 := by rw [← hb59]; exact k59
      have hoc := hide hb59
      have h37 : w3.heap.size ≤ b59 := by rw [← hb59]; exact hb37.size
      clear n59 k59 s59 hb38
      replace hr7 := hide hr7; replace hbo7 := hide hbo7; replace hb37 := hide hb37; replace hs1 := hide hs1; replace hr59 := hide hr59; replace hy8 := hide hy8; replace k59' := hide k59'
      go_wp2_with (at_builtin; refine wpList_append_dls rfl _ _ rfl b59 _ 0 [] rfl (unhide hr59) da dn dc ys rfl (unhide hyl) (unhide hy8) (unhide hyone) (by omega) hs8 ?_)
      intro v9 w9 hr9 hg9
      have hg9' : V8.grownBy w9 (some b59) := hg9
      have hbo9 : Below b59 w7 w9 := (unhide k59').grown hg9' hs8 (fun j hj => by injection hj with hj; omega)
      have hs9 : b59 ≤ w9.heap.size := Nat.le_trans hs8 hg9.size
      have hy9 := news_under (unhide hyc) ((unhide hb37).trans (Below.mono hbo9 h37))
      have hr9 : w9.ownsRow b59 48 2 v9 dn ys := by simpa using hr9
      clear hg9 hg9' hr59 hy8 k59' hV8 hb59
      replace hr9 := hide hr9; replace hbo9 := hide hbo9; replace hy9 := hide hy9
      go_wp2_with (at_builtin; refine wpList_append_dls rfl _ _ rfl b59 _ dn ys rfl (unhide hr9) da dn dc ys rfl (unhide hyl) (unhide hy9) (unhide hyone) (by omega) hs9 ?_)
      intro v10 w10 hr10 hg10
      have hbo10 : Below b59 w7 w10 := (unhide hbo9).grown hg10 hs9 (fun j hj => ((unhide hr9).lt j hj).1)
      have hs10 : b59 ≤ w10.heap.size := Nat.le_trans hs9 hg10.size
      have hy10 := news_under (unhide hyc) ((unhide hb37).trans (Below.mono hbo10 h37))
      clear hg10 hr9 hbo9 hy9
      replace hr10 := hide hr10; replace hbo10 := hide hbo10; replace hy10 := hide hy10
      go_wp2_with (at_builtin; refine wpList_append_dls rfl _ _ rfl b59 _ (dn + dn) (ys ++ ys) rfl (unhide hr10) da dn dc ys rfl (unhide hyl) (unhide hy10) (unhide hyone) (by omega) hs10 ?_)
      intro v11 w11 hr11 hg11
      have hbo11 : Below b59 w7 w11 := (unhide hbo10).grown hg11 hs10 (fun j hj => ((unhide hr10).lt j hj).1)
      obtain ⟨s3, hs3⟩ : ∃ s, dn + dn + dn = s := ⟨_, rfl⟩
      rw [hs3] at hr11
      obtain ⟨a11, c11, rfl⟩ := own_shape hr11
      have h11 : Below w3.heap.size w3 w11 := (unhide hb37).trans (Below.mono hbo11 h37)
      have h711 : Below w7.heap.size w7 w11 := by rw [unhide hoc]; exact hbo11
      have ho11 : Below wo.heap.size wo w11 := by
        have h := (unhide hbo7)
        rw [← unhide hob] at h
        exact h.trans (h711.mono h.size)
      have hrowB := own_blw (unhide hrow) ho11
      have hrow7 := own_blw (unhide hr7) h711
      have e1 : Flat Enc.dl w11 (· < w3.heap.size) vs L := (unhide hfl).same (fun b hb => h11.block b hb)
      have e2 : Flat Enc.dl w11 (· < w3.heap.size) ys dl := (unhide hyf).same (fun b hb => h11.block b hb)
      have e3 := Flat.append e2 e1
      have e4 := Flat.append e2 (Flat.append e2 e2)
      have hlt11 : ∀ b, b < w3.heap.size → b < w11.heap.size := fun b hb => Nat.lt_of_lt_of_le hb h11.size
      have hdll : dl.length = dn := (unhide hdl).1
      have hl3 : (dl ++ (dl ++ dl)).length = s3 := by rw [List.length_append, List.length_append, hdll]; omega
      obtain ⟨q2, q3, ev, _, _, lstB⟩ := row_lst (E := Enc.dl) (l := L) (by rw [unhide hLn]; exact hrowB) e1 hlt11
      rw [unhide hLn] at ev lstB
      rw [← (Value.slice.inj ev).1] at lstB
      clear ev
      obtain ⟨q2, q3, ev, _, _, lst7⟩ := row_lst (E := Enc.dl) (l := dl ++ L) (by rw [List.length_append, unhide hLn, hdll, unhide hs1]; exact hrow7) e3 hlt11
      rw [List.length_append, unhide hLn, hdll, unhide hs1] at ev lst7
      rw [← (Value.slice.inj ev).1] at lst7
      clear ev
      obtain ⟨q2, q3, ev, _, _, lst11⟩ := row_lst (E := Enc.dl) (l := dl ++ (dl ++ dl)) (by rw [hl3]; exact hr11) e4 hlt11
      rw [hl3] at ev lst11
      rw [← (Value.slice.inj ev).1] at lst11
      clear ev
      have gB : ∀ d ∈ L, d.1.length ≤ 1000 ∧ d.2.length ≤ 1000000 := fun d hd => by have := unhide hLb d hd; omega
      have gD : ∀ d ∈ dl, d.1.length ≤ 1000 ∧ d.2.length ≤ 1000000 := fun d hd => by
        obtain ⟨z1, _, z2, _⟩ := unhide hgd d hd
        have := good_count (unhide hgo)
        omega
      obtain ⟨b13, V12, hb13, hV12, n13, k13, s13⟩ := al1 w11 (.cells #[.slice da dn dc, .slice va nn vc, .slice a7 s1 c7, .slice a11 s3 c11] 49)
      obtain ⟨zm, hzm⟩ : ∃ m, min zn 4 = m := ⟨_, rfl⟩
      have hzmi : min (zn : Int) 4 = (zm : Int) := by omega
      have hzm1 : zm ≤ zn := by omega
      have hzm4 : zm ≤ 4 := by omega
      obtain ⟨b14, V13, hb14, hV13, n14, k14, s14⟩ := al1 V12 (.cells #[.slice pa pn pc, .slice za zm zc] 50)
      have k134 := k13.trans (k14.mono k13.size)
      have h13 := h11.trans (k134.mono h11.size)
      have n13' := (k14.block b13 (Array.getElem?_eq_some_iff.1 n13).1).trans n13
      have hdl13 := (unhide hdl).under h13
      have hol13 := (unhide hol).under h13
      have hul13 := (unhide hul).under h13
      have hkz := (unhide kk3).trans (h13.mono (unhide kk3).size)
      have hz13 := ((unhide hz).under hkz).take hzm1
      have hways : ∀ k, k < 4 → ∃ a n c L, V13.cell? ⟨b13, k, none⟩ = some (.slice a n c) ∧ Lst Enc.dl V13 (· < V13.heap.size) a n L ∧ ∀ d ∈ L, d.1.length ≤ 1000 ∧ d.2.length ≤ 1000000 := fun k hk => by
        have : k = 0 ∨ k = 1 ∨ k = 2 ∨ k = 3 := by omega
        rcases this with rfl | rfl | rfl | rfl
        · exact ⟨da, dn, dc, dl, (cell_of_row _ _ 0 _ _ _ n13').trans rfl, hdl13, gD⟩
        · exact ⟨va, nn, vc, L, (cell_of_row _ _ 1 _ _ _ n13').trans rfl, lstB.under k134, gB⟩
        · exact ⟨a7, s1, c7, dl ++ L, (cell_of_row _ _ 2 _ _ _ n13').trans rfl, lst7.under k134, fun d hd => (List.mem_append.1 hd).elim (gD d) (gB d)⟩
        · exact ⟨a11, s3, c11, dl ++ (dl ++ dl), (cell_of_row _ _ 3 _ _ _ n13').trans rfl, lst11.under k134, fun d hd => (List.mem_append.1 hd).elim (gD d) (fun h => (List.mem_append.1 h).elim (gD d) (gD d))⟩
      have hwhere : ∀ i, i < 2 → ∃ a n c uu, V13.cell? ⟨b14, i, none⟩ = some (.slice a n c) ∧ Lst Enc.int V13 (· < V13.heap.size) a n uu ∧ n ≤ 4 := fun i hi => by
        have : i = 0 ∨ i = 1 := by omega
        rcases this with rfl | rfl
        · exact ⟨pa, pn, pc, u, (cell_of_row _ _ 0 _ _ _ n14).trans rfl, hul13, by omega⟩
        · exact ⟨za, zm, zc, z.take zm, (cell_of_row _ _ 1 _ _ _ n14).trans rfl, hz13, hzm4⟩
      have j1 : (zm : Int) ≤ (zc : Int) := by omega
      have j2 : (0 : Int) ≤ (zm : Int) := by omega
      have j3 : ¬ (zc : Int) < (zm : Int) := by omega
      have hsml := (unhide hgo).sml.1
      clear hl3 hg11 hr10 hbo10 hy10 hbo11 hrowB hrow7 e1 e2 e3 e4 hlt11 hdll lstB lst7 lst11 gB gD s13 s14 k13 k14 k134 h13 n13 n13' n14 hdl13 hul13 hz13 h11 h711 ho11 hr11 hr7 hbo7 hb37 hoc hob hrow hbw hfl hLn hLb hyl hyf hyc hyone hvone hvl hs3 hs1 hzm hdl hgd hul hol hgo kk3 hz
      replace hways := hide hways; replace hwhere := hide hwhere; replace hol13 := hide hol13; replace hkz := hide hkz; replace hzmi := hide hzmi; replace hsml := hide hsml
      have hzmi' := unhide hzmi
      go_wp2_with fail
      clear hzmi' hV12 hV13 hb13 hb14
      go_loopw [15] (fun v wr => ∃ k : Nat, k ≤ 4 ∧ v = .int .i64 (k : Int) ∧ Below V13.heap.size V13 wr) (fun v _ => (4 - intOf v).toNat)
      case atStart => exact ⟨0, by omega, rfl, Below.refl _ _⟩
      case round =>
        obtain ⟨k, hk, rfl, hbw⟩ := hrel
        obtain ⟨wo, rfl⟩ : ∃ wo : World, wo = wr := ⟨_, rfl⟩
        by_cases hlt4 : k < 4
        · have t3 : (k : Int) < 4 := by omega
          replace hbw := hide hbw
          go_wp2_with fail
          go_loopw [16] (fun v wi => ∃ i : Nat, i ≤ 2 ∧ v = .int .i64 (i : Int) ∧ Below V13.heap.size V13 wi) (fun v _ => (2 - intOf v).toNat)
          case atStart => exact ⟨0, by omega, rfl, unhide hbw⟩
          case round =>
            clear hbw
            obtain ⟨i, hi, rfl, hbw⟩ := hrel
            obtain ⟨V, rfl⟩ : ∃ V : World, V = wr := ⟨_, rfl⟩
            by_cases hlt2 : i < 2
            · have t4 : (i : Int) < 2 := by omega
              obtain ⟨aw, nw, cw, Lw, cw0, hlw, hgw⟩ := unhide hways k hlt4
              obtain ⟨ap, np, cp, uu, cp0, hlp, hnp⟩ := unhide hwhere i hlt2
              have cellw := cell_under cw0 hbw
              have cellp := cell_under cp0 hbw
              have hoV := (unhide hol13).under hbw
              have hlV := hlw.under hbw
              have huV := hlp.under hbw
              obtain ⟨X, hX⟩ : ∃ X, (instS o Lw uu).1 = X := ⟨_, rfl⟩
              obtain ⟨code, hcode⟩ : ∃ x, (instS o Lw uu).2 = x := ⟨_, rfl⟩
              obtain ⟨rn, hrn⟩ : ∃ m, X.length = m := ⟨_, rfl⟩
              have hrnb : rn ≤ 1000 := by
                have h1 := inst_len o Lw uu
                rw [hX, hrn] at h1
                have h2 := (unhide hsml).1
                omega
              have kI : ∀ wq, Below V.heap.size V wq → Calls Try.prog 23 #[.slice oa on oc, .slice aw nw cw, .slice ap np cp] wq (IP wq X rn code) := fun wq hb => (inst_any oa on oc o aw nw cw Lw ap np cp uu wq (hoV.under hb) (unhide hsml) (hlV.under hb) (huV.under hb) hnp hgw).mono fun e w' h => by
                have h2 := IP.of h
                rw [hX, hcode, hrn] at h2
                exact h2
              have kR : ∀ wq, Below V.heap.size V wq → Calls Try.prog 24 #[.slice oa on oc, .slice aw nw cw, .slice ap np cp] wq (IP wq X rn code) := fun wq hb => (rinst_any oa on oc o aw nw cw Lw ap np cp uu wq (hoV.under hb) (unhide hsml) (hlV.under hb) (huV.under hb) hnp hgw).mono fun e w' h => by
                have h2 := IP.of h
                rw [hX, hcode, hrn] at h2
                exact h2
              clear hX hcode hrn hoV hlV huV hlw hlp hgw cw0 cp0
              replace kI := hide kI; replace kR := hide kR; replace hbw := hide hbw
              go_wp2_with fail
              refine wp_region_frontG 13 (fun _ _ w' => Below V.heap.size V w') (fun wa wb => Below wa.heap.size wa wb)
                (fun ix v w' => match ix with
                  | 0 => v = .slice oa on oc
                  | 1 => v = .int .i64 (k : Int)
                  | 2 => v = .pointer (some ⟨b13, k, none⟩)
                  | 3 => v = .slice aw nw cw
                  | 4 => v = .int .i64 (i : Int)
                  | 5 => v = .pointer (some ⟨b14, i, none⟩)
                  | 6 => v = .slice ap np cp
                  | 7 => ∃ a c, v = .tuple #[.slice a rn c, .int .i64 code] ∧ Lst Enc.ct w' (· < w'.heap.size) a rn X
                  | 8 => ∃ a c, v = .tuple #[.slice a rn c, .int .i64 code] ∧ Lst Enc.ct w' (· < w'.heap.size) a rn X
                  | 9 => ∃ a c, v = .slice a rn c ∧ Lst Enc.ct w' (· < w'.heap.size) a rn X
                  | 10 => v = .int .i64 code
                  | 11 => ∃ a c, v = .slice a rn c ∧ Lst Enc.ct w' (· < w'.heap.size) a rn X
                  | 12 => v = .int .i64 code
                  | _ => True) (by rfl) (by kernel_rfl) ?_ ?_ ?_ ?_
              · exact (Below.refl _ _).drew
              · intro wa wb hR ix v hv
                match ix, hv with
                | 0, h => exact h
                | 1, h => exact h
                | 2, h => exact h
                | 3, h => exact h
                | 4, h => exact h
                | 5, h => exact h
                | 6, h => exact h
                | 7, h => obtain ⟨a, c, h1, h2⟩ := h; exact ⟨a, c, h1, h2.under hR⟩
                | 8, h => obtain ⟨a, c, h1, h2⟩ := h; exact ⟨a, c, h1, h2.under hR⟩
                | 9, h => obtain ⟨a, c, h1, h2⟩ := h; exact ⟨a, c, h1, h2.under hR⟩
                | 10, h => exact h
                | 11, h => obtain ⟨a, c, h1, h2⟩ := h; exact ⟨a, c, h1, h2.under hR⟩
                | 12, h => exact h
                | _ + 13, _ => trivial
              --BEGIN17
              · intro ix hix
                obtain rfl | rfl | rfl | rfl | rfl | rfl | rfl | rfl | rfl | rfl | rfl | rfl | rfl : ix = 0 ∨ ix = 1 ∨ ix = 2 ∨ ix = 3 ∨ ix = 4 ∨ ix = 5 ∨ ix = 6 ∨ ix = 7 ∨ ix = 8 ∨ ix = 9 ∨ ix = 10 ∨ ix = 11 ∨ ix = 12 := by omega
                · refine FrontStep.of [] _ rfl (by kernel_rfl) ?_
                  intro vs LL wq hLL hC hf
                  simp only [putL, List.foldl_nil]
                  go_wp2_with fail
                  first | exact Below.refl _ _ | exact ⟨Below.refl _ _, by omega⟩
                · refine FrontStep.of [] _ rfl (by kernel_rfl) ?_
                  intro vs LL wq hLL hC hf
                  simp only [putL, List.foldl_nil]
                  go_wp2_with fail
                  first | exact Below.refl _ _ | exact ⟨Below.refl _ _, by omega⟩
                · refine FrontStep.of [1] _ rfl (by kernel_rfl) ?_
                  intro vs LL wq hLL hC hf
                  simp only [putL, List.foldl_nil, List.foldl_cons, List.getElem?_cons_zero, List.getElem?_cons_succ]
                  have e1 : vs 1 = _ := hf 1 (by simp)
                  rw [e1]
                  go_wp2_with fail
                  first | exact Below.refl _ _ | exact ⟨Below.refl _ _, by omega⟩
                · refine FrontStep.of [2] _ rfl (by kernel_rfl) ?_
                  intro vs LL wq hLL hC hf
                  simp only [putL, List.foldl_nil, List.foldl_cons, List.getElem?_cons_zero, List.getElem?_cons_succ]
                  have e2 : vs 2 = _ := hf 2 (by simp)
                  rw [e2]
                  have hcq := cell_under cellw hC
                  go_wp2_with fail
                  first | exact Below.refl _ _ | exact ⟨Below.refl _ _, by omega⟩
                · refine FrontStep.of [] _ rfl (by kernel_rfl) ?_
                  intro vs LL wq hLL hC hf
                  simp only [putL, List.foldl_nil]
                  go_wp2_with fail
                  first | exact Below.refl _ _ | exact ⟨Below.refl _ _, by omega⟩
                · refine FrontStep.of [4] _ rfl (by kernel_rfl) ?_
                  intro vs LL wq hLL hC hf
                  simp only [putL, List.foldl_nil, List.foldl_cons, List.getElem?_cons_zero, List.getElem?_cons_succ]
                  have e4 : vs 4 = _ := hf 4 (by simp)
                  rw [e4]
                  go_wp2_with fail
                  first | exact Below.refl _ _ | exact ⟨Below.refl _ _, by omega⟩
                · refine FrontStep.of [5] _ rfl (by kernel_rfl) ?_
                  intro vs LL wq hLL hC hf
                  simp only [putL, List.foldl_nil, List.foldl_cons, List.getElem?_cons_zero, List.getElem?_cons_succ]
                  have e5 : vs 5 = _ := hf 5 (by simp)
                  rw [e5]
                  have hcq := cell_under cellp hC
                  go_wp2_with fail
                  first | exact Below.refl _ _ | exact ⟨Below.refl _ _, by omega⟩
                · refine FrontStep.of [0, 3, 6] _ rfl (by kernel_rfl) ?_
                  intro vs LL wq hLL hC hf
                  simp only [putL, List.foldl_nil, List.foldl_cons, List.getElem?_cons_zero, List.getElem?_cons_succ]
                  have e0 : vs 0 = _ := hf 0 (by simp)
                  rw [e0]
                  have e3 : vs 3 = _ := hf 3 (by simp)
                  rw [e3]
                  have e6 : vs 6 = _ := hf 6 (by simp)
                  rw [e6]
                  have hcq := unhide kI wq hC
                  replace hcq := hide hcq
                  go_wp2_with fail
                  refine (unhide hcq).mono ?_
                  rintro e wz ⟨a0, c0, rfl, hla, hbz⟩
                  clear hcq
                  go_wp2_with fail
                  first | exact hC.trans (hbz.mono hC.size) | exact ⟨hC.trans (hbz.mono hC.size), hbz, a0, c0, ⟨rfl, rfl⟩, hla⟩ | exact ⟨hC.trans (hbz.mono hC.size), hbz, a0, c0, rfl, hla⟩ | (trace_state; fail)
                · refine FrontStep.of [7] _ rfl (by kernel_rfl) ?_
                  intro vs LL wq hLL hC hf
                  simp only [putL, List.foldl_nil, List.foldl_cons, List.getElem?_cons_zero, List.getElem?_cons_succ]
                  obtain ⟨a90, c90, e90, h90⟩ := hf 7 (by simp)
                  rw [e90]
                  go_wp2_with fail
                  first | exact Below.refl _ _ | exact ⟨Below.refl _ _, _, _, ⟨rfl, rfl⟩, h90⟩ | exact ⟨Below.refl _ _, _, _, rfl, h90⟩ | exact ⟨_, _, rfl, h90⟩ | exact ⟨_, _, ⟨rfl, rfl⟩, h90⟩ | (trace_state; fail)
                · refine FrontStep.of [8] _ rfl (by kernel_rfl) ?_
                  intro vs LL wq hLL hC hf
                  simp only [putL, List.foldl_nil, List.foldl_cons, List.getElem?_cons_zero, List.getElem?_cons_succ]
                  obtain ⟨a82, c82, e82, h82⟩ := hf 8 (by simp)
                  rw [e82]
                  go_wp2_with fail
                  first | exact Below.refl _ _ | exact ⟨Below.refl _ _, _, _, ⟨rfl, rfl⟩, h82⟩ | exact ⟨Below.refl _ _, _, _, rfl, h82⟩ | exact ⟨_, _, rfl, h82⟩ | exact ⟨_, _, ⟨rfl, rfl⟩, h82⟩ | (trace_state; fail)
                · refine FrontStep.of [8] _ rfl (by kernel_rfl) ?_
                  intro vs LL wq hLL hC hf
                  simp only [putL, List.foldl_nil, List.foldl_cons, List.getElem?_cons_zero, List.getElem?_cons_succ]
                  obtain ⟨a82, c82, e82, h82⟩ := hf 8 (by simp)
                  rw [e82]
                  go_wp2_with fail
                  first | exact Below.refl _ _ | exact ⟨Below.refl _ _, by omega⟩
                · refine FrontStep.of [0, 1, 2, 3, 4, 5, 6, 7, 8, 9] _ rfl (by kernel_rfl) ?_
                  intro vs LL wq hLL hC hf
                  simp only [putL, List.foldl_nil, List.foldl_cons, List.getElem?_cons_zero, List.getElem?_cons_succ]
                  have e0 : vs 0 = _ := hf 0 (by simp)
                  rw [e0]
                  have e1 : vs 1 = _ := hf 1 (by simp)
                  rw [e1]
                  have e2 : vs 2 = _ := hf 2 (by simp)
                  rw [e2]
                  have e3 : vs 3 = _ := hf 3 (by simp)
                  rw [e3]
                  have e4 : vs 4 = _ := hf 4 (by simp)
                  rw [e4]
                  have e5 : vs 5 = _ := hf 5 (by simp)
                  rw [e5]
                  have e6 : vs 6 = _ := hf 6 (by simp)
                  rw [e6]
                  obtain ⟨a90, c90, e90, h90⟩ := hf 7 (by simp)
                  rw [e90]
                  obtain ⟨a82, c82, e82, h82⟩ := hf 8 (by simp)
                  rw [e82]
                  obtain ⟨a91, c91, e91, h91⟩ := hf 9 (by simp)
                  rw [e91]
                  go_wp2_with fail
                  first | exact Below.refl _ _ | exact ⟨Below.refl _ _, _, _, ⟨rfl, rfl⟩, h91⟩ | exact ⟨Below.refl _ _, _, _, rfl, h91⟩ | exact ⟨_, _, rfl, h91⟩ | exact ⟨_, _, ⟨rfl, rfl⟩, h91⟩ | (trace_state; fail)
                · refine FrontStep.of [0, 1, 2, 3, 4, 5, 6, 7, 8, 9, 10, 11] _ rfl (by kernel_rfl) ?_
                  intro vs LL wq hLL hC hf
                  simp only [putL, List.foldl_nil, List.foldl_cons, List.getElem?_cons_zero, List.getElem?_cons_succ]
                  have e0 : vs 0 = _ := hf 0 (by simp)
                  rw [e0]
                  have e1 : vs 1 = _ := hf 1 (by simp)
                  rw [e1]
                  have e2 : vs 2 = _ := hf 2 (by simp)
                  rw [e2]
                  have e3 : vs 3 = _ := hf 3 (by simp)
                  rw [e3]
                  have e4 : vs 4 = _ := hf 4 (by simp)
                  rw [e4]
                  have e5 : vs 5 = _ := hf 5 (by simp)
                  rw [e5]
                  have e6 : vs 6 = _ := hf 6 (by simp)
                  rw [e6]
                  obtain ⟨a90, c90, e90, h90⟩ := hf 7 (by simp)
                  rw [e90]
                  obtain ⟨a82, c82, e82, h82⟩ := hf 8 (by simp)
                  rw [e82]
                  obtain ⟨a91, c91, e91, h91⟩ := hf 9 (by simp)
                  rw [e91]
                  have e10 : vs 10 = _ := hf 10 (by simp)
                  rw [e10]
                  obtain ⟨a17, c17, e17, h17⟩ := hf 11 (by simp)
                  rw [e17]
                  go_wp2_with fail
                  first | exact Below.refl _ _ | exact ⟨Below.refl _ _, by omega⟩
              --END17
              · intro vs LL wq hLL hC hf
                obtain ⟨a1, c1, e11, h11⟩ := hf 11 (by omega)
                have e12 : vs 12 = _ := hf 12 (by omega)
                rw [putSome_all]
                simp only [putL, List.range, List.range.loop, List.foldl_nil, List.foldl_cons, List.getElem?_cons_zero, List.getElem?_cons_succ, List.drop_succ_cons, List.drop_zero]
                rw [e11, e12]
                clear e11 e12 hf hLL
                obtain ⟨V2, hV2⟩ : ∃ V : World, V = wq := ⟨_, rfl⟩
                rw [← hV2] at hC h11 ⊢
                clear hV2
                have kR2 : ∀ wq, Below V2.heap.size V2 wq → Calls Try.prog 24 #[.slice oa on oc, .slice aw nw cw, .slice ap np cp] wq (IP wq X rn code) := fun wq hb => unhide kR wq (hC.trans (hb.mono hC.size))
                have hbw2 := (unhide hbw).trans (hC.mono (unhide hbw).size)
                have cellw2 := cell_under cellw hC
                have cellp2 := cell_under cellp hC
                clear kI kR hbw cellw cellp hC
                have kR := hide kR2
                have hbw := hide hbw2
                have cellw := cellw2
                have cellp := cellp2
                clear kR2 hbw2 cellw2 cellp2
                replace h11 := hide h11
                go_simp
                go_wp2_with fail
                refine wp_region_frontG 13 (fun _ _ w' => Below V2.heap.size V2 w') (fun wa wb => Below wa.heap.size wa wb)
                  (fun ix v w' => match ix with
                    | 0 => v = .slice oa on oc
                    | 1 => v = .int .i64 (k : Int)
                    | 2 => v = .pointer (some ⟨b13, k, none⟩)
                    | 3 => v = .slice aw nw cw
                    | 4 => v = .int .i64 (i : Int)
                    | 5 => v = .pointer (some ⟨b14, i, none⟩)
                    | 6 => v = .slice ap np cp
                    | 7 => ∃ a c, v = .tuple #[.slice a rn c, .int .i64 code] ∧ Lst Enc.ct w' (· < w'.heap.size) a rn X
                    | 8 => ∃ a c, v = .tuple #[.slice a rn c, .int .i64 code] ∧ Lst Enc.ct w' (· < w'.heap.size) a rn X
                    | 9 => ∃ a c, v = .slice a rn c ∧ Lst Enc.ct w' (· < w'.heap.size) a rn X
                    | 10 => v = .int .i64 code
                    | 11 => ∃ a c, v = .slice a rn c ∧ Lst Enc.ct w' (· < w'.heap.size) a rn X
                    | 12 => v = .int .i64 code
                    | _ => True) (by rfl) (by kernel_rfl) ?_ ?_ ?_ ?_
                · exact (Below.refl _ _).drew
                · intro wa wb hR ix v hv
                  match ix, hv with
                  | 0, h => exact h
                  | 1, h => exact h
                  | 2, h => exact h
                  | 3, h => exact h
                  | 4, h => exact h
                  | 5, h => exact h
                  | 6, h => exact h
                  | 7, h => obtain ⟨a, c, h1, h2⟩ := h; exact ⟨a, c, h1, h2.under hR⟩
                  | 8, h => obtain ⟨a, c, h1, h2⟩ := h; exact ⟨a, c, h1, h2.under hR⟩
                  | 9, h => obtain ⟨a, c, h1, h2⟩ := h; exact ⟨a, c, h1, h2.under hR⟩
                  | 10, h => exact h
                  | 11, h => obtain ⟨a, c, h1, h2⟩ := h; exact ⟨a, c, h1, h2.under hR⟩
                  | 12, h => exact h
                  | _ + 13, _ => trivial
                --BEGIN18
                · intro ix hix
                  obtain rfl | rfl | rfl | rfl | rfl | rfl | rfl | rfl | rfl | rfl | rfl | rfl | rfl : ix = 0 ∨ ix = 1 ∨ ix = 2 ∨ ix = 3 ∨ ix = 4 ∨ ix = 5 ∨ ix = 6 ∨ ix = 7 ∨ ix = 8 ∨ ix = 9 ∨ ix = 10 ∨ ix = 11 ∨ ix = 12 := by omega
                  · refine FrontStep.of [] _ rfl (by kernel_rfl) ?_
                    intro vs LL wq hLL hC hf
                    simp only [putL, List.foldl_nil]
                    go_wp2_with fail
                    first | exact Below.refl _ _ | exact ⟨Below.refl _ _, by omega⟩
                  · refine FrontStep.of [] _ rfl (by kernel_rfl) ?_
                    intro vs LL wq hLL hC hf
                    simp only [putL, List.foldl_nil]
                    go_wp2_with fail
                    first | exact Below.refl _ _ | exact ⟨Below.refl _ _, by omega⟩
                  · refine FrontStep.of [1] _ rfl (by kernel_rfl) ?_
                    intro vs LL wq hLL hC hf
                    simp only [putL, List.foldl_nil, List.foldl_cons, List.getElem?_cons_zero, List.getElem?_cons_succ]
                    have e1 : vs 1 = _ := hf 1 (by simp)
                    rw [e1]
                    go_wp2_with fail
                    first | exact Below.refl _ _ | exact ⟨Below.refl _ _, by omega⟩
                  · refine FrontStep.of [2] _ rfl (by kernel_rfl) ?_
                    intro vs LL wq hLL hC hf
                    simp only [putL, List.foldl_nil, List.foldl_cons, List.getElem?_cons_zero, List.getElem?_cons_succ]
                    have e2 : vs 2 = _ := hf 2 (by simp)
                    rw [e2]
                    have hcq := cell_under cellw hC
                    go_wp2_with fail
                    first | exact Below.refl _ _ | exact ⟨Below.refl _ _, by omega⟩
                  · refine FrontStep.of [] _ rfl (by kernel_rfl) ?_
                    intro vs LL wq hLL hC hf
                    simp only [putL, List.foldl_nil]
                    go_wp2_with fail
                    first | exact Below.refl _ _ | exact ⟨Below.refl _ _, by omega⟩
                  · refine FrontStep.of [4] _ rfl (by kernel_rfl) ?_
                    intro vs LL wq hLL hC hf
                    simp only [putL, List.foldl_nil, List.foldl_cons, List.getElem?_cons_zero, List.getElem?_cons_succ]
                    have e4 : vs 4 = _ := hf 4 (by simp)
                    rw [e4]
                    go_wp2_with fail
                    first | exact Below.refl _ _ | exact ⟨Below.refl _ _, by omega⟩
                  · refine FrontStep.of [5] _ rfl (by kernel_rfl) ?_
                    intro vs LL wq hLL hC hf
                    simp only [putL, List.foldl_nil, List.foldl_cons, List.getElem?_cons_zero, List.getElem?_cons_succ]
                    have e5 : vs 5 = _ := hf 5 (by simp)
                    rw [e5]
                    have hcq := cell_under cellp hC
                    go_wp2_with fail
                    first | exact Below.refl _ _ | exact ⟨Below.refl _ _, by omega⟩
                  · refine FrontStep.of [0, 3, 6] _ rfl (by kernel_rfl) ?_
                    intro vs LL wq hLL hC hf
                    simp only [putL, List.foldl_nil, List.foldl_cons, List.getElem?_cons_zero, List.getElem?_cons_succ]
                    have e0 : vs 0 = _ := hf 0 (by simp)
                    rw [e0]
                    have e3 : vs 3 = _ := hf 3 (by simp)
                    rw [e3]
                    have e6 : vs 6 = _ := hf 6 (by simp)
                    rw [e6]
                    have hcq := unhide kR wq hC
                    replace hcq := hide hcq
                    go_wp2_with fail
                    refine (unhide hcq).mono ?_
                    rintro e wz ⟨a0, c0, rfl, hla, hbz⟩
                    clear hcq
                    go_wp2_with fail
                    first | exact hC.trans (hbz.mono hC.size) | exact ⟨hC.trans (hbz.mono hC.size), hbz, a0, c0, ⟨rfl, rfl⟩, hla⟩ | exact ⟨hC.trans (hbz.mono hC.size), hbz, a0, c0, rfl, hla⟩ | (trace_state; fail)
                  · refine FrontStep.of [7] _ rfl (by kernel_rfl) ?_
                    intro vs LL wq hLL hC hf
                    simp only [putL, List.foldl_nil, List.foldl_cons, List.getElem?_cons_zero, List.getElem?_cons_succ]
                    obtain ⟨a101, c101, e101, h101⟩ := hf 7 (by simp)
                    rw [e101]
                    go_wp2_with fail
                    first | exact Below.refl _ _ | exact ⟨Below.refl _ _, _, _, ⟨rfl, rfl⟩, h101⟩ | exact ⟨Below.refl _ _, _, _, rfl, h101⟩ | exact ⟨_, _, rfl, h101⟩ | exact ⟨_, _, ⟨rfl, rfl⟩, h101⟩ | (trace_state; fail)
                  · refine FrontStep.of [8] _ rfl (by kernel_rfl) ?_
                    intro vs LL wq hLL hC hf
                    simp only [putL, List.foldl_nil, List.foldl_cons, List.getElem?_cons_zero, List.getElem?_cons_succ]
                    obtain ⟨a93, c93, e93, h93⟩ := hf 8 (by simp)
                    rw [e93]
                    go_wp2_with fail
                    first | exact Below.refl _ _ | exact ⟨Below.refl _ _, _, _, ⟨rfl, rfl⟩, h93⟩ | exact ⟨Below.refl _ _, _, _, rfl, h93⟩ | exact ⟨_, _, rfl, h93⟩ | exact ⟨_, _, ⟨rfl, rfl⟩, h93⟩ | (trace_state; fail)
                  · refine FrontStep.of [8] _ rfl (by kernel_rfl) ?_
                    intro vs LL wq hLL hC hf
                    simp only [putL, List.foldl_nil, List.foldl_cons, List.getElem?_cons_zero, List.getElem?_cons_succ]
                    obtain ⟨a93, c93, e93, h93⟩ := hf 8 (by simp)
                    rw [e93]
                    go_wp2_with fail
                    first | exact Below.refl _ _ | exact ⟨Below.refl _ _, by omega⟩
                  · refine FrontStep.of [0, 1, 2, 3, 4, 5, 6, 7, 8, 9] _ rfl (by kernel_rfl) ?_
                    intro vs LL wq hLL hC hf
                    simp only [putL, List.foldl_nil, List.foldl_cons, List.getElem?_cons_zero, List.getElem?_cons_succ]
                    have e0 : vs 0 = _ := hf 0 (by simp)
                    rw [e0]
                    have e1 : vs 1 = _ := hf 1 (by simp)
                    rw [e1]
                    have e2 : vs 2 = _ := hf 2 (by simp)
                    rw [e2]
                    have e3 : vs 3 = _ := hf 3 (by simp)
                    rw [e3]
                    have e4 : vs 4 = _ := hf 4 (by simp)
                    rw [e4]
                    have e5 : vs 5 = _ := hf 5 (by simp)
                    rw [e5]
                    have e6 : vs 6 = _ := hf 6 (by simp)
                    rw [e6]
                    obtain ⟨a101, c101, e101, h101⟩ := hf 7 (by simp)
                    rw [e101]
                    obtain ⟨a93, c93, e93, h93⟩ := hf 8 (by simp)
                    rw [e93]
                    obtain ⟨a102, c102, e102, h102⟩ := hf 9 (by simp)
                    rw [e102]
                    go_wp2_with fail
                    first | exact Below.refl _ _ | exact ⟨Below.refl _ _, _, _, ⟨rfl, rfl⟩, h102⟩ | exact ⟨Below.refl _ _, _, _, rfl, h102⟩ | exact ⟨_, _, rfl, h102⟩ | exact ⟨_, _, ⟨rfl, rfl⟩, h102⟩ | (trace_state; fail)
                  · refine FrontStep.of [0, 1, 2, 3, 4, 5, 6, 7, 8, 9, 10, 11] _ rfl (by kernel_rfl) ?_
                    intro vs LL wq hLL hC hf
                    simp only [putL, List.foldl_nil, List.foldl_cons, List.getElem?_cons_zero, List.getElem?_cons_succ]
                    have e0 : vs 0 = _ := hf 0 (by simp)
                    rw [e0]
                    have e1 : vs 1 = _ := hf 1 (by simp)
                    rw [e1]
                    have e2 : vs 2 = _ := hf 2 (by simp)
                    rw [e2]
                    have e3 : vs 3 = _ := hf 3 (by simp)
                    rw [e3]
                    have e4 : vs 4 = _ := hf 4 (by simp)
                    rw [e4]
                    have e5 : vs 5 = _ := hf 5 (by simp)
                    rw [e5]
                    have e6 : vs 6 = _ := hf 6 (by simp)
                    rw [e6]
                    obtain ⟨a101, c101, e101, h101⟩ := hf 7 (by simp)
                    rw [e101]
                    obtain ⟨a93, c93, e93, h93⟩ := hf 8 (by simp)
                    rw [e93]
                    obtain ⟨a102, c102, e102, h102⟩ := hf 9 (by simp)
                    rw [e102]
                    have e10 : vs 10 = _ := hf 10 (by simp)
                    rw [e10]
                    obtain ⟨a19, c19, e19, h19⟩ := hf 11 (by simp)
                    rw [e19]
                    go_wp2_with fail
                    first | exact Below.refl _ _ | exact ⟨Below.refl _ _, by omega⟩
                --END18
                · intro vs LL wq hLL hC hf
                  obtain ⟨a2, c2, e11, h21⟩ := hf 11 (by omega)
                  have e12 : vs 12 = _ := hf 12 (by omega)
                  rw [putSome_all]
                  simp only [putL, List.range, List.range.loop, List.foldl_nil, List.foldl_cons, List.getElem?_cons_zero, List.getElem?_cons_succ, List.drop_succ_cons, List.drop_zero]
                  rw [e11, e12]
                  clear e11 e12 hf hLL
                  have hs := rsame_any a1 rn c1 X a2 rn c2 X wq ((unhide h11).under hC) h21 (by omega) (by omega)
                  rw [decide_eq_true rfl] at hs
                  have hbq := (unhide hbw).trans (hC.mono (unhide hbw).size)
                  clear hC h21 h11 hbw cellw cellp kR
                  replace hs := hide hs; replace hbq := hide hbq
                  go_simp
                  go_wp2_with fail
                  refine (unhide hs).mono ?_
                  rintro e wz ⟨rfl, q, hq⟩
                  have hbz := hide ((unhide hbq).trans ((show Below wq.heap.size wq wz by rw [hq]; exact blw_drewN (Below.refl _ _) _).mono (unhide hbq).size))
                  clear hs hq hbq
                  go_wp2_with fail
                  go_roundw
                  case rel => exact ⟨i + 1, by omega, by go_num, unhide hbz⟩
                  case measure => simp [intOf]; omega
            · have t4 : ¬ (i : Int) < 2 := by omega
              replace hbw := hide hbw
              go_wp2_with fail
              go_roundw
              case rel => exact ⟨k + 1, by omega, by go_num, unhide hbw⟩
              case measure => simp [intOf]; omega
        · have t3 : ¬ (k : Int) < 4 := by omega
          have hbz := hide ((unhide hkz).trans (hbw.mono (unhide hkz).size))
          clear hbw
          go_wp2_with fail
          go_ret
          exact ⟨rfl, unhide hbz⟩
end Go.Proofs.Ytbodidhggdggmaa
