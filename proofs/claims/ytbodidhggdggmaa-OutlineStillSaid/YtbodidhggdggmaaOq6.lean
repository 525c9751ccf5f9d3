/- OutlineStill, walked. -/
import Derived.Test.YtbodidhggdggmaaOlX
import Derived.Test.YtbodidhggdggmaaOq5
import Derived.Test.YtbodidhggdggmaaFrontG
namespace Go.Proofs.Ytbodidhggdggmaa
open Go.RowKit
theorem inst_good {o : Ot} {l : List Dl} {u : List Int} {cnt : Nat} (hc : o.flatten.length = cnt) (h3 : l.length ≤ 3) (hg : ∀ d ∈ l, GoodD cnt u.length d) : instS o l u = (imgO (instP l u) 0 o, 0) := by
  refine inst_ok (by omega) ?_
  rw [List.all_eq_true]
  intro d hd
  obtain ⟨q1, q2, q3, q4⟩ := hg d hd
  unfold fitD fitsS countS
  rw [tentL_valid q2, q1, q3, hc]
  simp
theorem good_small {l : List Dl} {cnt axes : Nat} (hc : cnt ≤ 1000) (ha : axes ≤ 100) (hg : ∀ d ∈ l, GoodD cnt axes d) : ∀ d ∈ l, d.1.length ≤ 1000 ∧ d.2.length ≤ 1000000 := fun d hd => by
  obtain ⟨q1, q2, q3, q4⟩ := hg d hd
  omega
theorem rt_f0 (n d : Int) (w : World) : (Instr.field 60 (.agg #[.int .i64 n, .int .i64 d]) 0).run Try.prog w = .ok (.int .i64 n) w := by kernel_rfl
/-- Instance on good deltas -/
theorem inst_good_any (oa : Option Addr) (on oc : Nat) (o : Ot) (da : Option Addr) (dn dc : Nat) (l : List Dl) (ua : Option Addr) (un uc : Nat) (u : List Int) (w : World) (hl : Lst Enc.ct w (· < w.heap.size) oa on o) (hgo : GoodO6 o) (hd : Lst Enc.dl w (· < w.heap.size) da dn l) (hdn : dn ≤ 3) (hgd : ∀ d ∈ l, GoodD o.flatten.length un d) (hu : Lst Enc.int w (· < w.heap.size) ua un u) (hun : un ≤ 3) :
    Calls Try.prog 23 #[.slice oa on oc, .slice da dn dc, .slice ua un uc] w fun e w' => ∃ a c, e = .returned (.tuple #[.slice a on c, .int .i64 0]) ∧ Lst Enc.ct w' (· < w'.heap.size) a on (imgO (instP l u) 0 o) ∧ Below w.heap.size w w' := by
  have hul : u.length = un := hu.1
  have hll : l.length = dn := hd.1
  have hcnt := good_count hgo
  rw [← hul] at hgd
  refine (inst_any oa on oc o da dn dc l ua un uc u w hl hgo.sml.1 hd hu (by omega) (good_small (by omega) (by omega) hgd)).mono ?_
  rintro e w' ⟨v, rfl, hoo, hb'⟩
  rw [inst_good rfl (by omega) hgd] at hoo ⊢
  obtain ⟨a, c, rfl, _, _, hl'⟩ := hoo.lst
  simp only at hl' ⊢
  rw [imgO_len, show o.length = on from hl.1] at hl' ⊢
  exact ⟨a, c, rfl, hl'.wide (fun b hb => hb.2), hb'⟩
set_option maxHeartbeats 16000000 in
set_option maxRecDepth 100000 in
theorem outlineStill_any (cs : Array Value) (cy : List (List Int) × (List (List Int) × List Int)) (w : World)
    (hcs : (Enc.pair (Enc.list (Enc.list Enc.int)) (Enc.pair (Enc.list (Enc.list Enc.int)) (Enc.list Enc.int))).rep w (fun b => b < w.heap.size) cs.toList cy) :
    Calls Try.prog 6 #[.agg cs] w fun e w' => e = .returned (.bool true) ∧ Below w.heap.size w w' := by
  obtain ⟨L, D, A⟩ := cy
  obtain ⟨x1, x2, hcl, ⟨la, ln, lc, rfl, hl1, hl2, hL⟩, x3, x4, rfl, ⟨ea, en, ec, rfl, he1, he2, hD⟩, ta, tn, tc, rfl, ht1, ht2, hA⟩ := hcs
  obtain ⟨cs⟩ := cs
  simp only at hcl hL hD hA
  subst hcl
  have hlm : ln ≤ maxLen := by omega
  have hem : en ≤ maxLen := by omega
  have htm : tn ≤ maxLen := by omega
  obtain ⟨b1, V1, hb1, hV1, n1, k1, s1⟩ := al1 w (.cells #[.slice la ln lc, .slice ea en ec, .slice ta tn tc] 40)
  have hsan := sanity6_any V1
  clear s1
  replace hL := hide hL; replace hD := hide hD; replace hA := hide hA; replace n1 := hide n1; replace k1 := hide k1; replace hsan := hide hsan
  go_enter Try.func6, Try.ntmps6
  go_wp2_with fail
  refine (unhide hsan).mono ?_
  rintro e w2 ⟨rfl, hb2⟩
  clear hsan hV1 hb1
  have kk2 := (unhide k1).trans (hb2.mono (unhide k1).size)
  have n12 := (hb2.block b1 (Array.getElem?_eq_some_iff.1 (unhide n1)).1).trans (unhide n1)
  have q0 : w2.cell? ⟨b1, 0, none⟩ = some (.slice la ln lc) := (cell_of_row _ _ 0 _ _ _ n12).trans rfl
  have q1 : w2.cell? ⟨b1, 1, none⟩ = some (.slice ea en ec) := (cell_of_row _ _ 1 _ _ _ n12).trans rfl
  have q2 : w2.cell? ⟨b1, 2, none⟩ = some (.slice ta tn tc) := (cell_of_row _ _ 2 _ _ _ n12).trans rfl
  have hcm := cmade6_any la ln lc L ea en ec D ta tn tc A w2 ((unhide hL).under kk2) hlm ((unhide hD).under kk2) hem ((unhide hA).under kk2) htm
  clear hb2 n1 k1 n12 hL hD hA
  replace kk2 := hide kk2; replace hcm := hide hcm
  go_wp2_with fail
  refine (unhide hcm).mono ?_
  rintro e w3 ⟨oa, on, oc, o, da, dn, dc, dl, pa, pn, pc, u, rfl, hol, hgo, hdl, hdn, hgd, hul, hpn, hdc, hdc2, _, _, _, hb3⟩
  have kk3 := (unhide kk2).trans (hb3.mono (unhide kk2).size)
  have hdll : dl.length = dn := hdl.1
  have huln : u.length = pn := hul.1
  obtain ⟨B, hB⟩ : ∃ B, w3.heap.size = B := ⟨_, rfl⟩
  clear hcm hb3 kk2 q0 q1 q2
  replace kk3 := hide kk3; replace hol := hide hol; replace hgo := hide hgo; replace hdl := hide hdl; replace hgd := hide hgd; replace hul := hide hul; replace hdll := hide hdll; replace hB := hide hB; replace huln := hide huln
  go_wp2_with fail
  go_loopw [7, 8, 9] (fun v7 v8 v9 wr => ∃ (k : Nat) (vs : List Value), k ≤ dn ∧ v9 = .int .i64 (k : Int) ∧ v8 = .bool (quietS (dl.take k) u) ∧ wr.ownsRow B 48 2 v7 k vs ∧ Flat Enc.dl w3 (· < B) vs (dl.take k).reverse ∧ Below w3.heap.size w3 wr) (fun _ _ v _ => (dn - intOf v).toNat)
  case atStart => exact ⟨0, [], by omega, rfl, rfl, World.ownsRow_nil _ _ _ _, rfl, Below.refl _ _⟩
  case round =>
    obtain ⟨k, vs, hk, rfl, rfl, hrow, hfl, hbw⟩ := hrel
    obtain ⟨wo, rfl⟩ : ∃ wo : World, wo = wr := ⟨_, rfl⟩
    obtain ⟨va, vc, rfl⟩ := own_shape hrow
    have hBo : B ≤ wo.heap.size := by rw [← unhide hB]; exact hbw.size
    by_cases hlt : k < dn
    · obtain ⟨bl, ol, ⟨ts, ms⟩, xa, xn, xc, ma, mn, mc, rfl, hbl, hd, q1, q2, q3, q4, htl, hml, g0, g1⟩ := lst_dl (unhide hdl) hlt
      simp only at htl hml
      obtain ⟨b39, V1, hb39, hV1, n39, k39, s39⟩ := al1 wo (.cells #[.slice xa xn xc, .slice ma mn mc] 48)
      have hrow0 : V1.ownsRow b39 48 2 (.slice (some ⟨b39, 0, none⟩) 1 1) 1 [.slice xa xn xc, .slice ma mn mc] := ⟨rfl, .inr ⟨b39, 1, _, rfl, Nat.le_refl _, n39, Nat.le_refl _, by decide, rfl, rfl⟩⟩
      have hrow1 := own_blw hrow k39
      have hvl := hrow.1
      have hcc := own_news hrow1
      have hone := flat_one hfl
      have hdk := (unhide hgd) _ (List.mem_of_getElem? hd)
      have hxn : xn ≤ 4 := by have h1 : ts.length = xn := htl.1; have h2 : ts.length = pn := hdk.1; omega
      have hfl2 : Flat Enc.dl w3 (· < B) ([.slice xa xn xc, .slice ma mn mc] ++ vs) (dl.take (k + 1)).reverse := by
        have e : (dl.take (k + 1)).reverse = [(ts, ms)] ++ (dl.take k).reverse := by rw [List.take_add_one, hd, List.reverse_append]; rfl
        rw [e]
        rw [unhide hB] at htl hml
        exact Flat.append (Flat.single ⟨[.slice xa xn xc], _, rfl, ⟨_, _, _, rfl, q1, q2, htl⟩, _, _, _, rfl, q3, q4, hml⟩) hfl
      have g0o := cell_under g0 hbw
      have g1o := cell_under g1 hbw
      have htlo := htl.under hbw
      have hulo := (unhide hul).under hbw
      have hnext := quiet_next u hd
      have hbs : b39 ≤ V1.heap.size := by omega
      have hB39 : B ≤ b39 := by omega
      have hsz1 := hbw.size
      have t1 : (k : Int) < (dn : Int) := by omega
      have t2 : ¬ (dn : Int) ≤ (k : Int) := by omega
      have hk1 : 1 + k ≤ 1000000 := by omega
      clear s39 n39 hrow hfl hd hdk htl hml
      replace hrow0 := hide hrow0; replace hrow1 := hide hrow1; replace hvl := hide hvl; replace hcc := hide hcc; replace hone := hide hone; replace hfl2 := hide hfl2; replace hnext := hide hnext; replace hbw := hide hbw; replace k39 := hide k39; replace htlo := hide htlo; replace hulo := hide hulo; replace g0 := hide g0; replace g1 := hide g1
      go_wp2_with (at_builtin; refine wpList_append_dls rfl _ _ rfl b39 _ 1 [.slice xa xn xc, .slice ma mn mc] rfl (unhide hrow0) va k vc vs rfl (unhide hvl) (unhide hcc) (unhide hone) hk1 hbs ?_)
      intro v' w5 hr5 hg5
      have hg5' : V1.grownBy w5 (some b39) := hg5
      have hb5 : Below wo.heap.size wo w5 := (unhide k39).grown hg5' (unhide k39).size (fun j hj => by injection hj with hj; omega)
      have hr6 : w5.ownsRow B 48 2 v' (k + 1) ([.slice xa xn xc, .slice ma mn mc] ++ vs) := by rw [Nat.add_comm k 1]; exact own_mono hr5 hB39
      have g05 := cell_under g0o hb5
      have hb35 := (unhide hbw).trans (hb5.mono hsz1)
      have hsc := rscalar_any xa xn xc ts pa pn pc u w5 ((unhide htlo).under hb5) ((unhide hulo).under hb5) hxn (by omega)
      obtain ⟨⟨N, Dn⟩, hND⟩ : ∃ r, scalS ts u = r := ⟨_, rfl⟩
      rw [hND] at hsc
      simp only at hsc
      have hqd : quietD u (ts, ms) = decide (N = 0) := by unfold quietD; rw [hND]
      have hnx := unhide hnext
      rw [hqd] at hnx
      obtain ⟨qb, hqb⟩ : ∃ q, quietS (dl.take k) u = q := ⟨_, rfl⟩
      rw [hqb] at hnx ⊢
      clear hr5 hg5 hg5' hb5 hrow0 hrow1 hcc hone hvl hnext hND hqd hqb g0o g1o hV1 hb39 hbw k39 htlo hulo
      replace hr6 := hide hr6; replace hb35 := hide hb35; replace hsc := hide hsc
      cases qb with
      | false =>
        rw [Bool.false_and] at hnx
        replace hnx := hide hnx
        go_wp2_with fail
        go_roundw
        case rel => exact ⟨k + 1, _, by omega, by go_num, by rw [unhide hnx], unhide hr6, unhide hfl2, unhide hb35⟩
        case measure => simp [intOf]; omega
      | true =>
        rw [Bool.true_and] at hnx
        by_cases hN : N = 0
        · subst hN
          rw [decide_eq_true rfl] at hnx
          have hf0 := rt_f0 0 Dn
          replace hnx := hide hnx
          go_wp2_with fail
          refine (unhide hsc).mono ?_
          rintro e w6 ⟨rfl, hb6⟩
          clear hsc
          have hbz := hide ((unhide hb35).trans (hb6.mono (unhide hb35).size))
          have hr7 := hide (own_blw (unhide hr6) hb6)
          clear hb6 hr6 hb35
          go_wp2_with fail
          go_roundw
          case rel => exact ⟨k + 1, _, by omega, by go_num, by rw [unhide hnx], unhide hr7, unhide hfl2, unhide hbz⟩
          case measure => simp [intOf]; omega
        · rw [decide_eq_false hN] at hnx
          have hf0 := rt_f0 N Dn
          have hN2 : (N == 0) = false := by simp [hN]
          have hN3 : decide (N = 0) = false := decide_eq_false hN
          replace hnx := hide hnx
          go_wp2_with fail
          refine (unhide hsc).mono ?_
          rintro e w6 ⟨rfl, hb6⟩
          clear hsc
          have hbz := hide ((unhide hb35).trans (hb6.mono (unhide hb35).size))
          have hr7 := hide (own_blw (unhide hr6) hb6)
          clear hb6 hr6 hb35
          go_wp2_with fail
          go_roundw
          case rel => exact ⟨k + 1, _, by omega, by go_num, by rw [unhide hnx], unhide hr7, unhide hfl2, unhide hbz⟩
          case measure => simp [intOf]; omega
    · have hke : k = dn := by omega
      subst hke
      rw [List.take_of_length_le (by rw [unhide hdll]; exact Nat.le_refl _)] at hfl ⊢
      have t1 : ¬ (k : Int) < (k : Int) := by omega
      have hqid : quietS dl u = true → imgO (instP dl u) 0 o = o := fun h => inst_quiet (unhide hgo) (by rw [unhide huln]; omega) (by rw [unhide huln]; exact unhide hgd) h
      have hbB : Below B w3 wo := by rw [← unhide hB]; exact hbw
      have hflo : Flat Enc.dl wo (· < B) vs dl.reverse := hfl.same (fun b hb => hbB.block b hb)
      have hrl : dl.reverse.length = k := by rw [List.length_reverse]; exact unhide hdll
      obtain ⟨ra, rc, ev, _, _, hrl2⟩ := row_lst (E := Enc.dl) (l := dl.reverse) (by rw [hrl]; exact hrow) hflo (fun b hb => by omega)
      rw [hrl] at ev hrl2
      have ev1 := (Value.slice.inj ev).1
      have ev3 := (Value.slice.inj ev).2.2
      subst ev1
      subst ev3
      have holo := (unhide hol).under hbw
      have hdlo := (unhide hdl).under hbw
      have hulo := (unhide hul).under hbw
      obtain ⟨I1, hI1⟩ : ∃ X, imgO (instP dl u) 0 o = X := ⟨_, rfl⟩
      have hon : o.length = on := holo.1
      have hcnt := good_count (unhide hgo)
      have hsm := (unhide hgo).sml.1
      have hon2 : on ≤ 1000 := by have := hsm.1; omega
      have lI1 : I1.length = on := by rw [← hI1, imgO_len, hon]
      rw [hI1] at hqid
      have c1 := inst_good_any oa on oc o da k dc dl pa pn pc u wo holo (unhide hgo) hdlo hdn (unhide hgd) hulo hpn
      have c2 : ∀ wq, Below wo.heap.size wo wq → Calls Try.prog 23 #[.slice oa on oc, .slice va k vc, .slice pa pn pc] wq fun e w' => ∃ a c, e = .returned (.tuple #[.slice a on c, .int .i64 0]) ∧ Lst Enc.ct w' (· < w'.heap.size) a on I1 ∧ Below wq.heap.size wq w' := fun wq hb => by
        have h := inst_good_any oa on oc o va k vc dl.reverse pa pn pc u wq (holo.under hb) (unhide hgo) (hrl2.under hb) hdn (fun d hd => unhide hgd d (List.mem_reverse.1 hd)) (hulo.under hb) hpn
        rw [instP_rev, hI1] at h
        exact h
      rw [hI1] at c1
      have kko := (unhide kk3).trans (hbw.mono (unhide kk3).size)
      obtain ⟨qb, hqb⟩ : ∃ q, quietS dl u = q := ⟨_, rfl⟩
      rw [hqb] at hqid ⊢
      clear hfl hflo hrow ev hbB hbw hI1 hqb hon hsm hrl hrl2
      replace hqid := hide hqid; replace holo := hide holo; replace hdlo := hide hdlo; replace c1 := hide c1; replace c2 := hide c2; replace kko := hide kko; replace lI1 := hide lI1; replace hulo := hide hulo
      go_wp2_with fail
      refine (unhide c1).mono ?_
      rintro e w4 ⟨a1, c1', rfl, hx1, hb4⟩
      clear c1
      have cq2 := hide (unhide c2 w4 hb4)
      clear c2
      replace hx1 := hide hx1; replace hb4 := hide hb4
      go_wp2_with fail
      refine (unhide cq2).mono ?_
      rintro e w5 ⟨a2, c2', rfl, hx2, hb5⟩
      have hx15 := (unhide hx1).under hb5
      have hbo5 := (unhide hb4).trans (hb5.mono (unhide hb4).size)
      have hol5 := (unhide holo).under hbo5
      have cs1 := rsame_any a1 on c1' I1 a2 on c2' I1 w5 hx15 hx2 (by omega) (by omega)
      rw [decide_eq_true rfl] at cs1
      have cs2 : qb = true → ∀ wq, Below w5.heap.size w5 wq → Calls Try.prog 20 #[.slice a1 on c1', .slice oa on oc] wq fun e w' => e = .returned (.bool true) ∧ Below wq.heap.size wq w' := fun hq wq hb => by
        have h := rsame_any a1 on c1' I1 oa on oc o wq (hx15.under hb) (hol5.under hb) (by omega) (by omega)
        rw [unhide hqid hq, decide_eq_true rfl] at h
        refine h.mono ?_
        rintro e w' ⟨rfl, q, hq⟩
        exact ⟨rfl, by rw [hq]; exact blw_drewN (Below.refl _ _) _⟩
      clear cq2 hx1 hx2 hb4 hb5 hx15 hqid lI1
      replace hbo5 := hide hbo5; replace hol5 := hide hol5; replace cs1 := hide cs1; replace cs2 := hide cs2
      go_upto_region 12 with fail
      go_cut [88] (fun v wr => v = .bool false ∧ Below w5.heap.size w5 wr)
      case first =>
        cases qb with
        | false =>
          clear cs2
          go_wp2_with fail
          refine (unhide cs1).mono ?_
          rintro e w6 ⟨rfl, q, hq⟩
          have hb6 := hide (show Below w5.heap.size w5 w6 by rw [hq]; exact blw_drewN (Below.refl _ _) _)
          clear cs1 hq
          go_wp2_with fail
          go_meet
          exact ⟨rfl, unhide hb6⟩
        | true =>
          go_wp2_with fail
          refine (unhide cs1).mono ?_
          rintro e w6 ⟨rfl, q, hq⟩
          have hb6 : Below w5.heap.size w5 w6 := by rw [hq]; exact blw_drewN (Below.refl _ _) _
          have cs3 := hide (unhide cs2 (by first | exact rfl | trivial) w6 hb6)
          clear cs1 hq cs2
          replace hb6 := hide hb6
          go_wp2_with fail
          refine (unhide cs3).mono ?_
          rintro e w7 ⟨rfl, hb7⟩
          have hb8 := hide ((unhide hb6).trans (hb7.mono (unhide hb6).size))
          clear cs3 hb7
          go_wp2_with fail
          go_meet
          exact ⟨rfl, unhide hb8⟩
      case rest =>
        obtain ⟨rfl, hb6⟩ := hcut
        obtain ⟨W, rfl⟩ : ∃ W : World, W = wc := ⟨_, rfl⟩
        have hboW := (unhide hbo5).trans (hb6.mono (unhide hbo5).size)
        have holW := (unhide holo).under hboW
        have hdlW := (unhide hdlo).under hboW
        have kkW := (unhide kko).trans (hboW.mono (unhide kko).size)
        clear hb6 hbo5 cs1 cs2 hol5 hboW holo hdlo hulo kko
        replace holW := hide holW; replace hdlW := hide hdlW; replace kkW := hide kkW
        by_cases hz : k = 0
        · subst hz
          go_wp2_with fail
          go_ret
          exact ⟨rfl, unhide kkW⟩
        · have t3 : ((k : Int) == 0) = false := by simp; omega
          have t4 : ¬ (k : Int) = 0 := by omega
          have t5 : decide ((k : Int) = 0) = false := by simp; omega
          have t6 : (0 : Int) < (k : Int) := by omega
          have t7 : ¬ (k : Int) ≤ 0 := by omega
          obtain ⟨bl, ol, d, xa, xn, xc, ma, mn, mc, rfl, hbl, hd, q1, q2, q3, q4, htl, hml, g0, g1⟩ := lst_dl (unhide hdlW) (show 0 < k by omega)
          rw [Nat.zero_mul, Nat.add_zero] at g0 g1
          obtain ⟨dg1, dg2, dg3, dg4⟩ := unhide hgd d (List.mem_of_getElem? hd)
          have hxl : d.1.length = xn := htl.1
          have hml2 : d.2.length = mn := hml.1
          have hxn : xn ≤ 3 := by omega
          replace hd := hide hd; replace htl := hide htl; replace hml := hide hml; replace hxl := hide hxl; replace hml2 := hide hml2; replace dg2 := hide dg2; replace dg4 := hide dg4; replace dg1 := hide dg1; replace dg3 := hide dg3
          go_wp2_with fail
          go_loopw [14, 15] (fun v14 v15 wr => ∃ j : Nat, j ≤ xn ∧ v15 = .int .i64 (j : Int) ∧ wr.ownsRow W.heap.size 3 1 v14 j (vints (peaks (d.1.take j))) ∧ Below W.heap.size W wr) (fun _ v _ => (xn - intOf v).toNat)
          case atStart => exact ⟨0, by omega, rfl, World.ownsRow_nil _ _ _ _, Below.refl _ _⟩
          case round =>
            obtain ⟨j, hj, rfl, hrow, hbw⟩ := hrel
            obtain ⟨wo, rfl⟩ : ∃ wo : World, wo = wr := ⟨_, rfl⟩
            obtain ⟨ya, yc, rfl⟩ := own_shape hrow
            have g0o := cell_under g0 hbw
            by_cases hlt2 : j < xn
            · obtain ⟨bt, ot, ⟨p0, p1, p2⟩, rfl, _, ht, _, _, _, _, z1, _⟩ := lst_tent ((unhide htl).under hbw) hlt2
              have hnx := peaks_next ht
              obtain ⟨b111, V1, hb111, hV1, n111, k111, s111⟩ := al1 wo (.cells #[.int .i64 p1] 3)
              have hrow1 := own_blw hrow k111
              have hbs : W.heap.size ≤ V1.heap.size := Nat.le_trans hbw.size k111.size
              have hb1' := hbw.trans (k111.mono hbw.size)
              have u1 : (j : Int) < (xn : Int) := by omega
              have u2 : ¬ (xn : Int) ≤ (j : Int) := by omega
              simp only at z1 hnx
              clear s111 k111 hrow ht
              replace hrow1 := hide hrow1; replace hb1' := hide hb1'; replace hnx := hide hnx; replace n111 := hide n111; replace hbw := hide hbw
              go_wp2_with (at_builtin; refine wpList_append_el Try.underlying38 info_int rfl (by decide) (by decide) rfl _ _ rfl W.heap.size _ j (vints (peaks (d.1.take j))) rfl (unhide hrow1) _ [.int .i64 p1] rfl (unhide n111) rfl ?c2 ?c4 hbs ?_)
              case c2 => first | (intro y hy; simp at hy; subst hy; rfl) | rfl
              case c4 => omega
              intro v' w7 hown7 hg7 _
              have hbz := hide (Below.grown (unhide hb1') hg7 hbs (fun g hg => ((unhide hrow1).lt g hg).1))
              have hown8 : w7.ownsRow W.heap.size 3 1 v' (j + 1) (vints (peaks (d.1.take (j + 1)))) := by rw [← unhide hnx]; unfold vints at hown7 ⊢; rw [List.map_append]; exact hown7
              clear hown7 hg7 hrow1 hb1' n111 hV1 hb111
              replace hown8 := hide hown8
              go_wp2_with fail
              go_roundw
              case rel => exact ⟨j + 1, by omega, by go_num, unhide hown8, unhide hbz⟩
              case measure => simp [intOf]; omega
            · have hje : j = xn := by omega
              subst hje
              rw [List.take_of_length_le (by rw [unhide hxl]; exact Nat.le_refl _)] at hrow
              obtain ⟨pka, pkc, ev, hpk1, hpk2, hpkl⟩ := own_lst2 hrow (fun x hx => by
                obtain ⟨t, ht, rfl⟩ := List.mem_map.1 hx
                obtain ⟨_, q5, q6⟩ := tentL_lim (unhide dg2 t ht)
                exact ⟨by omega, by omega⟩)
              rw [peaks_len, unhide hxl] at ev hpkl hpk1
              have ev1 := (Value.slice.inj ev).1
              have ev3 := (Value.slice.inj ev).2.2
              subst ev1
              subst ev3
              have hd1 : dl.take 1 = [d] := by
                have h := List.take_add_one (l := dl) (i := 0)
                rw [unhide hd] at h
                exact h
              have hdl1 := ((unhide hdlW).under hbw).take (k := 1) (by omega)
              rw [hd1] at hdl1
              have holo := (unhide holW).under hbw
              have c3 := inst_good_any oa on oc o (some ⟨bl, ol, none⟩) 1 dc [d] ya j yc (peaks d.1) wo holo (unhide hgo) hdl1 (by omega) (fun x hx => by simp at hx; subst hx; exact ⟨unhide hxl, unhide dg2, unhide dg3, unhide dg4⟩) (hpkl.wide (fun b hb => hb.2)) hxn
              have kko := (unhide kkW).trans (hbw.mono (unhide kkW).size)
              have t8 : (1 : Int) ≤ (dc : Int) := by omega
              have t9 : ¬ (dc : Int) < 1 := by omega
              have t10 : 1 ≤ dc := by omega
              have hmlo := (unhide hml).under hbw
              have g1o := cell_under g1 hbw
              clear hrow ev hd1 hdl1 hpkl hbw
              replace holo := hide holo; replace kko := hide kko; replace c3 := hide c3; replace hmlo := hide hmlo
              go_wp2_with fail
              refine (unhide c3).mono ?_
              rintro e w8 ⟨a3, c3', rfl, hx8, hb8⟩
              have hol8 := (unhide holo).under hb8
              have hml8 := (unhide hmlo).under hb8
              have g18 := cell_under g1o hb8
              have kk8 := (unhide kko).trans (hb8.mono (unhide kko).size)
              clear c3 hb8 g0 g1 g0o g1o holo hmlo kko hml htl
              replace hol8 := hide hol8; replace hx8 := hide hx8; replace hml8 := hide hml8; replace kk8 := hide kk8
              go_wp2_with fail
              go_loopw [18, 19] (fun v18 v19 wr => ∃ q : Nat, q ≤ on ∧ v19 = .int .i64 (q : Int) ∧ v18 = .int .i64 (((o.take q).flatten.length : Nat) : Int) ∧ Below w8.heap.size w8 wr) (fun _ v _ => (on - intOf v).toNat)
              case atStart => exact ⟨0, by omega, rfl, rfl, Below.refl _ _⟩
              case round =>
                obtain ⟨q, hq, rfl, rfl, hbw⟩ := hrel
                obtain ⟨wo, rfl⟩ : ∃ wo : World, wo = wr := ⟨_, rfl⟩
                by_cases hlt3 : q < on
                · obtain ⟨ob, oo, c, ax, nx, cx, rfl, _, hc, hnc, hcm, hlc, hcell⟩ := lst_list (unhide hol8) hlt3
                  obtain ⟨ob', oo', c', ax', nx', cx', rfl, _, hc', _, _, hlc', hcell'⟩ := lst_list (unhide hx8) hlt3
                  rw [imgO_get _ _ 0 q c hc] at hc'
                  injection hc' with hc'
                  rw [Nat.zero_add] at hc'
                  obtain ⟨F, hF⟩ : ∃ F, (o.take q).flatten.length = F := ⟨_, rfl⟩
                  have hFn : (o.take (q + 1)).flatten.length = F + nx := by rw [take_flat_len hc, hF, show c.length = nx from hlc.1]
                  have hFm : F + nx ≤ mn := by
                    have h : o.flatten.length = (o.take (q + 1)).flatten.length + (o.drop (q + 1)).flatten.length := by rw [← List.length_append, ← List.flatten_append, List.take_append_drop]
                    have h2 : d.2.length = o.flatten.length := unhide dg3
                    have h3 : d.2.length = mn := unhide hml2
                    omega
                  have hnn : nx' = nx := by have h1 := hlc'.1; have h2 := hlc.1; rw [← hc', rowN_len] at h1; omega
                  subst hnn
                  have hnxb : nx' ≤ 6 := by
                    have h := ((unhide hgo).2 c (List.mem_of_getElem? hc)).2.1
                    have h2 : c.length = nx' := hlc.1
                    omega
                  have hFb : F ≤ 1000 := by
                    have h2 : d.2.length = o.flatten.length := unhide dg3
                    have h3 : d.2.length = mn := unhide hml2
                    have h4 := good_count (unhide hgo)
                    omega
                  rw [hF] at hc' ⊢
                  subst hc'
                  have k0 := cell_under hcell hbw
                  have k1 := cell_under hcell' hbw
                  have v1 : (q : Int) < (on : Int) := by omega
                  have v2 : ¬ (on : Int) ≤ (q : Int) := by omega
                  replace hbw := hide hbw; replace hcell := hide hcell; replace hcell' := hide hcell'; replace hlc := hide hlc; replace hlc' := hide hlc'; replace hF := hide hF; replace hFn := hide hFn; replace hc := hide hc
                  go_wp2_with fail
                  go_quiet (fail)
                  go_wp2_with fail
                  clear k0 k1
                  go_loopw [18, 20] (fun v18 v20 wi => ∃ i : Nat, i ≤ nx' ∧ v20 = .int .i64 (i : Int) ∧ v18 = .int .i64 ((F + i : Nat) : Int) ∧ Below w8.heap.size w8 wi) (fun _ v _ => (nx' - intOf v).toNat)
                  case atStart => exact ⟨0, by omega, rfl, rfl, blw_drewN (unhide hbw) _⟩
                  case round =>
                    clear hbw
                    obtain ⟨i, hi, rfl, rfl, hbw⟩ := hrel
                    obtain ⟨wi, rfl⟩ : ∃ V : World, V = wr := ⟨_, rfl⟩
                    obtain ⟨N, hN⟩ : ∃ N, F + i = N := ⟨_, rfl⟩
                    rw [hN]
                    by_cases hlt4 : i < nx'
                    · obtain ⟨go, oo2, px, py, pz, rfl, _, hp, _, _, a0, a1, a2⟩ := lst_pt (unhide hlc) hlt4
                      obtain ⟨gw, ow, u1, u2, u3, rfl, _, hfp, _, _, s0, s1, s2⟩ := lst_pt (unhide hlc') hlt4
                      rw [rowN_get hp, hN] at hfp
                      injection hfp with hfp
                      obtain ⟨mb, mo, mx, my, rfl, _, hm, _, _, y0, y1⟩ := lst_mv (unhide hml8) (show N < mn by omega)
                      have hmv := mvAt_some hm
                      have hmb := (unhide dg4) _ (List.mem_of_getElem? hm)
                      have hip := inst_peak (d := d) (u := peaks d.1) (weight_peak (unhide dg2)) N (by rw [hmv]; exact hmb) (px, py, pz)
                      rw [hmv] at hip
                      rw [hip] at hfp
                      simp only at hfp
                      obtain ⟨X, hX⟩ : ∃ X, wrap64 (px + mx) = X := ⟨_, rfl⟩
                      obtain ⟨Y, hY⟩ : ∃ Y, wrap64 (py + my) = Y := ⟨_, rfl⟩
                      rw [hX, hY] at hfp
                      injection hfp with hfp1 hfp2
                      injection hfp2 with hfp2 hfp3
                      subst hfp1
                      subst hfp2
                      subst hfp3
                      have hd := fun wz => pt_neq wz (X, Y, pz) (X, Y, pz)
                      simp only [decide_true] at hd
                      obtain ⟨b21, V, hb21, hV, st⟩ := (St.start wi).new (Obj.cells #[.int .i64 px, .int .i64 py, .bool pz] 56)
                      have hbV := hbw.trans (st.below.mono hbw.size)
                      have k0w := cell_under (unhide hcell) hbw
                      have a0w := cell_under a0 hbw
                      have a1w := cell_under a1 hbw
                      have a2w := cell_under a2 hbw
                      have gm := cell_under g18 hbV
                      have yy0 := cell_under y0 hbV
                      have yy1 := cell_under y1 hbV
                      obtain ⟨⟨r0, r1, r2⟩, f0, f1, f2⟩ := three_at (st.get 0 rfl)
                      have v3 : (i : Int) < (nx' : Int) := by omega
                      have v4 : ¬ (nx' : Int) ≤ (i : Int) := by omega
                      have v5 : (N : Int) < (mn : Int) := by omega
                      have v6 : ¬ (mn : Int) ≤ (N : Int) := by omega
                      have hNb : N ≤ 2000 := by omega
                      have hN1 : F + (i + 1) = N + 1 := by omega
                      have hst0 := st
                      clear hp hm hmv hmb hip hst0
                      replace st := hide st; replace hX := hide hX; replace hY := hide hY; replace hbw := hide hbw; replace hN := hide hN; replace hN1 := hide hN1
                      have hy1w := hide y1
                      have y0 := yy0
                      clear y1 yy0 yy1
                      go_wp2_with fail
                      refine wp_region_frontG 12 (fun _ _ w' => Below V.heap.size V w') (fun wa wb => Below wa.heap.size wa wb)
                        (fun ix v w' => match ix with
                          | 0 => v = .pointer (some ⟨b21, 0, none⟩)
                          | 1 => v = .int .i64 px
                          | 2 => v = .slice (some ⟨bl, ol, none⟩) k dc
                          | 3 => v = .pointer (some ⟨bl, ol, none⟩)
                          | 4 => v = .pointer (some ⟨bl, ol + 1, none⟩)
                          | 5 => v = .slice (some ⟨mb, mo, none⟩) mn mc
                          | 6 => v = .int .i64 (N : Int)
                          | 7 => v = .pointer (some ⟨mb, mo + N * 2, none⟩)
                          | 8 => v = .pointer (some ⟨mb, mo + N * 2, none⟩)
                          | 9 => v = .int .i64 mx
                          | 10 => v = .int .i64 X
                          | 11 => v = .pointer (some ⟨b21, 0, none⟩)
                          | _ => True) (by rfl) (by kernel_rfl) ?_ ?_ ?_ ?_
                      · exact (Below.refl _ _).drew
                      · intro wa wb hR ix v hv
                        match ix, hv with
                        | 0, h => exact h
                        | 1, h => exact h
                        | 2, h => exact h
                        | 3, h => exact h
                        | 4, h => exact h
                        | 5, h => exact h
                        | 6, h => exact h
                        | 7, h => exact h
                        | 8, h => exact h
                        | 9, h => exact h
                        | 10, h => exact h
                        | 11, h => exact h
                        | _ + 12, _ => trivial
                      --BEGIN1
                      · intro ix hix
                        obtain rfl | rfl | rfl | rfl | rfl | rfl | rfl | rfl | rfl | rfl | rfl | rfl : ix = 0 ∨ ix = 1 ∨ ix = 2 ∨ ix = 3 ∨ ix = 4 ∨ ix = 5 ∨ ix = 6 ∨ ix = 7 ∨ ix = 8 ∨ ix = 9 ∨ ix = 10 ∨ ix = 11 := by omega
                        · refine FrontStep.of [] _ rfl (by kernel_rfl) ?_
                          intro vs LL wq hLL hC hf
                          simp only [putL, List.foldl_nil]
                          go_wp2_with fail
                          first | exact Below.refl _ _ | exact ⟨Below.refl _ _, by omega⟩
                        · refine FrontStep.of [0] _ rfl (by kernel_rfl) ?_
                          intro vs LL wq hLL hC hf
                          simp only [putL, List.foldl_nil, List.foldl_cons, List.getElem?_cons_zero]
                          have e0 : vs 0 = _ := hf 0 (by simp)
                          rw [e0]
                          have hcq := cell_under r0 hC
                          go_wp2_with fail
                          first | exact Below.refl _ _ | exact ⟨Below.refl _ _, by omega⟩
                        · refine FrontStep.of [] _ rfl (by kernel_rfl) ?_
                          intro vs LL wq hLL hC hf
                          simp only [putL, List.foldl_nil]
                          go_wp2_with fail
                          first | exact Below.refl _ _ | exact ⟨Below.refl _ _, by omega⟩
                        · refine FrontStep.of [2] _ rfl (by kernel_rfl) ?_
                          intro vs LL wq hLL hC hf
                          simp only [putL, List.foldl_nil, List.foldl_cons, List.getElem?_cons_zero, List.getElem?_cons_succ]
                          have e2 : vs 2 = _ := hf 2 (by simp)
                          rw [e2]
                          go_wp2_with fail
                          first | exact Below.refl _ _ | exact ⟨Below.refl _ _, by omega⟩
                        · refine FrontStep.of [3] _ rfl (by kernel_rfl) ?_
                          intro vs LL wq hLL hC hf
                          simp only [putL, List.foldl_nil, List.foldl_cons, List.getElem?_cons_zero, List.getElem?_cons_succ]
                          have e3 : vs 3 = _ := hf 3 (by simp)
                          rw [e3]
                          go_wp2_with fail
                          first | exact Below.refl _ _ | exact ⟨Below.refl _ _, by omega⟩
                        · refine FrontStep.of [4] _ rfl (by kernel_rfl) ?_
                          intro vs LL wq hLL hC hf
                          simp only [putL, List.foldl_nil, List.foldl_cons, List.getElem?_cons_zero, List.getElem?_cons_succ]
                          have e4 : vs 4 = _ := hf 4 (by simp)
                          rw [e4]
                          have hcq := cell_under gm hC
                          go_wp2_with fail
                          first | exact Below.refl _ _ | exact ⟨Below.refl _ _, by omega⟩
                        · refine FrontStep.of [] _ rfl (by kernel_rfl) ?_
                          intro vs LL wq hLL hC hf
                          simp only [putL, List.foldl_nil]
                          go_wp2_with fail
                          first | exact Below.refl _ _ | exact ⟨Below.refl _ _, by omega⟩
                        · refine FrontStep.of [5, 6] _ rfl (by kernel_rfl) ?_
                          intro vs LL wq hLL hC hf
                          simp only [putL, List.foldl_nil, List.foldl_cons, List.getElem?_cons_zero, List.getElem?_cons_succ]
                          have e5 : vs 5 = _ := hf 5 (by simp)
                          rw [e5]
                          have e6 : vs 6 = _ := hf 6 (by simp)
                          rw [e6]
                          go_wp2_with fail
                          first | exact Below.refl _ _ | exact ⟨Below.refl _ _, by omega⟩
                        · refine FrontStep.of [7] _ rfl (by kernel_rfl) ?_
                          intro vs LL wq hLL hC hf
                          simp only [putL, List.foldl_nil, List.foldl_cons, List.getElem?_cons_zero, List.getElem?_cons_succ]
                          have e7 : vs 7 = _ := hf 7 (by simp)
                          rw [e7]
                          go_wp2_with fail
                          first | exact Below.refl _ _ | exact ⟨Below.refl _ _, by omega⟩
                        · refine FrontStep.of [8] _ rfl (by kernel_rfl) ?_
                          intro vs LL wq hLL hC hf
                          simp only [putL, List.foldl_nil, List.foldl_cons, List.getElem?_cons_zero, List.getElem?_cons_succ]
                          have e8 : vs 8 = _ := hf 8 (by simp)
                          rw [e8]
                          have hcq := cell_under y0 hC
                          go_wp2_with fail
                          first | exact Below.refl _ _ | exact ⟨Below.refl _ _, by omega⟩
                        · refine FrontStep.of [1, 9] _ rfl (by kernel_rfl) ?_
                          intro vs LL wq hLL hC hf
                          simp only [putL, List.foldl_nil, List.foldl_cons, List.getElem?_cons_zero, List.getElem?_cons_succ]
                          have e1 : vs 1 = _ := hf 1 (by simp)
                          rw [e1]
                          have e9 : vs 9 = _ := hf 9 (by simp)
                          rw [e9]
                          have hcr := unhide hX
                          go_wp2_with fail
                          first | exact Below.refl _ _ | exact ⟨Below.refl _ _, by omega⟩
                        · refine FrontStep.of [0, 1, 2, 3, 4, 5, 6, 7, 8, 9, 10] _ rfl (by kernel_rfl) ?_
                          intro vs LL wq hLL hC hf
                          simp only [putL, List.foldl_nil, List.foldl_cons, List.getElem?_cons_zero, List.getElem?_cons_succ]
                          have e0 : vs 0 = _ := hf 0 (by simp)
                          rw [e0]
                          have e1 : vs 1 = _ := hf 1 (by simp)
                          rw [e1]
                          have e2 : vs 2 = _ := hf 2 (by simp)
                          rw [e2]
                          have e3 : vs 3 = _ := hf 3 (by simp)
                          rw [e3]
                          have e4 : vs 4 = _ := hf 4 (by simp)
                          rw [e4]
                          have e5 : vs 5 = _ := hf 5 (by simp)
                          rw [e5]
                          have e6 : vs 6 = _ := hf 6 (by simp)
                          rw [e6]
                          have e7 : vs 7 = _ := hf 7 (by simp)
                          rw [e7]
                          have e8 : vs 8 = _ := hf 8 (by simp)
                          rw [e8]
                          have e9 : vs 9 = _ := hf 9 (by simp)
                          rw [e9]
                          have e10 : vs 10 = _ := hf 10 (by simp)
                          rw [e10]
                          go_wp2_with fail
                          first | exact Below.refl _ _ | exact ⟨Below.refl _ _, by omega⟩
                      --END1
                      · intro vs LL wq hLL hC hf
                        have e11 : vs 11 = _ := hf 11 (by omega)
                        have e10 : vs 10 = _ := hf 10 (by omega)
                        rw [putSome_all]
                        simp only [putL, List.range, List.range.loop, List.foldl_nil, List.foldl_cons, List.getElem?_cons_zero, List.getElem?_cons_succ, List.drop_succ_cons, List.drop_zero]
                        rw [e11, e10]
                        clear e10 e11 hf hLL
                        have hst := (unhide st).call hC
                        have hst2 := hst.set 0 rfl 0 (.int .i64 X)
                        have kk := cell_under r0 hC
                        have ff := frozen_under f0 r0 hC
                        obtain ⟨V9, hV9⟩ : ∃ V9, wq.setCell ⟨b21, 0, none⟩ (.int .i64 X) = V9 := ⟨_, rfl⟩
                        rw [hV9] at hst2
                        clear hst st hC r0 r1 r2 f0 f1 f2
                        replace hst2 := hide hst2
                        go_simp
                        go_wp2_with fail
                        clear hV9 kk ff
                        obtain ⟨V, rfl⟩ : ∃ V : World, V = V9 := ⟨_, rfl⟩
                        have st := hst2
                        have hbV := (unhide hbw).trans ((unhide st).below.mono (unhide hbw).size)
                        have gm := cell_under g18 hbV
                        have y1 := cell_under (unhide hy1w) hbV
                        obtain ⟨⟨r0, r1, r2⟩, f0, f1, f2⟩ := three_at ((unhide st).get 0 rfl)
                        clear hst2 hbV
                        go_wp2_with fail
                        refine wp_region_frontG 12 (fun _ _ w' => Below V.heap.size V w') (fun wa wb => Below wa.heap.size wa wb)
                          (fun ix v w' => match ix with
                            | 0 => v = .pointer (some ⟨b21, 1, none⟩)
                            | 1 => v = .int .i64 py
                            | 2 => v = .slice (some ⟨bl, ol, none⟩) k dc
                            | 3 => v = .pointer (some ⟨bl, ol, none⟩)
                            | 4 => v = .pointer (some ⟨bl, ol + 1, none⟩)
                            | 5 => v = .slice (some ⟨mb, mo, none⟩) mn mc
                            | 6 => v = .int .i64 (N : Int)
                            | 7 => v = .pointer (some ⟨mb, mo + N * 2, none⟩)
                            | 8 => v = .pointer (some ⟨mb, mo + N * 2 + 1, none⟩)
                            | 9 => v = .int .i64 my
                            | 10 => v = .int .i64 Y
                            | 11 => v = .pointer (some ⟨b21, 1, none⟩)
                            | _ => True) (by rfl) (by kernel_rfl) ?_ ?_ ?_ ?_
                        · exact (Below.refl _ _).drew
                        · intro wa wb hR ix v hv
                          match ix, hv with
                          | 0, h => exact h
                          | 1, h => exact h
                          | 2, h => exact h
                          | 3, h => exact h
                          | 4, h => exact h
                          | 5, h => exact h
                          | 6, h => exact h
                          | 7, h => exact h
                          | 8, h => exact h
                          | 9, h => exact h
                          | 10, h => exact h
                          | 11, h => exact h
                          | _ + 12, _ => trivial
                        --BEGIN2
                        · intro ix hix
                          obtain rfl | rfl | rfl | rfl | rfl | rfl | rfl | rfl | rfl | rfl | rfl | rfl : ix = 0 ∨ ix = 1 ∨ ix = 2 ∨ ix = 3 ∨ ix = 4 ∨ ix = 5 ∨ ix = 6 ∨ ix = 7 ∨ ix = 8 ∨ ix = 9 ∨ ix = 10 ∨ ix = 11 := by omega
                          · refine FrontStep.of [] _ rfl (by kernel_rfl) ?_
                            intro vs LL wq hLL hC hf
                            simp only [putL, List.foldl_nil]
                            go_wp2_with fail
                            first | exact Below.refl _ _ | exact ⟨Below.refl _ _, by omega⟩
                          · refine FrontStep.of [0] _ rfl (by kernel_rfl) ?_
                            intro vs LL wq hLL hC hf
                            simp only [putL, List.foldl_nil, List.foldl_cons, List.getElem?_cons_zero]
                            have e0 : vs 0 = _ := hf 0 (by simp)
                            rw [e0]
                            have hcq := cell_under r1 hC
                            go_wp2_with fail
                            first | exact Below.refl _ _ | exact ⟨Below.refl _ _, by omega⟩
                          · refine FrontStep.of [] _ rfl (by kernel_rfl) ?_
                            intro vs LL wq hLL hC hf
                            simp only [putL, List.foldl_nil]
                            go_wp2_with fail
                            first | exact Below.refl _ _ | exact ⟨Below.refl _ _, by omega⟩
                          · refine FrontStep.of [2] _ rfl (by kernel_rfl) ?_
                            intro vs LL wq hLL hC hf
                            simp only [putL, List.foldl_nil, List.foldl_cons, List.getElem?_cons_zero, List.getElem?_cons_succ]
                            have e2 : vs 2 = _ := hf 2 (by simp)
                            rw [e2]
                            go_wp2_with fail
                            first | exact Below.refl _ _ | exact ⟨Below.refl _ _, by omega⟩
                          · refine FrontStep.of [3] _ rfl (by kernel_rfl) ?_
                            intro vs LL wq hLL hC hf
                            simp only [putL, List.foldl_nil, List.foldl_cons, List.getElem?_cons_zero, List.getElem?_cons_succ]
                            have e3 : vs 3 = _ := hf 3 (by simp)
                            rw [e3]
                            go_wp2_with fail
                            first | exact Below.refl _ _ | exact ⟨Below.refl _ _, by omega⟩
                          · refine FrontStep.of [4] _ rfl (by kernel_rfl) ?_
                            intro vs LL wq hLL hC hf
                            simp only [putL, List.foldl_nil, List.foldl_cons, List.getElem?_cons_zero, List.getElem?_cons_succ]
                            have e4 : vs 4 = _ := hf 4 (by simp)
                            rw [e4]
                            have hcq := cell_under gm hC
                            go_wp2_with fail
                            first | exact Below.refl _ _ | exact ⟨Below.refl _ _, by omega⟩
                          · refine FrontStep.of [] _ rfl (by kernel_rfl) ?_
                            intro vs LL wq hLL hC hf
                            simp only [putL, List.foldl_nil]
                            go_wp2_with fail
                            first | exact Below.refl _ _ | exact ⟨Below.refl _ _, by omega⟩
                          · refine FrontStep.of [5, 6] _ rfl (by kernel_rfl) ?_
                            intro vs LL wq hLL hC hf
                            simp only [putL, List.foldl_nil, List.foldl_cons, List.getElem?_cons_zero, List.getElem?_cons_succ]
                            have e5 : vs 5 = _ := hf 5 (by simp)
                            rw [e5]
                            have e6 : vs 6 = _ := hf 6 (by simp)
                            rw [e6]
                            go_wp2_with fail
                            first | exact Below.refl _ _ | exact ⟨Below.refl _ _, by omega⟩
                          · refine FrontStep.of [7] _ rfl (by kernel_rfl) ?_
                            intro vs LL wq hLL hC hf
                            simp only [putL, List.foldl_nil, List.foldl_cons, List.getElem?_cons_zero, List.getElem?_cons_succ]
                            have e7 : vs 7 = _ := hf 7 (by simp)
                            rw [e7]
                            go_wp2_with fail
                            first | exact Below.refl _ _ | exact ⟨Below.refl _ _, by omega⟩
                          · refine FrontStep.of [8] _ rfl (by kernel_rfl) ?_
                            intro vs LL wq hLL hC hf
                            simp only [putL, List.foldl_nil, List.foldl_cons, List.getElem?_cons_zero, List.getElem?_cons_succ]
                            have e8 : vs 8 = _ := hf 8 (by simp)
                            rw [e8]
                            have hcq := cell_under y1 hC
                            go_wp2_with fail
                            first | exact Below.refl _ _ | exact ⟨Below.refl _ _, by omega⟩
                          · refine FrontStep.of [1, 9] _ rfl (by kernel_rfl) ?_
                            intro vs LL wq hLL hC hf
                            simp only [putL, List.foldl_nil, List.foldl_cons, List.getElem?_cons_zero, List.getElem?_cons_succ]
                            have e1 : vs 1 = _ := hf 1 (by simp)
                            rw [e1]
                            have e9 : vs 9 = _ := hf 9 (by simp)
                            rw [e9]
                            have hcr := unhide hY
                            go_wp2_with fail
                            first | exact Below.refl _ _ | exact ⟨Below.refl _ _, by omega⟩
                          · refine FrontStep.of [0, 1, 2, 3, 4, 5, 6, 7, 8, 9, 10] _ rfl (by kernel_rfl) ?_
                            intro vs LL wq hLL hC hf
                            simp only [putL, List.foldl_nil, List.foldl_cons, List.getElem?_cons_zero, List.getElem?_cons_succ]
                            have e0 : vs 0 = _ := hf 0 (by simp)
                            rw [e0]
                            have e1 : vs 1 = _ := hf 1 (by simp)
                            rw [e1]
                            have e2 : vs 2 = _ := hf 2 (by simp)
                            rw [e2]
                            have e3 : vs 3 = _ := hf 3 (by simp)
                            rw [e3]
                            have e4 : vs 4 = _ := hf 4 (by simp)
                            rw [e4]
                            have e5 : vs 5 = _ := hf 5 (by simp)
                            rw [e5]
                            have e6 : vs 6 = _ := hf 6 (by simp)
                            rw [e6]
                            have e7 : vs 7 = _ := hf 7 (by simp)
                            rw [e7]
                            have e8 : vs 8 = _ := hf 8 (by simp)
                            rw [e8]
                            have e9 : vs 9 = _ := hf 9 (by simp)
                            rw [e9]
                            have e10 : vs 10 = _ := hf 10 (by simp)
                            rw [e10]
                            go_wp2_with fail
                            first | exact Below.refl _ _ | exact ⟨Below.refl _ _, by omega⟩
                        --END2
                        · intro vs LL wq hLL hC hf
                          have e11 : vs 11 = _ := hf 11 (by omega)
                          have e10 : vs 10 = _ := hf 10 (by omega)
                          rw [putSome_all]
                          simp only [putL, List.range, List.range.loop, List.foldl_nil, List.foldl_cons, List.getElem?_cons_zero, List.getElem?_cons_succ, List.drop_succ_cons, List.drop_zero]
                          rw [e11, e10]
                          clear e10 e11 hf hLL
                          have hst := (unhide st).call hC
                          have hst2 := hst.set 0 rfl 1 (.int .i64 Y)
                          have kk := cell_under r1 hC
                          have ff := frozen_under f1 r1 hC
                          obtain ⟨V9, hV9⟩ : ∃ V9, wq.setCell ⟨b21, 1, none⟩ (.int .i64 Y) = V9 := ⟨_, rfl⟩
                          rw [hV9] at hst2
                          clear hst st hC r0 r1 r2 f0 f1 f2
                          replace hst2 := hide hst2
                          go_simp
                          go_wp2_with fail
                          clear hV9 kk ff
                          obtain ⟨V, rfl⟩ : ∃ V : World, V = V9 := ⟨_, rfl⟩
                          have hbV := (unhide hbw).trans ((unhide hst2).below.mono (unhide hbw).size)
                          have k1v := cell_under (unhide hcell') hbV
                          have s0v := cell_under s0 hbV
                          have s1v := cell_under s1 hbV
                          have s2v := cell_under s2 hbV
                          obtain ⟨⟨r0, r1, r2⟩, _⟩ := three_at ((unhide hst2).get 0 rfl)
                          clear hst2
                          replace hbV := hide hbV
                          go_wp2_with fail
                          go_quiet (fail)
                          go_wp2_with fail
                          go_roundw
                          case rel => exact ⟨i + 1, by omega, by go_num, by rw [unhide hN1]; go_num, blw_drewN (unhide hbV) _⟩
                          case measure => simp [intOf]; omega
                    · have hie : i = nx' := by omega
                      subst hie
                      have k0w := cell_under (unhide hcell) hbw
                      have v3 : ¬ (i : Int) < (i : Int) := by omega
                      have v4 : (i : Int) ≤ (i : Int) := by omega
                      have hF1 : N = (o.take (q + 1)).flatten.length := by rw [unhide hFn]; exact hN.symm
                      replace hF1 := hide hF1; replace hN := hide hN; replace hbw := hide hbw
                      go_wp2_with fail
                      go_roundw
                      case rel => exact ⟨q + 1, by omega, by go_num, by rw [unhide hF1], unhide hbw⟩
                      case measure => simp [intOf]; omega
                · have hqe : q = on := by omega
                  have v1 : ¬ (q : Int) < (on : Int) := by omega
                  have hbz := hide ((unhide kk8).trans (hbw.mono (unhide kk8).size))
                  clear hbw
                  go_wp2_with fail
                  go_ret
                  exact ⟨rfl, unhide hbz⟩
end Go.Proofs.Ytbodidhggdggmaa
