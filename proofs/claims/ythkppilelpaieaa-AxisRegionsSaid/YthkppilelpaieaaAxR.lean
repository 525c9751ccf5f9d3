/- The walk of AxisRegions. -/
import Derived.Test.YthkppilelpaieaaAx15
namespace Go.Proofs.Ythkppilelpaieaa
open Go.RowKit
set_option maxHeartbeats 8000000 in
set_option maxRecDepth 100000 in
theorem axisRegions_any (a : Option Addr) (n c : Nat) (L : List Int) (ua : Option Addr) (un uc : Nat) (U : List Int) (ta : Option Addr) (tn tc : Nat) (ts : List Tent) (m : Int) (w : World) (hl : Lst Enc.int w (fun b => b < w.heap.size) a n L) (hn : n ≤ c) (hc : c ≤ maxLen) (hu : Lst Enc.int w (fun b => b < w.heap.size) ua un U) (hun : un ≤ uc) (_ : uc ≤ maxLen) (ht : Lst Enc.tent w (fun b => b < w.heap.size) ta tn ts) (htn : tn ≤ tc) (_ : tc ≤ maxLen) (_ : -9223372036854775808 ≤ m ∧ m ≤ 9223372036854775807) :
    Calls Try.prog 4 #[.slice a n c, .slice ua un uc, .slice ta tn tc, .int .i64 m] w fun e w' => e = .returned (.bool true) ∧ Below w.heap.size w w' := by
  obtain ⟨gm, egm⟩ : ∃ gm : Nat, (min (n : Int) 30).toNat = gm := ⟨_, rfl⟩
  obtain ⟨um, eum⟩ : ∃ gm : Nat, (min (un : Int) 4).toNat = gm := ⟨_, rfl⟩
  obtain ⟨tm, etm⟩ : ∃ gm : Nat, (min (tn : Int) 4).toNat = gm := ⟨_, rfl⟩
  have mgm : gm ≤ c := by omega
  have ggn : gm ≤ n := by omega
  have gg30 : gm ≤ 30 := by omega
  have uum : um ≤ uc := by omega
  have uun : um ≤ un := by omega
  have uu4 : um ≤ 4 := by omega
  have ttm : tm ≤ tc := by omega
  have ttn : tm ≤ tn := by omega
  have tt4 : tm ≤ 4 := by omega
  replace egm := hide egm; replace eum := hide eum; replace etm := hide etm
  replace hl := hide hl; replace hu := hide hu; replace ht := hide ht
  go_enter Try.func4, Try.ntmps4
  go_wp2_with fail
  refine (sanity_any _).mono ?_
  rintro e w1 ⟨rfl, hz1⟩
  replace hz1 := hide hz1
  go_wp2_with fail
  go_quiet (fail)
  rw [unhide egm, unhide eum, unhide etm]
  obtain ⟨wq, hwq⟩ : ∃ W : World, w1.drewN nq = W := ⟨_, rfl⟩
  have hz2 : Below w.heap.size w wq := by rw [← hwq]; exact ⟨(unhide hz1).os, (unhide hz1).tape, (unhide hz1).output, (unhide hz1).size, (unhide hz1).block⟩
  rw [hwq]
  clear hwq hz1
  have hL2 := ((unhide hl).under hz2).take ggn
  have hU2 := ((unhide hu).under hz2).take uun
  have hT2 := ((unhide ht).under hz2).take ttn
  clear hl hu ht
  generalize L.take gm = L2 at *
  generalize U.take um = U2 at *
  generalize ts.take tm = T2 at *
  replace hL2 := hide hL2; replace hU2 := hide hU2; replace hT2 := hide hT2; replace hz2 := hide hz2
  go_wp2_with fail
  go_loopw [10] (fun v wr => ∃ k : Nat, k ≤ 4 ∧ v = .int .i64 (k : Int) ∧ Below wq.heap.size wq wr) (fun v _ => 4 - (intOf v).toNat)
  case atStart => exact ⟨0, by omega, rfl, Below.refl _ _⟩
  case round =>
    obtain ⟨k, hk, rfl, hbw⟩ := hrel
    obtain ⟨wo, rfl⟩ : ∃ wo : World, wo = wr := ⟨_, rfl⟩
    by_cases hlt : k < 4
    · have tk : (k : Int) < 4 := by omega
      have hr := region_any a gm c L2 k wo ((unhide hL2).under hbw) (by omega) (by omega)
      replace hr := hide hr; replace hbw := hide hbw
      go_wp2_with fail
      refine (unhide hr).mono ?_
      rintro e w3 ⟨ra, rc, l, rfl, hR, hR1, hR2, hall, hb⟩
      have hbw3 := (unhide hbw).trans (hb.mono (unhide hbw).size)
      clear hr hbw hb
      have hfk : fitsS l (k : Int) = true := by unfold fitsS; rw [hall, decide_eq_true (by rw [hR.1])]; rfl
      have c1 := fun (W : World) (hW : Below w3.heap.size w3 W) => fits_any ra k rc l (k : Int) W (hR.under hW) (by omega)
      rw [hfk] at c1
      have c2 := fun (W : World) (hW : Below w3.heap.size w3 W) => fits_any ra k rc l m W (hR.under hW) (by omega)
      have c3 := fun (W : World) (hW : Below w3.heap.size w3 W) => rfits_any ra k rc l m W (hR.under hW) (by omega)
      have hUW := (unhide hU2).under hbw3
      have c4 := fun (W : World) (hW : Below w3.heap.size w3 W) => scalar_any ra k rc l ua um uc U2 W (hR.under hW) (hUW.under hW) (by omega) (by omega)
      have c5 := fun (W : World) (hW : Below w3.heap.size w3 W) => rscalar_any ra k rc l ua um uc U2 W (hR.under hW) (hUW.under hW) (by omega) (by omega)
      generalize fitsS l m = fb at *
      generalize (scalS l U2).1 = sn at *
      generalize (scalS l U2).2 = sd at *
      have xb : (fb != fb) = false := by simp
      clear hfk hR hR1 hR2 hall hUW
      replace c1 := hide c1; replace c2 := hide c2; replace c3 := hide c3; replace c4 := hide c4; replace c5 := hide c5; replace hbw3 := hide hbw3
      go_wp2_with fail
      refine (unhide c1 _ (Below.refl _ _)).mono ?_
      rintro e w4 ⟨rfl, hb4⟩
      go_wp2_with fail
      refine (unhide c2 _ hb4).mono ?_
      rintro e w5 ⟨rfl, hb5⟩
      have hb5' := hb4.trans (hb5.mono hb4.size)
      clear hb4 hb5
      go_wp2_with fail
      refine (unhide c3 _ hb5').mono ?_
      rintro e w6 ⟨rfl, hb6⟩
      have hb6' := hb5'.trans (hb6.mono hb5'.size)
      clear hb5' hb6
      go_wp2_with fail
      refine (unhide c4 _ hb6').mono ?_
      rintro e w7 ⟨rfl, hb7⟩
      have hb7' := hb6'.trans (hb7.mono hb6'.size)
      clear hb6' hb7
      go_wp2_with fail
      refine (unhide c5 _ hb7').mono ?_
      rintro e w8 ⟨rfl, hb8⟩
      have hb8' := hb7'.trans (hb8.mono hb7'.size)
      have hb9 := hide ((unhide hbw3).trans (hb8'.mono (unhide hbw3).size))
      clear hb7' hb8 hb8' c1 c2 c3 c4 c5 hbw3
      go_wp2_with fail
      go_roundw
      case rel => exact ⟨k + 1, by omega, by go_num, unhide hb9⟩
      case measure => simp [intOf]; omega
    · have hk4 : k = 4 := by omega
      subst hk4
      have tk : ¬ (4 : Int) < 4 := by omega
      have hTW := (unhide hT2).under hbw
      have hUW := (unhide hU2).under hbw
      have hzw := (unhide hz2).trans (hbw.mono (unhide hz2).size)
      have c2 := fun (W : World) (hW : Below wo.heap.size wo W) => fits_any ta tm tc T2 m W (hTW.under hW) (by omega)
      have c3 := fun (W : World) (hW : Below wo.heap.size wo W) => rfits_any ta tm tc T2 m W (hTW.under hW) (by omega)
      have d2 := fun (W : World) (hW : Below wo.heap.size wo W) => fits_any ta tm tc T2 (tm : Int) W (hTW.under hW) (by omega)
      have d3 := fun (W : World) (hW : Below wo.heap.size wo W) => rfits_any ta tm tc T2 (tm : Int) W (hTW.under hW) (by omega)
      have c4 := fun (W : World) (hW : Below wo.heap.size wo W) => scalar_any ta tm tc T2 ua um uc U2 W (hTW.under hW) (hUW.under hW) (by omega) (by omega)
      have c5 := fun (W : World) (hW : Below wo.heap.size wo W) => rscalar_any ta tm tc T2 ua um uc U2 W (hTW.under hW) (hUW.under hW) (by omega) (by omega)
      generalize fitsS T2 m = fb at *
      generalize fitsS T2 (tm : Int) = fc at *
      generalize (scalS T2 U2).1 = sn at *
      generalize (scalS T2 U2).2 = sd at *
      have xb : (fb == fb) = true := by simp
      have xc : (fc == fc) = true := by simp
      clear hTW hUW hL2 hU2 hT2 hz2 hbw
      replace c2 := hide c2; replace c3 := hide c3; replace d2 := hide d2; replace d3 := hide d3; replace c4 := hide c4; replace c5 := hide c5; replace hzw := hide hzw
      go_wp2_with fail
      refine (unhide c2 _ (Below.refl _ _)).mono ?_
      rintro e w4 ⟨rfl, hb4⟩
      go_wp2_with fail
      refine (unhide c3 _ hb4).mono ?_
      rintro e w5 ⟨rfl, hb5⟩
      have hb5' := hb4.trans (hb5.mono hb4.size)
      clear hb4 hb5
      go_wp2_with fail
      refine (unhide d2 _ hb5').mono ?_
      rintro e w6 ⟨rfl, hb6⟩
      have hb6' := hb5'.trans (hb6.mono hb5'.size)
      clear hb5' hb6
      go_wp2_with fail
      refine (unhide d3 _ hb6').mono ?_
      rintro e w7 ⟨rfl, hb7⟩
      have hb7' := hb6'.trans (hb7.mono hb6'.size)
      clear hb6' hb7
      go_wp2_with fail
      refine (unhide c4 _ hb7').mono ?_
      rintro e w8 ⟨rfl, hb8⟩
      have hb8' := hb7'.trans (hb8.mono hb7'.size)
      clear hb7' hb8
      go_wp2_with fail
      refine (unhide c5 _ hb8').mono ?_
      rintro e w9 ⟨rfl, hb9⟩
      have hb9' := hide ((unhide hzw).trans ((hb8'.trans (hb9.mono hb8'.size)).mono (unhide hzw).size))
      clear hb8' hb9 c2 c3 c4 c5 d2 d3 hzw
      go_wp2_with fail
      go_ret
      exact ⟨rfl, unhide hb9'⟩
end Go.Proofs.Ythkppilelpaieaa
