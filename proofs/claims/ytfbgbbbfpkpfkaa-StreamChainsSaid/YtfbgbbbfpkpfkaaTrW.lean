/- StreamWaits: its walk. -/
import Derived.Test.YtfbgbbbfpkpfkaaTr15
namespace Go.Proofs.Ytfbgbbbfpkpfkaa
open Go.RowKit
theorem goodL12 {l : List (List Sub)} (h : GoodL l ((12 : Nat) : Int)) : (∀ x ∈ l, Small x) ∧ (∀ x ∈ l, ToI x) ∧ l.length ≤ 3 := ⟨goodL_small h, goodL_to (by decide) h, h.1⟩
set_option maxRecDepth 100000 in
set_option maxHeartbeats 8000000 in
theorem streamWaits_any (na : Option Addr) (nn nc : Nat) (N : List Int) (ga : Option Addr) (gn gc : Nat) (g : List Int) (w : World) (hN : Lst Enc.int w (fun b => b < w.heap.size) na nn N) (hN1 : nn ≤ nc) (hN2 : nc ≤ maxLen) (hG : Lst Enc.int w (fun b => b < w.heap.size) ga gn g) (hG1 : gn ≤ gc) (hG2 : gc ≤ maxLen) :
    Calls Try.prog 3 #[.slice na nn nc, .slice ga gn gc] w fun e w' => e = .returned (.bool true) ∧ Below w.heap.size w w' := by
  obtain ⟨nm, enm⟩ : ∃ m : Nat, (min (nn : Int) 60).toNat = m := ⟨_, rfl⟩
  have mnm : nm ≤ nn := by omega
  have mnc : nm ≤ nc := by omega
  have hif : (if (60 : Int) < (nn : Int) then (60 : Int) else (nn : Int)) = (nm : Int) := by split <;> omega
  have i60 : (0 : Int) ≤ (nm : Int) := by omega
  have i61 : (nm : Int) ≤ (nc : Int) := by omega
  replace enm := hide enm; replace hN := hide hN; replace hG := hide hG
  go_enter Try.func3, Try.ntmps3
  go_wp2_with fail
  refine (sanity_any _).mono ?_
  rintro e w1 ⟨rfl, hz1⟩
  have hr := made_any na nm nc (N.take nm) 12 w1 (((unhide hN).under hz1).take mnm) (by omega) (by decide) (by decide)
  have hG' := hide ((unhide hG).under hz1)
  clear hN hG
  replace hr := hide hr; replace hz1 := hide hz1
  go_wp2_with fail
  refine (unhide hr).mono ?_
  rintro e w2 ⟨la, lc, l, rfl, hl, hgl, hb2⟩
  have hz2 := hide ((unhide hz1).trans (hb2.mono (unhide hz1).size))
  have hG2' := (unhide hG').under hb2
  obtain ⟨hsm, hto, hl3⟩ := goodL12 hgl
  obtain ⟨ln, hln⟩ : ∃ m, l.length = m := ⟨_, rfl⟩
  rw [hln] at hl hl3 ⊢
  have hcc := cut_any ga gn gc g w2 hG2' (by omega)
  clear hr hz1 hb2 hG' hG2' hgl
  replace hcc := hide hcc; replace hl := hide hl; replace hsm := hide hsm; replace hto := hide hto; replace hln := hide hln
  go_wp2_with fail
  refine (unhide hcc).mono ?_
  rintro e w3 ⟨v, rfl, hown, hb⟩
  have hz3 := hide ((unhide hz2).trans (hb.mono (unhide hz2).size))
  have hl' := (unhide hl).under hb
  obtain ⟨ca, cc, rfl, -, hcl⟩ := own_lst hown (cutS_i64 g)
  have hcn := cutS_len g
  obtain ⟨X, hX⟩ : ∃ X, cutS g = X := ⟨_, rfl⟩
  rw [hX] at hcl hcn ⊢
  obtain ⟨xn, hxn⟩ : ∃ m, X.length = m := ⟨_, rfl⟩
  rw [hxn] at hcl hcn ⊢
  have hfc := fed_any la ln lc l ca xn cc X w3 hl' (unhide hsm) (unhide hto) hcl (by omega) (by omega)
  have hwt := waits_all l X (startS l) (Waits.start l)
  have hfi := feedAll_len l X (startS l) (startS_len l)
  obtain ⟨FA, hFA⟩ : ∃ r, feedAll l (startS l) X = r := ⟨_, rfl⟩
  rw [hFA] at hfc hwt hfi
  clear hcc hz2 hl hown hcl hb hX hFA
  have hl := hide hl'
  clear hl'
  replace hfc := hide hfc; replace hwt := hide hwt; replace hfi := hide hfi; replace hxn := hide hxn
  go_wp2_with fail
  refine (unhide hfc).mono ?_
  rintro e w4 ⟨fa, fc, v, rfl, hst, hown, hb⟩
  obtain ⟨oa, oc, hv⟩ := own_shape hown
  subst hv
  have hz4 := (unhide hz3).trans (hb.mono (unhide hz3).size)
  have hl4 := (unhide hl).under hb
  obtain ⟨b7x, V7, hb7, hV7, st⟩ := (St.start w4).new (Obj.cells #[.slice fa ln fc] 29)
  have hbb := st.below
  have k7 := st.get 0 rfl
  have hz7 := hz4.trans (hbb.mono hz4.size)
  have hl7 := hl4.under hbb
  have hst7 := hst.under hbb
  clear st hfc hz3 hl hst hown hb hz4 hl4 hbb
  replace hb7 := hide hb7; replace hV7 := hide hV7; replace hz7 := hide hz7; replace hl7 := hide hl7; replace hst7 := hide hst7; replace k7 := hide k7
  go_upto_region 4 with fail
  rw [unhide hV7]
  try rw [unhide hb7]
  clear hV7 hb7
  have d7 := blk_cell (unhide k7)
  have t1 : ((ln : Int) != (ln : Int)) = false := by simp
  go_wp2_with fail
  clear d7 t1
  go_loopw [34] (fun v wr => ∃ k : Nat, k ≤ ln ∧ v = .int .i64 (k : Int) ∧ Below V7.heap.size V7 wr) (fun v _ => ln - (intOf v).toNat)
  case atStart => exact ⟨0, by omega, rfl, Below.refl _ _⟩
  case round =>
    obtain ⟨k, hk, rfl, hbw⟩ := hrel
    obtain ⟨wo, rfl⟩ : ∃ wo : World, wo = wr := ⟨_, rfl⟩
    by_cases hlt : k < ln
    · obtain ⟨bL, oL, x, xa, xn', xc, rfl, _, hx, _, _, hLx, cL⟩ := lst_list ((unhide hl7).under hbw) hlt
      obtain ⟨bS, oS, s, a1, n1, c1, a2, n2, c2, rfl, _, hs, ⟨_, _, p1⟩, ⟨_, _, p2⟩, d1, d2⟩ := lst_stg ((unhide hst7).under hbw) hlt
      obtain ⟨w1', w2'⟩ := (unhide hwt).at_ k x s hx hs
      have q1 := p1.1
      have q2 := p2.1
      have dk := blk_cell (kept' hbw (unhide k7))
      have hwc := fun w h => window_any xa xn' xc x w h (unhide hsm x (List.mem_of_getElem? hx))
      obtain ⟨M, hM⟩ : ∃ M, winS x = M := ⟨_, rfl⟩
      rw [hM] at w1'
      simp only [hM] at hwc
      obtain ⟨b10x, V10, hb10, hV10, st⟩ := (St.start wo).new (Obj.cells #[.slice a1 n1 c1, .slice a2 n2 c2] 33)
      have hbb := st.below
      have y1 := st.cell 0 rfl 0 (v := .slice a1 n1 c1) rfl
      have y2 := st.cell 0 rfl 1 (v := .slice a2 n2 c2) rfl
      have y3 := cell_under cL hbb
      have hb10w := hbw.trans (hbb.mono hbw.size)
      have hLx2 := hide (hLx.under hbb)
      have i1 : (0 : Int) ≤ (k : Int) := by omega
      have i2 : (k : Int) < (ln : Int) := by omega
      have t1 : decide ((M : Int) ≤ (n2 : Int)) = false := by simp; omega
      have t2 : decide ((2 : Int) < (n1 : Int)) = false := by simp; omega
      have t3 : decide (M ≤ n2) = false := by simp; omega
      have t4 : decide (2 < n1) = false := by simp; omega
      clear st p1 p2 q1 q2 w1' w2' hx hs hM hLx hbb
      replace hb10 := hide hb10; replace hV10 := hide hV10; replace y1 := hide y1; replace y2 := hide y2; replace y3 := hide y3; replace hb10w := hide hb10w; replace hwc := hide hwc; replace hbw := hide hbw
      go_upto_region 10 with fail
      rw [unhide hV10]
      try rw [unhide hb10]
      clear hV10 hb10 cL d1 d2 dk
      have z1 := fun x : Ext V10 => x.cell (unhide y1)
      have z2 := fun x : Ext V10 => x.cell (unhide y2)
      have z3 := fun x : Ext V10 => x.cell (unhide y3)
      have hwx := fun x : Ext V10 => (unhide hwc) x.get ((unhide hLx2).under x.le)
      clear y1 y2 y3 hwc hLx2
      replace hwx := hide hwx
      refine wp_region_ext (by rfl) (by kernel_rfl) ?_
      repeat (quiet_step ((go_at_call 13; with_reducible exact Ext.calls (unhide hwx _))))
      refine wpQuiet_nil ?_
      rintro w' ⟨y, rfl⟩
      have hz' := (unhide hb10w).trans (y.le.mono (unhide hb10w).size)
      clear z1 z2 z3 hwx hb10w hbw
      obtain ⟨wz, hwz⟩ : ∃ wz, wz = y.get := ⟨_, rfl⟩
      rw [← hwz] at hz' ⊢
      clear hwz y
      replace hz' := hide hz'
      go_wp2_with fail
      go_roundw
      case rel => exact ⟨k + 1, by omega, by go_num, unhide hz'⟩
      case measure => simp [intOf]; omega
    · have hzz := hide ((unhide hz7).trans (hbw.mono (unhide hz7).size))
      clear hbw
      go_wp2_with fail
      go_ret
      exact ⟨rfl, unhide hzz⟩
end Go.Proofs.Ytfbgbbbfpkpfkaa
