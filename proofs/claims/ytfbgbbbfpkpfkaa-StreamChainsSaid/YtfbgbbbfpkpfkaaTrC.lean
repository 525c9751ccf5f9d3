/- StreamChains: its walk. -/
import Derived.Test.YtfbgbbbfpkpfkaaTrH
namespace Go.Proofs.Ytfbgbbbfpkpfkaa
open Go.RowKit
def IsMd (w : World) (v : Value) : Prop := ∃ a c l, v = .slice a l.length c ∧ Lst Enc.lk w (fun b => b < w.heap.size) a l.length l ∧ GoodL l 12
theorem IsMd.under {w w' : World} {v : Value} (h : IsMd w v) (hb : Below w.heap.size w w') : IsMd w' v := by
  obtain ⟨a, c, l, h1, h2, h3⟩ := h
  exact ⟨a, c, l, h1, h2.under hb, h3⟩
theorem IsMd.def {w : World} {v : Value} (h : IsMd w v) : v ≠ undef := by obtain ⟨a, c, l, rfl, _⟩ := h; exact slice_def _ _ _
set_option maxRecDepth 100000 in
set_option maxHeartbeats 8000000 in
theorem streamChains_any (na : Option Addr) (nn nc : Nat) (N : List Int) (ma : Option Addr) (mn mc : Nat) (M : List Int) (ga : Option Addr) (gn gc : Nat) (g : List Int) (w : World) (hN : Lst Enc.int w (fun b => b < w.heap.size) na nn N) (hN1 : nn ≤ nc) (hN2 : nc ≤ maxLen) (hM : Lst Enc.int w (fun b => b < w.heap.size) ma mn M) (hM1 : mn ≤ mc) (hM2 : mc ≤ maxLen) (hG : Lst Enc.int w (fun b => b < w.heap.size) ga gn g) (hG1 : gn ≤ gc) (hG2 : gc ≤ maxLen) :
    Calls Try.prog 4 #[.slice na nn nc, .slice ma mn mc, .slice ga gn gc] w fun e w' => e = .returned (.bool true) ∧ Below w.heap.size w w' := by
  obtain ⟨nm, enm⟩ : ∃ m : Nat, (min (nn : Int) 60).toNat = m := ⟨_, rfl⟩
  have mnm : nm ≤ nn := by omega
  have mnc : nm ≤ nc := by omega
  have hif : (if (60 : Int) < (nn : Int) then (60 : Int) else (nn : Int)) = (nm : Int) := by split <;> omega
  have i60 : (0 : Int) ≤ (nm : Int) := by omega
  have i61 : (nm : Int) ≤ (nc : Int) := by omega
  obtain ⟨km, ekm⟩ : ∃ m : Nat, (min (mn : Int) 60).toNat = m := ⟨_, rfl⟩
  have knm : km ≤ mn := by omega
  have knc : km ≤ mc := by omega
  have kif : (if (60 : Int) < (mn : Int) then (60 : Int) else (mn : Int)) = (km : Int) := by split <;> omega
  have k60 : (0 : Int) ≤ (km : Int) := by omega
  have k61 : (km : Int) ≤ (mc : Int) := by omega
  replace enm := hide enm; replace ekm := hide ekm; replace hN := hide hN; replace hM := hide hM; replace hG := hide hG
  go_enter Try.func4, Try.ntmps4
  go_wp2_with fail
  refine (sanity_any _).mono ?_
  rintro e w1 ⟨rfl, hz1⟩
  have hN' := hide ((unhide hN).under hz1)
  have hM' := hide ((unhide hM).under hz1)
  have hG' := hide ((unhide hG).under hz1)
  clear hN hG hM
  replace hz1 := hide hz1
  go_upto_region 2 with fail
  refine wp_region_frontG 14 (fun _ _ w' => Below w1.heap.size w1 w') (fun wa wb => Below wa.heap.size wa wb)
    (fun ix v w' => match ix with
      | 0 => v = .slice na nn nc
      | 1 => v = .slice na nn nc
      | 2 => v = .int .i64 (nn : Int)
      | 3 => v = .int .i64 (nm : Int)
      | 4 => v = .slice na nm nc
      | 5 => IsMd w' v
      | 6 => v = .slice ma mn mc
      | 7 => v = .slice ma mn mc
      | 8 => v = .int .i64 (mn : Int)
      | 9 => v = .int .i64 (km : Int)
      | 10 => v = .slice ma km mc
      | 11 => IsMd w' v
      | 12 => IsMd w' v
      | 13 => IsMd w' v
      | _ => True) (by rfl) (by kernel_rfl) ?_ ?_ ?_ ?_
  · exact (Below.refl _ _).drew
  · intro wa wb hR ix v hv
    match ix, hv with
    | 0, h => exact h
    | 1, h => exact h
    | 2, h => exact h
    | 3, h => exact h
    | 4, h => exact h
    | 5, h => exact h.under hR
    | 6, h => exact h
    | 7, h => exact h
    | 8, h => exact h
    | 9, h => exact h
    | 10, h => exact h
    | 11, h => exact h.under hR
    | 12, h => exact h.under hR
    | 13, h => exact h.under hR
    | _ + 14, _ => trivial
  · intro ix hix
    obtain rfl | rfl | rfl | rfl | rfl | rfl | rfl | rfl | rfl | rfl | rfl | rfl | rfl | rfl : ix = 0 ∨ ix = 1 ∨ ix = 2 ∨ ix = 3 ∨ ix = 4 ∨ ix = 5 ∨ ix = 6 ∨ ix = 7 ∨ ix = 8 ∨ ix = 9 ∨ ix = 10 ∨ ix = 11 ∨ ix = 12 ∨ ix = 13 := by omega
    · refine FrontStep.of [] _ rfl (by kernel_rfl) ?_
      intro vs LL wq hLL hC hf
      simp only [putL, List.foldl_nil]
      go_wp2_with fail
      first | exact Below.refl _ _ | exact ⟨Below.refl _ _, by omega⟩
    · refine FrontStep.of [] _ rfl (by kernel_rfl) ?_
      intro vs LL wq hLL hC hf
      simp only [putL, List.foldl_nil]
      go_wp2_with fail
      first | exact Below.refl _ _ | exact ⟨Below.refl _ _, by omega⟩
    · refine FrontStep.of [1] _ rfl (by kernel_rfl) ?_
      intro vs LL wq hLL hC hf
      simp only [putL, List.foldl_nil, List.foldl_cons, List.getElem?_cons_zero, List.getElem?_cons_succ]
      have e1 : vs 1 = _ := hf 1 (by simp)
      rw [e1]
      go_wp2_with fail
      first | exact Below.refl _ _ | exact ⟨Below.refl _ _, by omega⟩
    · refine FrontStep.of [2] _ rfl (by kernel_rfl) ?_
      intro vs LL wq hLL hC hf
      simp only [putL, List.foldl_nil, List.foldl_cons, List.getElem?_cons_zero, List.getElem?_cons_succ]
      have e2 : vs 2 = _ := hf 2 (by simp)
      rw [e2]
      go_wp2_with fail
      first | exact Below.refl _ _ | exact ⟨Below.refl _ _, by omega⟩
    · refine FrontStep.of [0, 3] _ rfl (by kernel_rfl) ?_
      intro vs LL wq hLL hC hf
      simp only [putL, List.foldl_nil, List.foldl_cons, List.getElem?_cons_zero, List.getElem?_cons_succ]
      have e0 : vs 0 = _ := hf 0 (by simp)
      rw [e0]
      have e3 : vs 3 = _ := hf 3 (by simp)
      rw [e3]
      go_wp2_with fail
      first | exact Below.refl _ _ | exact ⟨Below.refl _ _, by omega⟩
    · refine FrontStep.of [4] _ rfl (by kernel_rfl) ?_
      intro vs LL wq hLL hC hf
      simp only [putL, List.foldl_nil, List.foldl_cons, List.getElem?_cons_zero, List.getElem?_cons_succ]
      have e4 : vs 4 = _ := hf 4 (by simp)
      rw [e4]
      have hc := hide (made_any na nm nc (N.take nm) 12 wq (((unhide hN').under hC).take mnm) (by omega) (by decide) (by decide))
      have hC' := hide hC
      clear hC
      go_wp2_with fail
      refine (unhide hc).mono ?_
      rintro e w2 ⟨qa, qc, ql, rfl, hql, hqg, hqb⟩
      have hd := hide (IsMd.under (w := w2) (w' := w2) (v := .slice qa ql.length qc) ⟨qa, qc, ql, rfl, hql, hqg⟩ (Below.refl _ _))
      have hC2 := hide ((unhide hC').trans (hqb.mono (unhide hC').size))
      have hqb2 := hide hqb
      clear hql hqg hqb hc hC'
      go_wp2_with fail
      exact ⟨unhide hC2, unhide hqb2, unhide hd⟩
    · refine FrontStep.of [] _ rfl (by kernel_rfl) ?_
      intro vs LL wq hLL hC hf
      simp only [putL, List.foldl_nil]
      go_wp2_with fail
      first | exact Below.refl _ _ | exact ⟨Below.refl _ _, by omega⟩
    · refine FrontStep.of [] _ rfl (by kernel_rfl) ?_
      intro vs LL wq hLL hC hf
      simp only [putL, List.foldl_nil]
      go_wp2_with fail
      first | exact Below.refl _ _ | exact ⟨Below.refl _ _, by omega⟩
    · refine FrontStep.of [7] _ rfl (by kernel_rfl) ?_
      intro vs LL wq hLL hC hf
      simp only [putL, List.foldl_nil, List.foldl_cons, List.getElem?_cons_zero, List.getElem?_cons_succ]
      have e7 : vs 7 = _ := hf 7 (by simp)
      rw [e7]
      go_wp2_with fail
      first | exact Below.refl _ _ | exact ⟨Below.refl _ _, by omega⟩
    · refine FrontStep.of [8] _ rfl (by kernel_rfl) ?_
      intro vs LL wq hLL hC hf
      simp only [putL, List.foldl_nil, List.foldl_cons, List.getElem?_cons_zero, List.getElem?_cons_succ]
      have e8 : vs 8 = _ := hf 8 (by simp)
      rw [e8]
      go_wp2_with fail
      first | exact Below.refl _ _ | exact ⟨Below.refl _ _, by omega⟩
    · refine FrontStep.of [6, 9] _ rfl (by kernel_rfl) ?_
      intro vs LL wq hLL hC hf
      simp only [putL, List.foldl_nil, List.foldl_cons, List.getElem?_cons_zero, List.getElem?_cons_succ]
      have e6 : vs 6 = _ := hf 6 (by simp)
      rw [e6]
      have e9 : vs 9 = _ := hf 9 (by simp)
      rw [e9]
      go_wp2_with fail
      first | exact Below.refl _ _ | exact ⟨Below.refl _ _, by omega⟩
    · refine FrontStep.of [5, 10] _ rfl (by kernel_rfl) ?_
      intro vs LL wq hLL hC hf
      simp only [putL, List.foldl_nil, List.foldl_cons, List.getElem?_cons_zero, List.getElem?_cons_succ]
      have e5 := hf 5 (by simp)
      have e10 : vs 10 = _ := hf 10 (by simp)
      rw [e10]
      have hc := hide (made_any ma km mc (M.take km) 12 wq (((unhide hM').under hC).take knm) (by omega) (by decide) (by decide))
      have hC' := hide hC
      clear hC
      go_wp2_with fail
      refine (unhide hc).mono ?_
      rintro e w2 ⟨qa, qc, ql, rfl, hql, hqg, hqb⟩
      have hd := hide (IsMd.under (w := w2) (w' := w2) (v := .slice qa ql.length qc) ⟨qa, qc, ql, rfl, hql, hqg⟩ (Below.refl _ _))
      have hC2 := hide ((unhide hC').trans (hqb.mono (unhide hC').size))
      have hqb2 := hide hqb
      clear hql hqg hqb hc hC'
      go_wp2_with fail
      exact ⟨unhide hC2, unhide hqb2, unhide hd⟩
    · refine FrontStep.of [0, 1, 2, 3, 4, 5, 11] _ rfl (by kernel_rfl) ?_
      intro vs LL wq hLL hC hf
      simp only [putL, List.foldl_nil, List.foldl_cons, List.getElem?_cons_zero, List.getElem?_cons_succ]
      have e0 : vs 0 = _ := hf 0 (by simp)
      rw [e0]
      have e1 : vs 1 = _ := hf 1 (by simp)
      rw [e1]
      have e2 : vs 2 = _ := hf 2 (by simp)
      rw [e2]
      have e3 : vs 3 = _ := hf 3 (by simp)
      rw [e3]
      have e4 : vs 4 = _ := hf 4 (by simp)
      rw [e4]
      have e5 := hf 5 (by simp)
      have e11 := hf 11 (by simp)
      go_wp2_with fail
      first | exact Below.refl _ _ | exact ⟨Below.refl _ _, by omega⟩
    · refine FrontStep.of [0, 1, 2, 3, 4, 5, 6, 7, 8, 9, 10, 11, 12] _ rfl (by kernel_rfl) ?_
      intro vs LL wq hLL hC hf
      simp only [putL, List.foldl_nil, List.foldl_cons, List.getElem?_cons_zero, List.getElem?_cons_succ]
      have e0 : vs 0 = _ := hf 0 (by simp)
      rw [e0]
      have e1 : vs 1 = _ := hf 1 (by simp)
      rw [e1]
      have e2 : vs 2 = _ := hf 2 (by simp)
      rw [e2]
      have e3 : vs 3 = _ := hf 3 (by simp)
      rw [e3]
      have e4 : vs 4 = _ := hf 4 (by simp)
      rw [e4]
      have e5 := hf 5 (by simp)
      have e6 : vs 6 = _ := hf 6 (by simp)
      rw [e6]
      have e7 : vs 7 = _ := hf 7 (by simp)
      rw [e7]
      have e8 : vs 8 = _ := hf 8 (by simp)
      rw [e8]
      have e9 : vs 9 = _ := hf 9 (by simp)
      rw [e9]
      have e10 : vs 10 = _ := hf 10 (by simp)
      rw [e10]
      have e11 := hf 11 (by simp)
      have e12 := hf 12 (by simp)
      go_wp2_with fail
      first | exact Below.refl _ _ | exact ⟨Below.refl _ _, by omega⟩
  · intro vs LL wq hLL hC hf
    obtain ⟨la, lc, l, e12, hl, hgl⟩ := hf 12 (by omega)
    obtain ⟨ra, rc, mm, e13, hm, hgm⟩ := hf 13 (by omega)
    rw [putSome_all]
    simp only [putL, List.range, List.range.loop, List.foldl_nil, List.foldl_cons, List.getElem?_cons_zero, List.getElem?_cons_succ, List.drop_succ_cons, List.drop_zero]
    rw [e12, e13]
    obtain ⟨W2, rfl⟩ : ∃ W : World, W = wq := ⟨_, rfl⟩
    have hz2 := hide ((unhide hz1).trans (hC.mono (unhide hz1).size))
    have hG2 := hide ((unhide hG').under hC)
    obtain ⟨hsl, htl, hl3⟩ := goodL12 hgl
    obtain ⟨hsm, htm, hm3⟩ := goodL12 hgm
    have bkl := goodL_back hgl
    have bkm := goodL_back hgm
    obtain ⟨ln, hln⟩ : ∃ m, l.length = m := ⟨_, rfl⟩
    obtain ⟨rn, hrn⟩ : ∃ m, mm.length = m := ⟨_, rfl⟩
    rw [hln] at hl hl3 ⊢
    rw [hrn] at hm hm3 ⊢
    have hb0 : Below W2.heap.size W2 (W2.alloc (Obj.cells #[] 37)) := (Below.refl _ _).alloc (Nat.le_refl _) _
    have hrow0 := own_lit (base := W2.heap.size) (s := 1) (n := 0) (heap_alloc_new W2 (Obj.cells #[] 37)) (Nat.le_refl _) (by decide) rfl
    have hlA := hl.below hb0
    clear hf e12 e13 hC hM' hN' hz1 hG' hgl hgm hLL hif kif i60 i61 k60 k61 mnm mnc knm knc enm ekm
    replace hlA := hide hlA; replace hrow0 := hide hrow0; replace hb0 := hide hb0; replace hl := hide hl; replace hm := hide hm; replace hln := hide hln; replace hrn := hide hrn; replace hsl := hide hsl; replace htl := hide htl; replace hsm := hide hsm; replace htm := hide htm; replace bkl := hide bkl; replace bkm := hide bkm
    go_simp
    go_wp2_with (at_builtin; refine wpList_append_lks rfl _ _ rfl W2.heap.size _ [] _ rfl (unhide hrow0) rfl _ _ _ l rfl (unhide hlA) ?p1 (unhide hb0).size ?_)
    case p1 => (try simp) <;> omega
    intro v1 w5 xs1 hrow1 hfl1 hb5
    have hb05 : Below W2.heap.size W2 w5 := (unhide hb0).trans hb5
    have hmA := (unhide hm).below hb05
    try simp only [List.nil_append] at hrow1 hfl1
    clear hrow0 hlA hb0 hb5
    replace hmA := hide hmA; replace hrow1 := hide hrow1; replace hfl1 := hide hfl1; replace hb05 := hide hb05
    go_wp2_with (at_builtin; refine wpList_append_lks rfl _ _ rfl W2.heap.size _ l _ rfl (unhide hrow1) (unhide hfl1) _ _ _ mm rfl (unhide hmA) ?p3 (unhide hb05).size ?_)
    case p3 => rw [unhide hln]; omega
    intro v2 w6 xs2 hrow2 hfl2 hb6
    have hb06 := (unhide hb05).trans hb6
    obtain ⟨pa, pc, rfl, hlm⟩ := flat_lst (l := l ++ mm) (by rw [List.length_append]; exact hrow2) hfl2 hb06.size
    obtain ⟨pn, hpn⟩ : ∃ lmn, (l ++ mm).length = lmn := ⟨_, rfl⟩
    rw [hpn] at hlm ⊢
    have hpn6 : pn ≤ 6 := by rw [← hpn, List.length_append, unhide hln, unhide hrn]; omega
    have hG6 := (unhide hG2).under hb06
    have hl6 := (unhide hl).under hb06
    have hm6 := (unhide hm).under hb06
    have hz6 := (unhide hz2).trans (hb06.mono (unhide hz2).size)
    clear hrow1 hfl1 hmA hb05 hrow2 hfl2 hb6 hb06 hl hm hz2 hG2
    have hsp : ∀ x ∈ l ++ mm, Small x := fun x hx => (List.mem_append.1 hx).elim (unhide hsl x) (unhide hsm x)
    have htp : ∀ x ∈ l ++ mm, ToI x := fun x hx => (List.mem_append.1 hx).elim (unhide htl x) (unhide htm x)
    have hcc := cut_any ga gn gc g w6 hG6 (by omega)
    replace hcc := hide hcc; replace hl6 := hide hl6; replace hm6 := hide hm6; replace hlm := hide hlm; replace hz6 := hide hz6; replace hG6 := hide hG6; replace hsp := hide hsp; replace htp := hide htp; replace hpn := hide hpn
    go_wp2_with fail
    refine (unhide hcc).mono ?_
    rintro e w7 ⟨v, rfl, hown, hb⟩
    obtain ⟨ca, cc, rfl, -, hcl⟩ := own_lst hown (cutS_i64 g)
    have hcn := cutS_len g
    have hci : AllI (cutS g) := cutS_i64 g
    have hG7 := (unhide hG6).under hb
    have hl7 := (unhide hl6).under hb
    have hm7 := (unhide hm6).under hb
    have hlm7 := (unhide hlm).under hb
    have hz7 := (unhide hz6).trans (hb.mono (unhide hz6).size)
    clear hcc hown hb hG6 hl6 hm6 hlm hz6
    have hcut := fun w h => cut_any ga gn gc g w h (by omega)
    obtain ⟨X, hX⟩ : ∃ X, cutS g = X := ⟨_, rfl⟩
    simp only [hX] at hcl hcn hci hcut ⊢
    obtain ⟨Y, hY⟩ : ∃ Y, allS l X = Y := ⟨_, rfl⟩
    obtain ⟨A, hA⟩ : ∃ A, allS mm Y = A := ⟨_, rfl⟩
    have hYp := applies_plain l X (unhide bkl)
    have hAp := applies_plain mm Y (unhide bkm)
    have hYi : AllI Y := by rw [← hY, hYp]; exact (applyS_i64 (unhide htl) hci (by omega)).1
    have hYn : Y.length ≤ 20 := by rw [← hY, hYp]; have := (applyS_len l X).2; omega
    have hAi : AllI A := by rw [← hA, hAp]; exact (applyS_i64 (unhide htm) hYi (by omega)).1
    have hAn : A.length ≤ 20 := by rw [← hA, hAp]; have := (applyS_len mm Y).2; omega
    have hA1 : allS (l ++ mm) X = A := by rw [allS_chain, hY, hA]
    have t1 := feedAll_tot (l ++ mm) X (startS (l ++ mm)) (startS_len _)
    have t2 := feedAll_tot l X (startS l) (startS_len _)
    have t3 := feedAll_tot mm Y (startS mm) (startS_len _)
    rw [tot_start] at t1 t2 t3
    have k1 := feedAll_back (l ++ mm) 300000 (by omega) X (startS (l ++ mm)) (startS_len _) (back_start _ _)
    have k2 := feedAll_back l 300000 (by omega) X (startS l) (startS_len _) (back_start _ _)
    have k3 := feedAll_back mm 300000 (by omega) Y (startS mm) (startS_len _) (back_start _ _)
    obtain ⟨xn, hxn⟩ : ∃ m, X.length = m := ⟨_, rfl⟩
    rw [hxn] at hcl hcn ⊢
    have hf1 := fed2_any pa pn pc (l ++ mm) ca xn cc X w7 hlm7 (unhide hsp) (unhide htp) hcl (by omega) (by omega)
    have hf2 := fun aa c w h1 h2 => fed2_any la ln lc l aa xn c X w h1 (unhide hsl) (unhide htl) h2 (by omega) (by omega)
    have hf3 := fun aa n c w h1 h2 (h : n ≤ 100000) => fed2_any ra rn rc mm aa n c Y w h1 (unhide hsm) (unhide htm) h2 (by omega) h
    unfold allS at hA1 hY hA
    obtain ⟨F1, hF1⟩ : ∃ r, feedAll (l ++ mm) (startS (l ++ mm)) X = r := ⟨_, rfl⟩
    obtain ⟨F2, hF2⟩ : ∃ r, feedAll l (startS l) X = r := ⟨_, rfl⟩
    obtain ⟨F3, hF3⟩ : ∃ r, feedAll mm (startS mm) Y = r := ⟨_, rfl⟩
    simp only [hF1] at hf1 hA1 t1 k1
    simp only [hF2] at hf2 hY t2 k2
    simp only [hF3] at hf3 hA t3 k3
    have t1' : tot F1.1 [] ≤ 200000 := by unfold tot at *; simp only [List.length_nil]; omega
    have t2' : tot F2.1 [] ≤ 200000 := by unfold tot at *; simp only [List.length_nil]; omega
    have t3' : tot F3.1 [] ≤ 200000 := by unfold tot at *; simp only [List.length_nil]; omega
    have o1n : F1.2.length ≤ 20 := by unfold tot at t1; omega
    have o2n : F2.2.length ≤ 20 := by unfold tot at t2; omega
    have o3n : F3.2.length ≤ 20 := by unfold tot at t3; omega
    clear t1 t2 t3 hX hF1 hF2 hF3 hYp hAp
    replace hci := hide hci
    replace hf1 := hide hf1; replace hf2 := hide hf2; replace hf3 := hide hf3; replace hA1 := hide hA1; replace hY := hide hY; replace hA := hide hA; replace k1 := hide k1; replace k2 := hide k2; replace k3 := hide k3; replace t1' := hide t1'; replace t2' := hide t2'; replace t3' := hide t3'; replace hcut := hide hcut; replace hxn := hide hxn; replace hYi := hide hYi; replace hAi := hide hAi
    replace hG7 := hide hG7; replace hl7 := hide hl7; replace hm7 := hide hm7; replace hlm7 := hide hlm7; replace hz7 := hide hz7
    clear hcl
    go_wp2_with fail
    refine (unhide hf1).mono ?_
    rintro e w8 ⟨fa, fc, o, rfl, hst, hown, hb⟩
    obtain ⟨oa, oc, hov⟩ := own_shape hown
    subst hov
    have hz8 := (unhide hz7).trans (hb.mono (unhide hz7).size)
    have hG8 := (unhide hG7).under hb
    have hl8 := (unhide hl7).under hb
    have hlm8 := (unhide hlm7).under hb
    have hm8 := (unhide hm7).below hb
    obtain ⟨B1, hB1⟩ : ∃ B, w7.heap.size = B := ⟨_, rfl⟩
    rw [hB1] at hown hm8
    have hB18 : B1 ≤ w8.heap.size := by rw [← hB1]; exact hb.size
    have hz78 := (unhide hz7)
    obtain ⟨b11, V11, hb11, hV11, st⟩ := (St.start w8).new (Obj.cells #[.slice fa pn fc] 29)
    have hbb := st.below
    have k11 := st.get 0 rfl
    have hst9 := (Lst.same (w' := V11) (fun b hb => hbb.block b hb.2.2) hst).wide (S' := fun b => b < V11.heap.size) (fun b hb => Nat.lt_of_lt_of_le hb.2.2 hbb.size)
    have hown9 := own_belowb hown hbb
    have hz9 := hz8.trans (hbb.mono hz8.size)
    have hG9 := hG8.under hbb
    have hl9 := hl8.under hbb
    have hlm9 := hlm8.under hbb
    have hm9 := hm8.below (hbb.mono hB18)
    have hB19 : B1 ≤ V11.heap.size := Nat.le_trans hB18 hbb.size
    have hwB : w.heap.size ≤ B1 := by rw [← hB1]; exact hz78.size
    clear st hf1 hz7 hG7 hl7 hlm7 hm7 hst hown hb hz8 hG8 hl8 hlm8 hm8 hbb hB18 hz78
    replace hb11 := hide hb11; replace hV11 := hide hV11; replace k11 := hide k11; replace hst9 := hide hst9; replace hown9 := hide hown9; replace hz9 := hide hz9; replace hG9 := hide hG9; replace hl9 := hide hl9; replace hlm9 := hide hlm9; replace hm9 := hide hm9; replace hB1 := hide hB1
    go_upto_region 5 with fail
    rw [unhide hV11]
    try rw [unhide hb11]
    clear hV11 hb11
    have hcu := unhide hcut V11 (unhide hG9)
    replace hcu := hide hcu
    go_wp2_with fail
    refine (unhide hcu).mono ?_
    rintro e w12 ⟨v, rfl, hown, hb⟩
    obtain ⟨xa2, xc2, rfl, -, hcl⟩ := own_lst hown (unhide hci)
    rw [unhide hxn] at hcl ⊢
    have hz12 := (unhide hz9).trans (hb.mono (unhide hz9).size)
    have hl12 := (unhide hl9).under hb
    have hlm12 := (unhide hlm9).under hb
    have hst12 := (unhide hst9).under hb
    have hown12 := own_belowb (unhide hown9) hb
    have k1112 := kept' hb (unhide k11)
    have hm12 := (unhide hm9).below (hb.mono hB19)
    have hB112 : B1 ≤ w12.heap.size := Nat.le_trans hB19 hb.size
    have hfc := unhide hf2 xa2 xc2 w12 hl12 hcl
    clear hcu hown hb hG9 hz9 hl9 hlm9 hst9 hown9 k11 hm9 hcl hf2 hcut hB19
    replace hfc := hide hfc; replace hz12 := hide hz12; replace hl12 := hide hl12; replace hlm12 := hide hlm12; replace hst12 := hide hst12; replace hown12 := hide hown12; replace k1112 := hide k1112; replace hm12 := hide hm12
    go_wp2_with fail
    refine (unhide hfc).mono ?_
    rintro e w13 ⟨ha, hc2, mid, rfl, hst, hown, hb⟩
    obtain ⟨mda, mdc, hmv⟩ := own_shape hown
    subst hmv
    obtain ⟨B2, hB2⟩ : ∃ B, w12.heap.size = B := ⟨_, rfl⟩
    rw [hB2] at hown
    have hB213 : B2 ≤ w13.heap.size := by rw [← hB2]; exact hb.size
    obtain ⟨b13, V13, hb13, hV13, st⟩ := (St.start w13).new (Obj.cells #[.slice ha ln hc2] 29)
    have hbb := st.below
    have k13 := st.get 0 rfl
    have hbx := hb.trans (hbb.mono hb.size)
    have hst14 := (Lst.same (w' := V13) (fun b hb => hbb.block b hb.2.2) hst).wide (S' := fun b => b < V13.heap.size) (fun b hb => Nat.lt_of_lt_of_le hb.2.2 hbb.size)
    have hown14 := own_belowb hown hbb
    have hl14 := ((unhide hl12).under hb).under hbb
    have hB214 : B2 ≤ V13.heap.size := Nat.le_trans hB213 hbb.size
    rw [hB2] at hbx
    clear st hfc hl12 hst hown hb hbb hB213
    replace hb13 := hide hb13; replace hV13 := hide hV13; replace k13 := hide k13; replace hst14 := hide hst14; replace hown14 := hide hown14; replace hl14 := hide hl14; replace hB2 := hide hB2; replace hbx := hide hbx
    go_upto_region 6 with fail
    rw [unhide hV13]
    try rw [unhide hb13]
    clear hV13 hb13
    have d13 := blk_cell (unhide k13)
    have hec := end_any la ln lc l ha hc2 F2.1 V13 (unhide hl14) (unhide hsl) (unhide htl) (unhide hst14) (by omega) (unhide k2) (unhide t2')
    replace hec := hide hec
    go_wp2_with fail
    refine (unhide hec).mono ?_
    rintro e w14 ⟨ea, ec, rfl, hEl, hEn, hb⟩
    have hb2e := (unhide hbx).trans (hb.mono hB214)
    have hB2e : B2 ≤ w14.heap.size := Nat.le_trans hB214 hb.size
    have hown15 := own_belowb (unhide hown14) hb
    obtain ⟨en, hen⟩ : ∃ m, (endS l F2.1).length = m := ⟨_, rfl⟩
    obtain ⟨on2, hon2⟩ : ∃ m, F2.2.length = m := ⟨_, rfl⟩
    rw [hen] at hEl hEn ⊢
    rw [hon2] at hown15 o2n ⊢
    clear hec hbx hl14 hst14 hown14 hb hB214 d13 k13
    replace hb2e := hide hb2e; replace hown15 := hide hown15; replace hEl := hide hEl; replace hen := hide hen; replace hon2 := hide hon2
    go_wp2_with (at_builtin; refine wpList_append_ints rfl _ _ rfl B2 _ _ _ rfl (unhide hown15) _ _ _ _ _ rfl (unhide hEl) ?d1 hB2e ?_)
    case d1 => omega
    intro v' w15 hownY hgY
    have hb15 := Below.grown (unhide hb2e) hgY hB2e (fun g e => ((unhide hown15).lt g e).1)
    rw [← unhide hB2] at hb15
    rw [show vints F2.2 ++ vints (endS l F2.1) = vints Y by rw [← unhide hY]; simp [vints]] at hownY
    obtain ⟨ya, yc, rfl, hye, hyl⟩ := own_lst hownY (unhide hYi)
    obtain ⟨yn, hyn⟩ : ∃ m, Y.length = m := ⟨_, rfl⟩
    rw [hyn] at hyl hYn ⊢
    have hz15 := (unhide hz12).trans (hb15.mono (unhide hz12).size)
    have hlm15 := (unhide hlm12).under hb15
    have hst15 := (unhide hst12).under hb15
    have hown16 := own_belowb (unhide hown12) hb15
    have k1115 := kept' hb15 (unhide k1112)
    have hm15 := (unhide hm12).below (hb15.mono hB112)
    have hB115 : B1 ≤ w15.heap.size := Nat.le_trans hB112 hb15.size
    have hfc := unhide hf3 ya yn yc w15 (hm15.wide (fun b (hb : b < B1) => by omega)) hyl (by omega)
    clear hb2e hown15 hEl hb15 hgY hownY hyl hz12 hlm12 hst12 hown12 k1112 hm12 hf3 hB2e hye hB112 hB2
    replace hfc := hide hfc; replace hz15 := hide hz15; replace hlm15 := hide hlm15; replace hst15 := hide hst15; replace hown16 := hide hown16; replace k1115 := hide k1115; replace hm15 := hide hm15; replace hyn := hide hyn
    go_wp2_with fail
    refine (unhide hfc).mono ?_
    rintro e w16 ⟨ia, ic2, q, rfl, hst, hown, hb⟩
    obtain ⟨qa, qc, hqv⟩ := own_shape hown
    subst hqv
    obtain ⟨B3, hB3⟩ : ∃ B, w15.heap.size = B := ⟨_, rfl⟩
    obtain ⟨b15, V, hb15, hV15, st⟩ := (St.start w16).new (Obj.cells #[.slice ia rn ic2] 29)
    have hbb := st.below
    have k15 := st.get 0 rfl
    have hbx := hb.trans (hbb.mono hb.size)
    have hzV := (unhide hz15).trans (hbx.mono (unhide hz15).size)
    have hlmV := (unhide hlm15).under hbx
    have hstV := (unhide hst15).under hbx
    have hoV := own_belowb (unhide hown16) hbx
    have k11V := kept' hbx (unhide k1115)
    have hmV := (unhide hm15).below (hbx.mono hB115)
    have holt : ∀ b, (Value.slice oa F1.2.length oc).ownBlock = some b → b < B3 := fun b e => by rw [← hB3]; exact ((unhide hown16).lt b e).2
    have hqV := own_belowb hown hbb
    have hsiV := (Lst.same (w' := V) (fun b hb => hbb.block b hb.2.2) hst).wide (S' := fun b => B3 ≤ b ∧ (Value.slice qa F3.2.length qc).ownBlock ≠ some b ∧ b < V.heap.size) (fun b hb => ⟨by rw [← hB3]; exact hb.1, hb.2.1, Nat.lt_of_lt_of_le hb.2.2 hbb.size⟩)
    have hB3V : B3 ≤ V.heap.size := by rw [← hB3]; exact hbx.size
    have hB1V : B1 ≤ V.heap.size := Nat.le_trans hB115 hbx.size
    have hB13 : B1 ≤ B3 := by rw [← hB3]; exact hB115
    rw [hB3] at hqV
    clear st hfc hst hown hb hbb hz15 hlm15 hst15 hown16 k1115 hm15 hbx hB115 hB3
    replace hb15 := hide hb15; replace hV15 := hide hV15; replace k15 := hide k15; replace hzV := hide hzV; replace hlmV := hide hlmV; replace hstV := hide hstV; replace hoV := hide hoV; replace k11V := hide k11V; replace hmV := hide hmV; replace holt := hide holt; replace hqV := hide hqV; replace hsiV := hide hsiV
    go_upto_region 7 with fail
    rw [unhide hV15]
    try rw [unhide hb15]
    clear hV15 hb15
    obtain ⟨on, hon⟩ : ∃ m, F1.2.length = m := ⟨_, rfl⟩
    obtain ⟨qn, hqn⟩ : ∃ m, F3.2.length = m := ⟨_, rfl⟩
    obtain ⟨an, han⟩ : ∃ m, A.length = m := ⟨_, rfl⟩
    obtain ⟨n1, hn1⟩ : ∃ m, (endS (l ++ mm) F1.1).length = m := ⟨_, rfl⟩
    obtain ⟨n2, hn2⟩ : ∃ m, (endS mm F3.1).length = m := ⟨_, rfl⟩
    have hon1 : on + n1 = an := by rw [← han, ← unhide hA1, List.length_append, hon, hn1]
    have hqn2 : qn + n2 = an := by rw [← han, ← unhide hA, List.length_append, hqn, hn2]
    have hv1 : vints F1.2 ++ vints (endS (l ++ mm) F1.1) = vints A := by rw [← unhide hA1]; simp [vints]
    have hv2 : vints F3.2 ++ vints (endS mm F3.1) = vints A := by rw [← unhide hA]; simp [vints]
    have hanl : an ≤ 20 := by rw [← han]; exact hAn
    rw [hon] at hoV holt ⊢
    rw [hqn] at hqV hsiV ⊢
    replace hon1 := hide hon1; replace hqn2 := hide hqn2; replace hv1 := hide hv1; replace hv2 := hide hv2; replace hn1 := hide hn1; replace hn2 := hide hn2; replace han := hide han; replace hon := hide hon; replace hqn := hide hqn
    refine wp_region_frontG 13 (fun LL vs w' => CH (PC V B1 B3 b11 b15 (.slice fa pn fc) (.slice ia rn ic2) (.slice qa qn qc) qn n1 n2 an F3.2 (endS (l ++ mm) F1.1) (endS mm F3.1) A ra rn mm ia F3.1) LL vs w') (fun _ _ => True)
      (fun ix v w' => match ix with
        | 0 => v = .bool true
        | 1 => v = .bool true
        | 2 => v = .slice oa on oc
        | 3 => v = .slice pa pn pc
        | 4 => v = .agg #[.slice fa pn fc]
        | 5 => IsSl n1 v
        | 6 => IsSl an v
        | 7 => v = .slice qa qn qc
        | 8 => v = .slice ra rn rc
        | 9 => v = .agg #[.slice ia rn ic2]
        | 10 => IsSl n2 v
        | 11 => IsSl an v
        | 12 => v = .bool true
        | _ => True) (by rfl) (by kernel_rfl) ?_ ?_ ?_ ?_
    · exact CH.start ⟨⟨unhide k11V, unhide k15⟩, (Below.refl _ _).drew, (Below.refl _ _).drew⟩
    · intro wa wb hR ix v hv
      match ix, hv with
      | 0, h => exact h
      | 1, h => exact h
      | 2, h => exact h
      | 3, h => exact h
      | 4, h => exact h
      | 5, h => exact h
      | 6, h => exact h
      | 7, h => exact h
      | 8, h => exact h
      | 9, h => exact h
      | 10, h => exact h
      | 11, h => exact h
      | 12, h => exact h
      | _ + 13, _ => trivial
    · intro ix hix
      obtain rfl | rfl | rfl | rfl | rfl | rfl | rfl | rfl | rfl | rfl | rfl | rfl | rfl : ix = 0 ∨ ix = 1 ∨ ix = 2 ∨ ix = 3 ∨ ix = 4 ∨ ix = 5 ∨ ix = 6 ∨ ix = 7 ∨ ix = 8 ∨ ix = 9 ∨ ix = 10 ∨ ix = 11 ∨ ix = 12 := by omega
      · refine FrontStep.of [] _ rfl (by kernel_rfl) ?_
        intro vs LL wq hLL hC hf
        simp only [putL, List.foldl_nil]
        have hkp := fun v => hC.keep 0 v (by decide)
        replace hkp := hide hkp
        clear hC
        go_wp2_with fail
        first | exact unhide hkp _ | exact ⟨unhide hkp _, trivial⟩
      · refine FrontStep.of [0] _ rfl (by kernel_rfl) ?_
        intro vs LL wq hLL hC hf
        simp only [putL, List.foldl_nil, List.foldl_cons, List.getElem?_cons_zero]
        have e0 : vs 0 = _ := hf 0 (by simp)
        rw [e0]
        have hkp := fun v => hC.keep 1 v (by decide)
        replace hkp := hide hkp
        clear hC
        go_wp2_with fail
        first | exact unhide hkp _ | exact ⟨unhide hkp _, trivial⟩
      · refine FrontStep.of [1] _ rfl (by kernel_rfl) ?_
        intro vs LL wq hLL hC hf
        simp only [putL, List.foldl_nil, List.foldl_cons, List.getElem?_cons_zero, List.getElem?_cons_succ]
        have e1 : vs 1 = _ := hf 1 (by simp)
        rw [e1]
        have hkp := fun v => hC.keep 2 v (by decide)
        replace hkp := hide hkp
        clear hC
        go_wp2_with fail
        first | exact unhide hkp _ | exact ⟨unhide hkp _, trivial⟩
      · refine FrontStep.of [1] _ rfl (by kernel_rfl) ?_
        intro vs LL wq hLL hC hf
        simp only [putL, List.foldl_nil, List.foldl_cons, List.getElem?_cons_zero, List.getElem?_cons_succ]
        have e1 : vs 1 = _ := hf 1 (by simp)
        rw [e1]
        have hkp := fun v => hC.keep 3 v (by decide)
        replace hkp := hide hkp
        clear hC
        go_wp2_with fail
        first | exact unhide hkp _ | exact ⟨unhide hkp _, trivial⟩
      · refine FrontStep.of [1] _ rfl (by kernel_rfl) ?_
        intro vs LL wq hLL hC hf
        simp only [putL, List.foldl_nil, List.foldl_cons, List.getElem?_cons_zero, List.getElem?_cons_succ]
        have e1 : vs 1 = _ := hf 1 (by simp)
        rw [e1]
        obtain ⟨kk, -, hpp⟩ := hC.st
        have hdd := blk_cell hpp.1.1
        clear hpp
        have hkp := fun v => hC.keep 4 v (by decide)
        replace hkp := hide hkp
        clear hC
        go_wp2_with fail
        first | exact unhide hkp _ | exact ⟨unhide hkp _, trivial⟩
      · refine FrontStep.of [1, 3, 4] _ rfl (by kernel_rfl) ?_
        intro vs LL wq hLL hC hf
        simp only [putL, List.foldl_nil, List.foldl_cons, List.getElem?_cons_zero, List.getElem?_cons_succ]
        have e1 : vs 1 = _ := hf 1 (by simp)
        rw [e1]
        have e3 : vs 3 = _ := hf 3 (by simp)
        rw [e3]
        have e4 : vs 4 = _ := hf 4 (by simp)
        rw [e4]
        have hp := hC.at0 hLL
        have hbV : Below V.heap.size V wq := hp.2.2
        have hec := end_any pa pn pc (l ++ mm) fa fc F1.1 wq ((unhide hlmV).under hbV) (unhide hsp) (unhide htp) ((unhide hstV).under hbV) (Nat.le_trans hpn6 (by decide)) (unhide k1) (unhide t1')
        replace hec := hide hec
        have hkp := fun (v : Value) (w2 : World) (hb : Below wq.heap.size wq w2) (hi : IsLi n1 (endS (l ++ mm) F1.1) v w2) => hC.run0 hLL v (w2 := w2) ⟨⟨kept' hb hp.1.1, kept' hb hp.1.2⟩, hp.2.1.trans (hb.mono (Nat.le_trans hB1V hp.2.1.size)), hbV.trans (hb.mono hbV.size), hi⟩
        clear hbV
        replace hkp := hide hkp
        clear hC hp
        go_wp2_with fail
        refine (unhide hec).mono ?_
        rintro e w2 ⟨ax, cx, rfl, hE, -, hb⟩
        rw [unhide hn1] at hE ⊢
        have hfin := hide (unhide hkp (.slice ax n1 cx) w2 hb ⟨ax, cx, rfl, hE⟩)
        have hsl := hide (⟨ax, cx, rfl⟩ : IsSl n1 (.slice ax n1 cx))
        clear hkp hec hE hb
        go_wp2_with fail
        first | exact ⟨unhide hfin, unhide hsl⟩ | exact ⟨unhide hfin, trivial, unhide hsl⟩
      · refine FrontStep.of [1, 2, 5] _ rfl (by kernel_rfl) ?_
        intro vs LL wq hLL hC hf
        simp only [putL, List.foldl_nil, List.foldl_cons, List.getElem?_cons_zero, List.getElem?_cons_succ]
        have e1 : vs 1 = _ := hf 1 (by simp)
        rw [e1]
        have e2 : vs 2 = _ := hf 2 (by simp)
        rw [e2]
        obtain ⟨a64, c64, e64⟩ := hf 5 (by simp)
        rw [e64]
        have h5 := hC.ran (j := 5) (by rw [e64]; exact slice_def _ _ _)
        have hp := hC.at1 h5 hLL
        have hbV : Below V.heap.size V wq := hp.2.2.1
        have hi : IsLi n1 (endS (l ++ mm) F1.1) (vs 5) wq := hp.2.2.2
        obtain ⟨ax, cx, ex, hLi⟩ := hi
        rw [e64] at ex
        have z1 := (Value.slice.inj ex).1
        rw [← z1] at hLi
        clear ex z1
        have ho := own_belowb (unhide hoV) hbV
        have hq := own_belowb (unhide hqV) hbV
        have hB1w : B1 ≤ wq.heap.size := Nat.le_trans hB1V hbV.size
        have hdj : ∀ v : Value, (v.ownBlock = (Value.slice oa on oc).ownBlock ∨ v.ownBlock = some wq.heap.size) → ∀ b, v.ownBlock = some b → (Value.slice qa qn qc).ownBlock = some b → False := fun v hbk b e1 e2 => hbk.elim (fun h => absurd (unhide holt b (h.symm.trans e1)) (Nat.not_lt.2 (hq.lt b e2).1)) (fun h => absurd (hq.lt b e2).2 (Nat.not_lt.2 (Nat.le_of_eq (Option.some.inj (h.symm.trans e1)))))
        have hkp := fun (v : Value) (w2 : World) (ho2 : w2.ownsRow B1 3 1 v an (vints A)) (hg : wq.grownBy w2 (Value.slice oa on oc).ownBlock) (hbk : v.ownBlock = (Value.slice oa on oc).ownBlock ∨ v.ownBlock = some wq.heap.size) => hC.run1 h5 hLL v (w2 := w2) ⟨⟨blk_grown ho hp.1.1 (by decide) hg, blk_grown ho hp.1.2 (by decide) hg⟩, Below.grown hp.2.1 hg hB1w (fun k e => (ho.lt k e).1), ho2, hq.kept hg (own_far hq (unhide holt)), hdj v hbk, lst_two (unhide hmV) (fun b (hb : b < B1) => ⟨Nat.lt_of_lt_of_le hb hB1V, fun e => absurd hb (Nat.not_lt.2 (ho.lt b e).1)⟩) hbV hg, lst_two (unhide hsiV) (fun b hb => ⟨hb.2.2, fun e => absurd (unhide holt b e) (Nat.not_lt.2 hb.1)⟩) hbV hg⟩
        replace hkp := hide hkp; replace ho := hide ho; replace hLi := hide hLi
        clear hC hp hbV hq h5 hdj
        go_wp2_with (at_builtin; refine wpList_unguard (by first | rfl | simp [Region.wanted, yielded]) ?_; refine wpList_append_ints2 rfl _ _ rfl B1 _ _ F1.2 rfl (unhide ho) _ _ _ _ _ rfl (unhide hLi) (Nat.le_trans (Nat.le_of_eq (unhide hon1)) (Nat.le_trans hanl (by decide))) hB1w ?_)
        intro v2 w2 q1 q2 q3
        rw [unhide hon1, unhide hA1] at q1
        have hfin := hide (unhide hkp v2 w2 q1 q2 q3)
        obtain ⟨ax, cx, hvx⟩ := own_shape q1
        subst hvx
        have hsl := hide (⟨ax, cx, rfl⟩ : IsSl an (.slice ax an cx))
        clear hkp q1 q2 q3
        go_wp2_with fail
        first | exact ⟨unhide hfin, unhide hsl⟩ | exact ⟨unhide hfin, trivial, unhide hsl⟩
      · refine FrontStep.of [1] _ rfl (by kernel_rfl) ?_
        intro vs LL wq hLL hC hf
        simp only [putL, List.foldl_nil, List.foldl_cons, List.getElem?_cons_zero, List.getElem?_cons_succ]
        have e1 : vs 1 = _ := hf 1 (by simp)
        rw [e1]
        have hkp := fun v => hC.keep 7 v (by decide)
        replace hkp := hide hkp
        clear hC
        go_wp2_with fail
        first | exact unhide hkp _ | exact ⟨unhide hkp _, trivial⟩
      · refine FrontStep.of [1] _ rfl (by kernel_rfl) ?_
        intro vs LL wq hLL hC hf
        simp only [putL, List.foldl_nil, List.foldl_cons, List.getElem?_cons_zero, List.getElem?_cons_succ]
        have e1 : vs 1 = _ := hf 1 (by simp)
        rw [e1]
        have hkp := fun v => hC.keep 8 v (by decide)
        replace hkp := hide hkp
        clear hC
        go_wp2_with fail
        first | exact unhide hkp _ | exact ⟨unhide hkp _, trivial⟩
      · refine FrontStep.of [1] _ rfl (by kernel_rfl) ?_
        intro vs LL wq hLL hC hf
        simp only [putL, List.foldl_nil, List.foldl_cons, List.getElem?_cons_zero, List.getElem?_cons_succ]
        have e1 : vs 1 = _ := hf 1 (by simp)
        rw [e1]
        obtain ⟨kk, -, hpp⟩ := hC.st
        have hdd := blk_cell hpp.1.2
        clear hpp
        have hkp := fun v => hC.keep 9 v (by decide)
        replace hkp := hide hkp
        clear hC
        go_wp2_with fail
        first | exact unhide hkp _ | exact ⟨unhide hkp _, trivial⟩
      · refine FrontStep.of [1, 6, 8, 9] _ rfl (by kernel_rfl) ?_
        intro vs LL wq hLL hC hf
        simp only [putL, List.foldl_nil, List.foldl_cons, List.getElem?_cons_zero, List.getElem?_cons_succ]
        have e1 : vs 1 = _ := hf 1 (by simp)
        rw [e1]
        obtain ⟨a65, c65, e65⟩ := hf 6 (by simp)
        rw [e65]
        have e8 : vs 8 = _ := hf 8 (by simp)
        rw [e8]
        have e9 : vs 9 = _ := hf 9 (by simp)
        rw [e9]
        have h6 := hC.ran (j := 6) (by rw [e65]; exact slice_def _ _ _)
        have hp := hC.at2 h6 hLL
        have hec := end_any ra rn rc mm ia ic2 F3.1 wq hp.2.2.2.2.2.1 (unhide hsm) (unhide htm) hp.2.2.2.2.2.2 (Nat.le_trans hm3 (by decide)) (unhide k3) (unhide t3')
        replace hec := hide hec
        have hkp := fun (v : Value) (w2 : World) (hb : Below wq.heap.size wq w2) (hi : IsLi n2 (endS mm F3.1) v w2) => hC.run2 h6 hLL v (w2 := w2) ⟨⟨kept' hb hp.1.1, kept' hb hp.1.2⟩, hp.2.1.trans (hb.mono (Nat.le_trans hB1V hp.2.1.size)), own_belowb hp.2.2.1 hb, own_belowb hp.2.2.2.1 hb, hp.2.2.2.2.1, hi⟩
        clear h6
        replace hkp := hide hkp
        clear hC hp
        go_wp2_with fail
        refine (unhide hec).mono ?_
        rintro e w2 ⟨ax, cx, rfl, hE, -, hb⟩
        rw [unhide hn2] at hE ⊢
        have hfin := hide (unhide hkp (.slice ax n2 cx) w2 hb ⟨ax, cx, rfl, hE⟩)
        have hsl := hide (⟨ax, cx, rfl⟩ : IsSl n2 (.slice ax n2 cx))
        clear hkp hec hE hb
        go_wp2_with fail
        first | exact ⟨unhide hfin, unhide hsl⟩ | exact ⟨unhide hfin, trivial, unhide hsl⟩
      · refine FrontStep.of [1, 7, 10] _ rfl (by kernel_rfl) ?_
        intro vs LL wq hLL hC hf
        simp only [putL, List.foldl_nil, List.foldl_cons, List.getElem?_cons_zero, List.getElem?_cons_succ]
        have e1 : vs 1 = _ := hf 1 (by simp)
        rw [e1]
        have e7 : vs 7 = _ := hf 7 (by simp)
        rw [e7]
        obtain ⟨a69, c69, e69⟩ := hf 10 (by simp)
        rw [e69]
        have h5 := hC.ran (j := 10) (by rw [e69]; exact slice_def _ _ _)
        have hp := hC.at3 h5 hLL
        have hi : IsLi n2 (endS mm F3.1) (vs 10) wq := hp.2.2.2.2.2
        obtain ⟨ax, cx, ex, hLi⟩ := hi
        rw [e69] at ex
        have z1 := (Value.slice.inj ex).1
        rw [← z1] at hLi
        clear ex z1
        have hq : wq.ownsRow B3 3 1 (.slice qa qn qc) qn (vints F3.2) := hp.2.2.2.1
        have hbB : Below B1 V wq := hp.2.1
        have hB1w : B1 ≤ wq.heap.size := Nat.le_trans hB1V hbB.size
        have hB3w : B3 ≤ wq.heap.size := Nat.le_trans hB3V hbB.size
        have hkp := fun (v : Value) (w2 : World) (ho2 : w2.ownsRow B3 3 1 v an (vints A)) (hg : wq.grownBy w2 (Value.slice qa qn qc).ownBlock) (_ : v.ownBlock = (Value.slice qa qn qc).ownBlock ∨ v.ownBlock = some wq.heap.size) => hC.run3 h5 hLL v (w2 := w2) ⟨⟨blk_grown hq hp.1.1 (by decide) hg, blk_grown hq hp.1.2 (by decide) hg⟩, Below.grown hbB hg hB1w (fun k e => Nat.le_trans hB13 (hq.lt k e).1), hp.2.2.1.kept hg (own_apart hp.2.2.2.2.1), ho2⟩
        replace hkp := hide hkp; replace hq := hide hq; replace hLi := hide hLi
        clear hC hp h5 hbB
        go_wp2_with (at_builtin; refine wpList_unguard (by first | rfl | simp [Region.wanted, yielded]) ?_; refine wpList_append_ints2 rfl _ _ rfl B3 _ _ F3.2 rfl (unhide hq) _ _ _ _ _ rfl (unhide hLi) (Nat.le_trans (Nat.le_of_eq (unhide hqn2)) (Nat.le_trans hanl (by decide))) hB3w ?_)
        intro v2 w2 q1 q2 q3
        rw [unhide hqn2, unhide hA] at q1
        have hfin := hide (unhide hkp v2 w2 q1 q2 q3)
        obtain ⟨ax, cx, hvx⟩ := own_shape q1
        subst hvx
        have hsl := hide (⟨ax, cx, rfl⟩ : IsSl an (.slice ax an cx))
        clear hkp q1 q2 q3
        go_wp2_with fail
        first | exact ⟨unhide hfin, unhide hsl⟩ | exact ⟨unhide hfin, trivial, unhide hsl⟩
      · refine FrontStep.of [1, 6, 11] _ rfl (by kernel_rfl) ?_
        intro vs LL wq hLL hC hf
        simp only [putL, List.foldl_nil, List.foldl_cons, List.getElem?_cons_zero, List.getElem?_cons_succ]
        have e1 : vs 1 = _ := hf 1 (by simp)
        rw [e1]
        obtain ⟨a65, c65, e65⟩ := hf 6 (by simp)
        rw [e65]
        obtain ⟨a70, c70, e70⟩ := hf 11 (by simp)
        rw [e70]
        have h5 := hC.ran (j := 11) (by rw [e70]; exact slice_def _ _ _)
        have hp := hC.at4 h5 hLL
        have r1 : wq.ownsRow B1 3 1 (vs 6) an (vints A) := hp.2.2.1
        have r2 : wq.ownsRow B3 3 1 (vs 11) an (vints A) := hp.2.2.2
        rw [e65] at r1
        rw [e70] at r2
        obtain ⟨_, _, z1, -, p1⟩ := own_lst r1 (unhide hAi)
        obtain ⟨_, _, z2, -, p2⟩ := own_lst r2 (unhide hAi)
        rw [← (Value.slice.inj z1).1, unhide han] at p1
        rw [← (Value.slice.inj z2).1, unhide han] at p2
        have hs := sameInts_blw a65 an c65 A a70 an c70 A wq p1 p2 (Nat.le_trans hanl (by decide)) (Nat.le_trans hanl (by decide))
        rw [decide_eq_true rfl] at hs
        replace hs := hide hs
        have hkp := fun (w2 : World) (hb : Below wq.heap.size wq w2) => hC.run4 h5 hLL (.bool true) (w2 := w2) ⟨⟨kept' hb hp.1.1, kept' hb hp.1.2⟩, hp.2.1.trans (hb.mono (Nat.le_trans hB1V hp.2.1.size)), trivial⟩
        replace hkp := hide hkp
        clear hC hp h5 r1 r2 p1 p2 z1 z2
        go_wp2_with fail
        refine (unhide hs).mono ?_
        rintro e w2 ⟨rfl, hb⟩
        have hfin := hide (unhide hkp w2 hb)
        clear hkp hs hb
        go_wp2_with fail
        first | exact unhide hfin | exact ⟨unhide hfin, trivial⟩
    · intro vs LL wq hLL hC hf
      have y1 : vs 1 = _ := hf 1 (by decide)
      have y12 : vs 12 = _ := hf 12 (by decide)
      rw [putSome_all]
      simp only [putL, List.range, List.range.loop, List.foldl_nil, List.foldl_cons, List.getElem?_cons_zero, List.getElem?_cons_succ, List.drop_succ_cons, List.drop_zero]
      rw [y1, y12]
      obtain ⟨kk, -, hpp⟩ := hC.st
      have hzz := hide ((unhide hzV).trans (hpp.2.1.mono hwB))
      clear hC hpp hf y1 y12 hLL
      go_simp
      go_wp2_with fail
      go_ret
      exact ⟨rfl, unhide hzz⟩
end Go.Proofs.Ytfbgbbbfpkpfkaa
