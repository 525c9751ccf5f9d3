/- SubstChains. -/
import Derived.Test.YtmlnjbljdincjaaSb18
namespace Go.Proofs.Ytmlnjbljdincjaa
open Go.RowKit
set_option maxRecDepth 100000 in
set_option maxHeartbeats 8000000 in
theorem substChains_any (na : Option Addr) (nn nc : Nat) (N : List Int) (ma : Option Addr) (mn mc : Nat) (M : List Int) (ga : Option Addr) (gn gc : Nat) (g : List Int) (w : World) (hN : Lst Enc.int w (fun b => b < w.heap.size) na nn N) (hN1 : nn ≤ nc) (hN2 : nc ≤ maxLen) (hM : Lst Enc.int w (fun b => b < w.heap.size) ma mn M) (hM1 : mn ≤ mc) (hM2 : mc ≤ maxLen) (hG : Lst Enc.int w (fun b => b < w.heap.size) ga gn g) (hG1 : gn ≤ gc) (hG2 : gc ≤ maxLen) :
    Calls Try.prog 6 #[.slice na nn nc, .slice ma mn mc, .slice ga gn gc] w fun e w' => e = .returned (.bool true) ∧ Below w.heap.size w w' := by
  replace hN := hide hN; replace hM := hide hM; replace hG := hide hG
  go_enter Try.func6, Try.ntmps6
  go_wp2_with fail
  refine (sanity_any _).mono ?_
  rintro e w1 ⟨rfl, hb1⟩
  have hN' := (unhide hN).under hb1
  have hM' := (unhide hM).under hb1
  have hG' := (unhide hG).under hb1
  have hz := hb1
  clear hN hM hG hb1
  have hc := made_any na nn nc N 4 w1 hN' (by omega) (by omega) (by omega)
  clear hN'
  replace hc := hide hc; replace hM' := hide hM'; replace hG' := hide hG'; replace hz := hide hz
  go_wp2_with fail
  refine (unhide hc).mono ?_
  rintro e w2 ⟨la, lc, l, rfl, hl, hlg, hb⟩
  have hM := (unhide hM').under hb
  have hG := (unhide hG').under hb
  have hz' := (unhide hz).trans (hb.mono (unhide hz).size)
  clear hc hM' hG' hz hb
  have hc := made_any ma mn mc M 4 w2 hM (by omega) (by omega) (by omega)
  clear hM
  replace hc := hide hc; replace hG := hide hG; replace hz' := hide hz'; replace hl := hide hl; replace hlg := hide hlg
  obtain ⟨ln, hln⟩ : ∃ ln, l.length = ln := ⟨_, rfl⟩
  rw [hln]
  replace hln := hide hln
  go_wp2_with fail
  refine (unhide hc).mono ?_
  rintro e w3 ⟨ra, rc, m, rfl, hm, hmg, hb⟩
  have hG' := (unhide hG).under hb
  have hl' := (unhide hl).under hb
  have hz := (unhide hz').trans (hb.mono (unhide hz').size)
  clear hc hG hz' hb hl
  have hc := glyphs_any ga gn gc g 4 w3 hG' (by omega) (by omega) (by omega)
  clear hG'
  obtain ⟨mn', hmn⟩ : ∃ mn', m.length = mn' := ⟨_, rfl⟩
  rw [hmn] at hm ⊢
  replace hc := hide hc; replace hz := hide hz; replace hl' := hide hl'; replace hm := hide hm; replace hmg := hide hmg; replace hmn := hide hmn
  go_wp2_with fail
  refine (unhide hc).mono ?_
  rintro e w4 ⟨v, rfl, hown, hb⟩
  have hxb := glyphsS_mem g 4 (by decide)
  have hxl := glyphsS_len g 4
  obtain ⟨X, hX⟩ : ∃ X, glyphsS g 4 = X := ⟨_, rfl⟩
  rw [hX] at hown hxb hxl
  have hXi : AllI X := fun y hy => by have := hxb y hy; exact ⟨by omega, by omega⟩
  obtain ⟨xa, xc, rfl, -, hx⟩ := own_lst hown hXi
  obtain ⟨xn, hxn⟩ : ∃ xn, X.length = xn := ⟨_, rfl⟩
  rw [hxn] at hx hxl ⊢
  have hl := (unhide hl').under hb
  have hm' := (unhide hm).under hb
  have hz' := (unhide hz).trans (hb.mono (unhide hz).size)
  rw [unhide hln] at hl
  clear hc hX hown hz hb hl' hm hxb
  have hll := (unhide hlg).1
  have hml := (unhide hmg).1
  rw [unhide hln] at hll
  rw [unhide hmn] at hml
  obtain ⟨W, hW⟩ : ∃ W, w4.heap.size = W := ⟨_, rfl⟩
  have hb0 : Below w4.heap.size w4 (w4.alloc (Obj.cells #[] 37)) := (Below.refl _ _).alloc (Nat.le_refl _) _
  have hrow0 := own_lit (base := w4.heap.size) (s := 1) (n := 0) (heap_alloc_new w4 (Obj.cells #[] 37)) (Nat.le_refl _) (by decide) rfl
  have hlA := hl.below hb0
  replace hlA := hide hlA; replace hrow0 := hide hrow0; replace hb0 := hide hb0; replace hl := hide hl; replace hm' := hide hm'; replace hx := hide hx; replace hz' := hide hz'; replace hW := hide hW; replace hxn := hide hxn; replace hXi := hide hXi
  go_wp2_with (at_builtin; refine wpList_append_lks rfl _ _ rfl w4.heap.size _ [] _ rfl (unhide hrow0) rfl _ _ _ l rfl (unhide hlA) ?p1 ?p2 ?_)
  case p1 => simp; omega
  case p2 => rw [World.size_alloc]; omega
  intro v1 w5 xs1 hrow1 hfl1 hb5
  have hb05 : Below w4.heap.size w4 w5 := (unhide hb0).trans hb5
  have hmA := (unhide hm').below hb05
  try simp only [List.nil_append] at hrow1 hfl1
  clear hrow0 hlA hb0 hb5
  replace hmA := hide hmA; replace hrow1 := hide hrow1; replace hfl1 := hide hfl1; replace hb05 := hide hb05
  go_wp2_with (at_builtin; refine wpList_append_lks rfl _ _ rfl w4.heap.size _ l _ rfl (unhide hrow1) (unhide hfl1) _ _ _ m rfl (unhide hmA) ?p3 ?p4 ?_)
  case p3 => rw [unhide hln]; omega
  case p4 => exact (unhide hb05).size
  intro v2 w6 xs2 hrow2 hfl2 hb6
  have hb06 := (unhide hb05).trans hb6
  obtain ⟨pa, pc, rfl, hlm⟩ := flat_lst (l := l ++ m) (by rw [List.length_append]; exact hrow2) hfl2 hb06.size
  obtain ⟨lmn, hlme⟩ : ∃ lmn, (l ++ m).length = lmn := ⟨_, rfl⟩
  rw [hlme] at hlm ⊢
  have hx6 := (unhide hx).under hb06
  have hl6 := (unhide hl).under hb06
  have hm6 := (unhide hm').under hb06
  have hz6 := (unhide hz').trans (hb06.mono (unhide hz').size)
  clear hrow1 hfl1 hmA hb05 hrow2 hfl2 hb6 hb06 hx hl hm' hz' hW
  have hlmn : lmn ≤ 1000 := by rw [← hlme, List.length_append, unhide hln, unhide hmn]; omega
  have hs1 : ∀ x ∈ l ++ m, Small x := fun x hx => by
    rcases List.mem_append.1 hx with h | h
    · exact goodL_small (unhide hlg) x h
    · exact goodL_small (unhide hmg) x h
  have ht1 : ∀ x ∈ l ++ m, ToI x := fun x hx => by
    rcases List.mem_append.1 hx with h | h
    · exact goodL_to (by decide) (unhide hlg) x h
    · exact goodL_to (by decide) (unhide hmg) x h
  have hX1 : X.length ≤ 1000000000 := by rw [unhide hxn]; omega
  have hc1 := apply_any pa lmn pc (l ++ m) xa xn xc X w6 hlm hx6 hlmn hs1 ht1 (by omega)
  have hi1 := applyS_i64 ht1 (unhide hXi) hX1
  have hi2 := applyS_i64 (goodL_to (by decide) (unhide hlg)) (unhide hXi) hX1
  have hn2 := applyS_len l X
  have hi3 := applyS_i64 (goodL_to (by decide) (unhide hmg)) hi2.1 (Nat.le_trans hn2.2 hX1)
  have hn3 := applyS_len m (applyS l X).1
  have hc2 := fun w h1 h2 => apply_any la ln lc l xa xn xc X w h1 h2 (by omega) (goodL_small (unhide hlg)) (goodL_to (by decide) (unhide hlg)) (by omega)
  have hc3 := fun a n c w h1 h2 (hn : n ≤ 1000000) => apply_any ra mn' rc m a n c (applyS l X).1 w h1 h2 (by omega) (goodL_small (unhide hmg)) (goodL_to (by decide) (unhide hmg)) hn
  have hch := chain_law l m X
  rw [unhide hxn] at hn2
  rw [hch.1] at hc1 hi1
  have hin := hch.2
  clear hch hs1 ht1 hlm hlme
  obtain ⟨st2, hst2⟩ : ∃ st, applyS l X = st := ⟨_, rfl⟩
  simp only [hst2] at hc1 hi1 hi2 hn2 hi3 hn3 hc2 hc3 hin
  obtain ⟨Cl, Dl⟩ := st2
  obtain ⟨st3, hst3⟩ : ∃ st, applyS m Cl = st := ⟨_, rfl⟩
  simp only [hst3] at hc1 hi1 hi2 hn2 hi3 hn3 hc2 hc3 hin
  obtain ⟨El, Fl⟩ := st3
  simp only at hc1 hi1 hi2 hn2 hi3 hn3 hc2 hc3 hin
  obtain ⟨Bl, hBl⟩ : ∃ Bl, (Fl.map fun j => Dl.getD j.toNat 0) = Bl := ⟨_, rfl⟩
  have hBn : Bl.length = Fl.length := by rw [← hBl, List.length_map]
  have hBg : ∀ (k : Nat) j, Fl[k]? = some j → Bl[k]? = some (Dl.getD j.toNat 0) := fun k j h => by rw [← hBl, List.getElem?_map, h]; rfl
  rw [hBl] at hc1 hi1
  clear hBl hst2 hst3
  replace hc1 := hide hc1; replace hc2 := hide hc2; replace hc3 := hide hc3; replace hi1 := hide hi1; replace hi2 := hide hi2; replace hi3 := hide hi3; replace hn2 := hide hn2; replace hn3 := hide hn3; replace hin := hide hin; replace hBn := hide hBn; replace hBg := hide hBg; replace hx6 := hide hx6; replace hl6 := hide hl6; replace hm6 := hide hm6; replace hz6 := hide hz6
  go_wp2_with fail
  refine (unhide hc1).mono ?_
  rintro e w7 ⟨q1, q2, rfl, ht, hb⟩
  obtain ⟨a1, c1, a2, c2, rfl, rfl, hA, hBq⟩ := ht.lst (unhide hi1).1 (unhide hi1).2
  have hx7 := (unhide hx6).under hb
  have hl7 := (unhide hl6).under hb
  have hm7 := (unhide hm6).under hb
  have hz7 := (unhide hz6).trans (hb.mono (unhide hz6).size)
  have hc := unhide hc2 w7 hl7 hx7
  obtain ⟨en, hen⟩ : ∃ en, El.length = en := ⟨_, rfl⟩
  obtain ⟨fn, hfn⟩ : ∃ fn, Fl.length = fn := ⟨_, rfl⟩
  obtain ⟨cn, hcn⟩ : ∃ cn, Cl.length = cn := ⟨_, rfl⟩
  obtain ⟨dn, hdn⟩ : ∃ dn, Dl.length = dn := ⟨_, rfl⟩
  have hBn' := unhide hBn
  have hn2' := unhide hn2
  have hn3' := unhide hn3
  rw [hBn'] at hBq
  simp only [hBn']
  rw [hfn] at hBq hBn' hn3'
  rw [hen] at hA hn3'
  rw [hcn] at hn2' hn3'
  rw [hdn] at hn2'
  simp only [hen, hfn]
  have s1 : en ≤ 1000 ∧ fn ≤ 1000 ∧ cn ≤ 1000 ∧ dn ≤ 1000 := by omega
  clear hc1 hc2 ht hb hx6 hl6 hm6 hz6 hx7 hl7 hBn hn2 hn3 hi1
  replace hc := hide hc; replace hA := hide hA; replace hBq := hide hBq; replace hm7 := hide hm7; replace hz7 := hide hz7; replace hen := hide hen; replace hfn := hide hfn; replace hcn := hide hcn; replace hdn := hide hdn; replace hBn' := hide hBn'; replace hn2' := hide hn2'; replace hn3' := hide hn3'
  go_wp2_with fail
  refine (unhide hc).mono ?_
  rintro e w8 ⟨q1, q2, rfl, ht, hb⟩
  obtain ⟨a3, c3, a4, c4, rfl, rfl, hC, hD⟩ := ht.lst (unhide hi2).1 (unhide hi2).2
  rw [unhide hcn] at hC
  rw [unhide hdn] at hD
  simp only [unhide hcn, unhide hdn]
  have hA8 := (unhide hA).under hb
  have hB8 := (unhide hBq).under hb
  have hm8 := (unhide hm7).under hb
  have hz8 := (unhide hz7).trans (hb.mono (unhide hz7).size)
  have hc' := unhide hc3 a3 cn c3 w8 hm8 hC (by omega)
  clear hc hA hBq hm7 hz7 ht hb hC hc3 hi2 hm8
  replace hc' := hide hc'; replace hA8 := hide hA8; replace hB8 := hide hB8; replace hz8 := hide hz8; replace hD := hide hD
  go_wp2_with fail
  refine (unhide hc').mono ?_
  rintro e w9 ⟨q1, q2, rfl, ht, hb⟩
  obtain ⟨a5, c5, a6, c6, rfl, rfl, hE, hF⟩ := ht.lst (unhide hi3).1 (unhide hi3).2
  rw [unhide hen] at hE
  rw [unhide hfn] at hF
  simp only [unhide hen, unhide hfn]
  have hA9 := (unhide hA8).under hb
  have hB9 := (unhide hB8).under hb
  have hD9 := (unhide hD).under hb
  have hz9 := (unhide hz8).trans (hb.mono (unhide hz8).size)
  have hs := sameInts_blw a1 en c1 El a5 en c5 El w9 hA9 hE (by omega) (by omega)
  rw [decide_eq_true rfl] at hs
  clear hc' hA8 hB8 hz8 hD ht hb hE hA9 hi3
  replace hs := hide hs; replace hB9 := hide hB9; replace hD9 := hide hD9; replace hF := hide hF; replace hz9 := hide hz9
  go_wp2_with fail
  refine (unhide hs).mono ?_
  rintro e wa ⟨rfl, hb⟩
  have hBa := (unhide hB9).under hb
  have hDa := (unhide hD9).under hb
  have hFa := (unhide hF).under hb
  have hza := (unhide hz9).trans (hb.mono (unhide hz9).size)
  clear hs hB9 hD9 hF hz9 hb
  replace hBa := hide hBa; replace hDa := hide hDa; replace hFa := hide hFa; replace hza := hide hza
  go_wp2_with fail
  go_loopw [60] (fun v wr => ∃ k q : Nat, k ≤ fn ∧ v = .int .i64 (k : Int) ∧ wr = wa.drewN q) (fun v _ => fn - (intOf v).toNat)
  case atStart => exact ⟨0, 0, by omega, rfl, rfl⟩
  case round =>
    obtain ⟨k, q, hk, rfl, rfl⟩ := hrel
    by_cases hlt : k < fn
    · obtain ⟨bF, oF, j, rfl, _, hj, _, cF⟩ := lst_int (unhide hFa) hlt
      obtain ⟨bB, oB, y, rfl, _, hy, _, cB⟩ := lst_int (unhide hBa) hlt
      have hjb := unhide hin j (List.mem_of_getElem? hj)
      have hyj := unhide hBg k j hj
      rw [hy] at hyj
      obtain ⟨jn, rfl⟩ := Int.eq_ofNat_of_zero_le hjb.1
      rw [unhide hdn] at hjb
      have hjd : jn < dn := by omega
      obtain ⟨bD, oD, z, rfl, _, hzz, _, cD⟩ := lst_int (unhide hDa) hjd
      have hyz : y = z := by
        have := Option.some.inj hyj
        rw [Int.toNat_natCast, getD_some hzz] at this
        exact this
      subst hyz
      have i1 : (jn : Int) < (dn : Int) := by omega
      have i2 : ¬ (dn : Int) ≤ (jn : Int) := by omega
      clear hj hy hyj hzz hjb
      go_wp2_with fail
      go_quiet (fail)
      go_wp2_with fail
      go_roundw
      case rel => exact ⟨k + 1, q + nq, by omega, by go_num, rfl⟩
      case measure => simp [intOf]; omega
    · have hzz := blw_drewN (unhide hza) q
      replace hzz := hide hzz
      go_wp2_with fail
      go_ret
      exact ⟨rfl, unhide hzz⟩
end Go.Proofs.Ytmlnjbljdincjaa
