/- StreamApplies: its walk. -/
import Derived.Test.YtfbgbbbfpkpfkaaTrW
import Derived.Test.YtfbgbbbfpkpfkaaTrP
namespace Go.Proofs.Ytfbgbbbfpkpfkaa
open Go.RowKit
theorem goodL_check {l : List (List Sub)} {gm : Int} (h : GoodL l gm) : checkS l gm = 0 := by
  have hm : many l = false := by
    unfold many
    rw [List.any_eq_false]
    intro x hx
    have := (h.2 x hx).1
    simp
    omega
  refine checkS_ok (by have := h.1; omega) hm (fun k x hx => okLk_of (fun j s hs => ?_))
  obtain ⟨h1, h2, h3, h4, h5⟩ := (h.2 x (List.mem_of_getElem? hx)).2 s (List.mem_of_getElem? hs)
  refine okSub_yes h1 h5 ?_
  unfold okAll allOf
  rw [List.all_eq_true]
  intro y hy
  rcases List.mem_append.1 hy with hy | hy
  · exact decide_eq_true (h2 y hy)
  · rcases List.mem_append.1 hy with hy | hy
    · exact decide_eq_true (h3 y hy)
    · exact decide_eq_true (h4 y hy)
theorem goodL_back {l : List (List Sub)} {gm : Int} (h : GoodL l gm) : ∀ x ∈ l, ∀ s ∈ x, s.1.length ≤ 2 := fun x hx s hs => ((h.2 x hx).2 s hs).1.2.2.1
theorem wpList_unguard {P : Program} {ops : Array Oper} {Q : Exit → Act → World → Prop} {a : Act} {w : World} {rest : List Oper} {o : Oper} (hw : Region.wanted o (yielded ops a.tmps) = true) (h : wpList P ops Q ({ o with guard := none } :: rest) a w) : wpList P ops Q (o :: rest) a w := by
  unfold wpList at h ⊢
  rw [if_pos hw]
  rw [if_pos (by simp [Region.wanted])] at h
  exact h
set_option maxRecDepth 100000 in
set_option maxHeartbeats 8000000 in
theorem streamApplies_any (na : Option Addr) (nn nc : Nat) (N : List Int) (ga : Option Addr) (gn gc : Nat) (g : List Int) (w : World) (hN : Lst Enc.int w (fun b => b < w.heap.size) na nn N) (hN1 : nn ≤ nc) (hN2 : nc ≤ maxLen) (hG : Lst Enc.int w (fun b => b < w.heap.size) ga gn g) (hG1 : gn ≤ gc) (hG2 : gc ≤ maxLen) :
    Calls Try.prog 8 #[.slice na nn nc, .slice ga gn gc] w fun e w' => e = .returned (.bool true) ∧ Below w.heap.size w w' := by
  obtain ⟨nm, enm⟩ : ∃ m : Nat, (min (nn : Int) 60).toNat = m := ⟨_, rfl⟩
  have mnm : nm ≤ nn := by omega
  have mnc : nm ≤ nc := by omega
  have hif : (if (60 : Int) < (nn : Int) then (60 : Int) else (nn : Int)) = (nm : Int) := by split <;> omega
  have i60 : (0 : Int) ≤ (nm : Int) := by omega
  have i61 : (nm : Int) ≤ (nc : Int) := by omega
  replace enm := hide enm; replace hN := hide hN; replace hG := hide hG
  go_enter Try.func8, Try.ntmps8
  go_wp2_with fail
  refine (sanity_any _).mono ?_
  rintro e w1 ⟨rfl, hz1⟩
  have hr := made_any na nm nc (N.take nm) 12 w1 (((unhide hN).under hz1).take mnm) (by omega) (by decide) (by decide)
  have hG' := hide ((unhide hG).under hz1)
  clear hN hG
  replace hr := hide hr; replace hz1 := hide hz1
  go_wp2_with fail
  refine (unhide hr).mono ?_
  rintro e w2 ⟨la, lc, l, rfl, hl, hgl, hb2⟩
  have hz2 := hide ((unhide hz1).trans (hb2.mono (unhide hz1).size))
  have hG2' := (unhide hG').under hb2
  obtain ⟨hsm, hto, hl3⟩ := goodL12 hgl
  have hck : checkS l 12 = 0 := goodL_check hgl
  have hbk2 := goodL_back hgl
  obtain ⟨ln, hln⟩ : ∃ m, l.length = m := ⟨_, rfl⟩
  rw [hln] at hl hl3 ⊢
  have hcc := cut_any ga gn gc g w2 hG2' (by omega)
  clear hr hz1 hb2 hG' hG2' hgl
  replace hcc := hide hcc; replace hl := hide hl; replace hsm := hide hsm; replace hto := hide hto; replace hln := hide hln; replace hck := hide hck; replace hbk2 := hide hbk2
  go_wp2_with fail
  refine (unhide hcc).mono ?_
  rintro e w3 ⟨v, rfl, hown, hb⟩
  have hz3 := hide ((unhide hz2).trans (hb.mono (unhide hz2).size))
  have hl' := (unhide hl).under hb
  obtain ⟨ca, cc, rfl, -, hcl⟩ := own_lst hown (cutS_i64 g)
  have hcn := cutS_len g
  have hci : AllI (cutS g) := cutS_i64 g
  obtain ⟨X, hX⟩ : ∃ X, cutS g = X := ⟨_, rfl⟩
  rw [hX] at hcl hcn hci ⊢
  have hin := applyS_i64 (unhide hto) hci (by omega)
  have hAn := applyS_len l X
  have hpl := applies_plain l X (unhide hbk2)
  obtain ⟨xn, hxn⟩ : ∃ m, X.length = m := ⟨_, rfl⟩
  rw [hxn] at hcl hcn hAn ⊢
  have hac := apply_any la ln lc l ca xn cc X w3 hl' hcl (by omega) (unhide hsm) (unhide hto) (by omega)
  have hfc := fun w h1 h2 => fed_any la ln lc l ca xn cc X w h1 (unhide hsm) (unhide hto) h2 (by omega) (by omega)
  have hfi := feedAll_len l X (startS l) (startS_len l)
  have htl := feedAll_tot l X (startS l) (startS_len l)
  have hbk := feedAll_back l 300000 (by omega) X (startS l) (startS_len l) (back_start _ _)
  rw [tot_start, hxn] at htl
  unfold allS at hpl
  obtain ⟨FA, hFA⟩ : ∃ r, feedAll l (startS l) X = r := ⟨_, rfl⟩
  simp only [hFA] at hfc hfi htl hbk hpl
  obtain ⟨AS, hAS⟩ : ∃ r, applyS l X = r := ⟨_, rfl⟩
  rw [hAS] at hac hin hAn hpl
  clear hcc hz2 hl hown hb hX hFA hAS hci hbk2
  have hl := hide hl'
  have hcl := hide hcl
  clear hl'
  replace hac := hide hac; replace hfc := hide hfc; replace hfi := hide hfi; replace hxn := hide hxn; replace hin := hide hin; replace hAn := hide hAn; replace hpl := hide hpl; replace htl := hide htl; replace hbk := hide hbk
  go_wp2_with fail
  refine (unhide hac).mono ?_
  rintro e w4 ⟨v1, v2, rfl, htw, hb⟩
  obtain ⟨a1, c1, a2, c2, rfl, rfl, hA, -⟩ := htw.lst (unhide hin).1 (unhide hin).2
  obtain ⟨an, han⟩ : ∃ m, AS.1.length = m := ⟨_, rfl⟩
  obtain ⟨bn, hbn⟩ : ∃ m, AS.2.length = m := ⟨_, rfl⟩
  simp only [han, hbn] at hA ⊢
  have hz4 := hide ((unhide hz3).trans (hb.mono (unhide hz3).size))
  have hl4 := (unhide hl).under hb
  have hcl4 := (unhide hcl).under hb
  have hfc' := hide (unhide hfc w4 hl4 hcl4)
  clear hac htw hz3 hl hcl hcl4 hb hfc
  replace hA := hide hA; replace hl4 := hide hl4; replace han := hide han
  go_wp2_with fail
  refine (unhide hfc').mono ?_
  rintro e w5 ⟨fa, fc, v, rfl, hst, hown, hb⟩
  obtain ⟨oa, oc, hv⟩ := own_shape hown
  subst hv
  obtain ⟨B, hB⟩ : ∃ B, w4.heap.size = B := ⟨_, rfl⟩
  have hl5 := (unhide hl4).under hb
  rw [hB] at hown hb
  have hAB := unhide hA
  rw [hB] at hAB
  have hB5 : B ≤ w5.heap.size := Nat.le_trans (Nat.le_of_eq hB.symm) hb.size
  obtain ⟨b9x, V9, hb9, hV9, st⟩ := (St.start w5).new (Obj.cells #[.slice fa ln fc] 29)
  have hbb := st.below
  have k9 := st.get 0 rfl
  have hb9B := hb.trans (hbb.mono hB5)
  have hl9 := hl5.under hbb
  have hst9 := hst.under hbb
  have hown9 := own_belowb hown hbb
  clear st hfc' hl4 hA hst hown hb hl5 hbb hB5
  replace hb9 := hide hb9; replace hV9 := hide hV9; replace hb9B := hide hb9B; replace hst9 := hide hst9; replace k9 := hide k9; replace hown9 := hide hown9; replace hAB := hide hAB; replace hB := hide hB
  go_upto_region 5 with fail
  rw [unhide hV9]
  try rw [unhide hb9]
  clear hV9 hb9
  have d9 := blk_cell (unhide k9)
  have hcc := check_any la ln lc l 12 V9 hl9 (by omega) (unhide hsm)
  rw [unhide hck] at hcc
  replace hcc := hide hcc; replace hl9 := hide hl9
  go_wp2_with fail
  refine (unhide hcc).mono ?_
  rintro e w6 ⟨rfl, hb⟩
  have hb6B := (unhide hb9B).trans (hb.mono (Nat.le_trans (Nat.le_of_eq (unhide hB).symm) (unhide hb9B).size))
  have hl6 := (unhide hl9).under hb
  have hst6 := (unhide hst9).under hb
  have hown6 := own_belowb (unhide hown9) hb
  have d6 := blk_cell (kept' hb (unhide k9))
  have hcc6 := end_any la ln lc l fa fc FA.1 w6 hl6 (unhide hsm) (unhide hto) hst6 (by omega) (unhide hbk) (by have := unhide htl; unfold tot at *; simp only [List.length_nil]; omega)
  clear hcc hb9B hl9 hst9 hown9 hl6 hst6 hb d9
  replace hcc6 := hide hcc6; replace hb6B := hide hb6B; replace hown6 := hide hown6
  go_wp2_with fail
  refine (unhide hcc6).mono ?_
  rintro e w7 ⟨ea, ec, rfl, hEl, hEn, hb⟩
  have hb7B := (unhide hb6B).trans (hb.mono (Nat.le_trans (Nat.le_of_eq (unhide hB).symm) (unhide hb6B).size))
  have hown7 := own_belowb (unhide hown6) hb
  have hB7 : B ≤ w7.heap.size := Nat.le_trans (Nat.le_of_eq (unhide hB).symm) hb7B.size
  obtain ⟨en, hen⟩ : ∃ m, (endS l FA.1).length = m := ⟨_, rfl⟩
  rw [hen] at hEl hEn ⊢
  obtain ⟨on, hon⟩ : ∃ m, FA.2.length = m := ⟨_, rfl⟩
  rw [hon] at hown7 ⊢
  have hon2 : on ≤ 20 := by have := unhide htl; unfold tot at this; omega
  clear hcc6 hb6B hown6 hb d6
  replace hb7B := hide hb7B; replace hown7 := hide hown7; replace hEl := hide hEl; replace hen := hide hen; replace hon := hide hon
  go_wp2_with (at_builtin; refine wpList_unguard (by first | rfl | simp [Region.wanted, yielded]) ?_; refine wpList_append_ints rfl _ _ rfl B _ _ _ rfl (unhide hown7) _ _ _ _ _ rfl (unhide hEl) ?d1 hB7 ?_)
  case d1 => omega
  intro v' w8 hown8 hg8
  have hb8B := Below.grown (unhide hb7B) hg8 hB7 (fun g e => ((unhide hown7).lt g e).1)
  have hA8 := ((unhide hAB).below hb8B).wide (S' := fun b => b < w8.heap.size) (fun b (hb : b < B) => Nat.lt_of_lt_of_le hb (Nat.le_trans (Nat.le_of_eq (unhide hB).symm) hb8B.size))
  rw [show vints FA.2 ++ vints (endS l FA.1) = vints AS.1 by rw [← unhide hpl]; simp [vints]] at hown8
  obtain ⟨va, vc, rfl, hve, hvl⟩ := own_lst hown8 (unhide hin).1
  have hzz := (unhide hz4).trans ((by rw [unhide hB]; exact hb8B : Below w4.heap.size w4 w8).mono (unhide hz4).size)
  rw [unhide han] at hvl ⊢
  have hs := sameInts_blw va an vc AS.1 a1 an c1 AS.1 w8 hvl hA8 (by have := (unhide hAn).2; rw [unhide han] at this; omega) (by have := (unhide hAn).2; rw [unhide han] at this; omega)
  rw [decide_eq_true rfl] at hs
  clear hb7B hown7 hEl hg8 hb8B hA8 hown8 hvl hAB
  replace hs := hide hs; replace hzz := hide hzz
  go_wp2_with fail
  refine (unhide hs).mono ?_
  rintro e w9 ⟨rfl, hb⟩
  have hze := (unhide hzz).trans (hb.mono (unhide hzz).size)
  clear hs hzz hb
  replace hze := hide hze
  go_wp2_with fail
  go_ret
  exact ⟨rfl, unhide hze⟩
end Go.Proofs.Ytfbgbbbfpkpfkaa
