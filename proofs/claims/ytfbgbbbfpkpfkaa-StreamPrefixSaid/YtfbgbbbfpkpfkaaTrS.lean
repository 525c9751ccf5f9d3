/- StreamPrefix: its walk. -/
import Derived.Test.YtfbgbbbfpkpfkaaTrA
namespace Go.Proofs.Ytfbgbbbfpkpfkaa
open Go.RowKit
theorem own_cap {w : World} {base : Nat} {T s : Nat} {v : Value} {n m : Nat} {xs : List Value} {a : Option Addr} {c : Nat} (h : w.ownsRow base T s v n xs) (hv : v = .slice a m c) : m ≤ c := by
  subst hv
  rcases h.2 with ⟨h', _⟩ | ⟨g', cap, cur, h', hb, hg, hn, hc, hs, ht⟩
  · injection h' with e1 e2 e3; omega
  · injection h' with e1 e2 e3; omega
/-- numbers in a cell -/
def IsC (w : World) (b i : Nat) : Prop := ∃ a n c l, w.cell? ⟨b, i, none⟩ = some (.slice a n c) ∧ Lst Enc.int w (fun b => b < w.heap.size) a n l ∧ n ≤ 20 ∧ AllI l
theorem IsC.under {w w' : World} {b i : Nat} (h : IsC w b i) (hb : Below w.heap.size w w') : IsC w' b i := by
  obtain ⟨a, n, c, l, h1, h2, h3⟩ := h
  exact ⟨a, n, c, l, cell_under h1 hb, h2.under hb, h3⟩
structure PfW (w wr : World) (bq : Nat) (la : Option Addr) (ln : Nat) (l : List (List Sub)) (ca : Option Addr) (xn : Nat) (X : List Int) (oa : Option Addr) (on : Nat) (O : List Int) : Prop where
  bel : Below w.heap.size w wr
  at_ : ∀ i, i < 3 → IsC wr bq i
  lst : Lst Enc.lk wr (fun b => b < wr.heap.size) la ln l
  gl : Lst Enc.int wr (fun b => b < wr.heap.size) ca xn X
  out : Lst Enc.int wr (fun b => b < wr.heap.size) oa on O
theorem PfW.under {w wr wz : World} {bq ln xn on : Nat} {la ca oa : Option Addr} {l : List (List Sub)} {X O : List Int} (h : PfW w wr bq la ln l ca xn X oa on O) (hb : Below wr.heap.size wr wz) : PfW w wz bq la ln l ca xn X oa on O :=
  ⟨h.bel.trans (hb.mono h.bel.size), fun i hi => (h.at_ i hi).under hb, h.lst.under hb, h.gl.under hb, h.out.under hb⟩
set_option maxRecDepth 100000 in
set_option maxHeartbeats 8000000 in
theorem streamPrefix_any (na : Option Addr) (nn nc : Nat) (N : List Int) (ga : Option Addr) (gn gc : Nat) (g : List Int) (ma : Option Addr) (mn mc : Nat) (M : List Int) (ta : Option Addr) (tn tc : Nat) (T : List Int) (w : World) (hN : Lst Enc.int w (fun b => b < w.heap.size) na nn N) (hN1 : nn ≤ nc) (hN2 : nc ≤ maxLen) (hG : Lst Enc.int w (fun b => b < w.heap.size) ga gn g) (hG1 : gn ≤ gc) (hG2 : gc ≤ maxLen)
    (hM : Lst Enc.int w (fun b => b < w.heap.size) ma mn M) (hM1 : mn ≤ mc) (hM2 : mc ≤ maxLen) (hT : Lst Enc.int w (fun b => b < w.heap.size) ta tn T) (hT1 : tn ≤ tc) (hT2 : tc ≤ maxLen) :
    Calls Try.prog 5 #[.slice na nn nc, .slice ga gn gc, .slice ma mn mc, .slice ta tn tc] w fun e w' => e = .returned (.bool true) ∧ Below w.heap.size w w' := by
  obtain ⟨nm, enm⟩ : ∃ m : Nat, (min (nn : Int) 60).toNat = m := ⟨_, rfl⟩
  have mnm : nm ≤ nn := by omega
  have mnc : nm ≤ nc := by omega
  have hif : (if (60 : Int) < (nn : Int) then (60 : Int) else (nn : Int)) = (nm : Int) := by split <;> omega
  have i60 : (0 : Int) ≤ (nm : Int) := by omega
  have i61 : (nm : Int) ≤ (nc : Int) := by omega
  replace enm := hide enm; replace hN := hide hN; replace hG := hide hG; replace hM := hide hM; replace hT := hide hT
  go_enter Try.func5, Try.ntmps5
  go_wp2_with fail
  refine (sanity_any _).mono ?_
  rintro e w1 ⟨rfl, hz1⟩
  have hr := made_any na nm nc (N.take nm) 12 w1 (((unhide hN).under hz1).take mnm) (by omega) (by decide) (by decide)
  have hG' := hide ((unhide hG).under hz1)
  have hM' := hide ((unhide hM).under hz1)
  have hT' := hide ((unhide hT).under hz1)
  clear hN hG hM hT
  replace hr := hide hr; replace hz1 := hide hz1
  go_wp2_with fail
  refine (unhide hr).mono ?_
  rintro e w2 ⟨la, lc, l, rfl, hl, hgl, hb2⟩
  have hz2 := hide ((unhide hz1).trans (hb2.mono (unhide hz1).size))
  have hG2' := (unhide hG').under hb2
  have hM2' := (unhide hM').under hb2
  have hT2' := (unhide hT').under hb2
  obtain ⟨hsm, hto, hl3⟩ := goodL12 hgl
  have hbk2 := goodL_back hgl
  obtain ⟨ln, hln⟩ : ∃ m, l.length = m := ⟨_, rfl⟩
  rw [hln] at hl hl3 ⊢
  have hcc := cut_any ga gn gc g w2 hG2' (by omega)
  clear hr hz1 hb2 hG' hG2' hM' hT' hgl
  replace hcc := hide hcc; replace hl := hide hl; replace hsm := hide hsm; replace hto := hide hto; replace hln := hide hln; replace hbk2 := hide hbk2; replace hM2' := hide hM2'; replace hT2' := hide hT2'
  go_wp2_with fail
  refine (unhide hcc).mono ?_
  rintro e w3 ⟨v, rfl, hown, hb⟩
  have hz3 := hide ((unhide hz2).trans (hb.mono (unhide hz2).size))
  have hl' := (unhide hl).under hb
  have hM3 := (unhide hM2').under hb
  have hT3 := (unhide hT2').under hb
  obtain ⟨ca, cc, rfl, -, hcl⟩ := own_lst hown (cutS_i64 g)
  have hcn := cutS_len g
  have hci : AllI (cutS g) := cutS_i64 g
  obtain ⟨X, hX⟩ : ∃ X, cutS g = X := ⟨_, rfl⟩
  rw [hX] at hcl hcn hci ⊢
  have hpl := fun m => prefix_plain l X m (unhide hbk2)
  have hin := fun m (h : AllI m) (hm : m.length ≤ 20) => applyS_i64 (unhide hto) (g := X ++ m) (fun y hy => (List.mem_append.1 hy).elim (hci y) (h y)) (by rw [List.length_append]; omega)
  obtain ⟨xn, hxn⟩ : ∃ m, X.length = m := ⟨_, rfl⟩
  rw [hxn] at hcl hcn ⊢
  have hfc := fed_any la ln lc l ca xn cc X w3 hl' (unhide hsm) (unhide hto) hcl (by omega) (by omega)
  obtain ⟨FA, hFA⟩ : ∃ r, feedAll l (startS l) X = r := ⟨_, rfl⟩
  simp only [hFA] at hfc hpl
  have hOi : AllI FA.2 := by
    obtain ⟨t, ht⟩ := hpl []
    have := (hin [] (fun y hy => by cases hy) (by simp)).1
    rw [ht] at this
    exact fun y hy => this y (List.mem_append.2 (.inl hy))
  clear hcc hz2 hl hown hb hX hFA hbk2 hM2' hT2'
  replace hl' := hide hl'; replace hcl := hide hcl; replace hM3 := hide hM3; replace hT3 := hide hT3
  replace hfc := hide hfc; replace hxn := hide hxn; replace hpl := hide hpl; replace hin := hide hin; replace hOi := hide hOi; replace hci := hide hci
  go_wp2_with fail
  refine (unhide hfc).mono ?_
  rintro e w4 ⟨fa, fc, v, rfl, -, hown, hb⟩
  obtain ⟨oa, oc, hv⟩ := own_shape hown
  subst hv
  have hoc := own_cap hown rfl
  obtain ⟨oa', oc', hve, -, ho⟩ := own_lst hown (unhide hOi)
  injection hve with e1 e2 e3
  subst e1 e3
  obtain ⟨on, hon⟩ : ∃ m, FA.2.length = m := ⟨_, rfl⟩
  rw [hon] at ho hoc ⊢
  have hz4 := (unhide hz3).trans (hb.mono (unhide hz3).size)
  have hl4 := (unhide hl').under hb
  have hc4 := (unhide hcl).under hb
  have hM4 := (unhide hM3).under hb
  have hT4 := (unhide hT3).under hb
  obtain ⟨b11x, V11, hb11, hV11, st⟩ := (St.start w4).new (Obj.cells #[.slice fa ln fc] 29)
  have hbb := st.below
  have hz5 := hz4.trans (hbb.mono hz4.size)
  have hl5 := hl4.under hbb
  have hc5 := hc4.under hbb
  have hM5 := hM4.under hbb
  have hT5 := hT4.under hbb
  have ho5 := ho.under hbb
  clear st hfc hz3 hl' hcl hM3 hT3 hown hb hz4 hl4 hc4 hM4 hT4 ho hbb e2
  replace hb11 := hide hb11; replace hV11 := hide hV11; replace hz5 := hide hz5; replace hl5 := hide hl5; replace hc5 := hide hc5; replace hT5 := hide hT5; replace ho5 := hide ho5; replace hon := hide hon; replace hoc := hide hoc
  go_upto_region 4 with fail
  rw [unhide hV11]
  try rw [unhide hb11]
  clear hV11 hb11
  have hcm := cut_any ma mn mc M V11 hM5 (by omega)
  clear hM5
  replace hcm := hide hcm
  go_wp2_with fail
  refine (unhide hcm).mono ?_
  rintro e w6 ⟨v, rfl, hown, hb⟩
  obtain ⟨pa, pc, rfl, -, hP⟩ := own_lst hown (cutS_i64 M)
  have hPn := cutS_len M
  have hPi : AllI (cutS M) := cutS_i64 M
  obtain ⟨MP, hMP⟩ : ∃ X, cutS M = X := ⟨_, rfl⟩
  rw [hMP] at hP hPn hPi ⊢
  obtain ⟨pn, hpn⟩ : ∃ m, MP.length = m := ⟨_, rfl⟩
  rw [hpn] at hP hPn ⊢
  have hz6 := (unhide hz5).trans (hb.mono (unhide hz5).size)
  have hl6 := (unhide hl5).under hb
  have hc6 := (unhide hc5).under hb
  have hT6 := (unhide hT5).under hb
  have ho6 := (unhide ho5).under hb
  have hcm6 := cut_any ta tn tc T w6 hT6 (by omega)
  clear hcm hz5 hl5 hc5 hT5 ho5 hown hb hT6 hMP
  replace hcm6 := hide hcm6; replace hz6 := hide hz6; replace hl6 := hide hl6; replace hc6 := hide hc6; replace ho6 := hide ho6; replace hP := hide hP; replace hPi := hide hPi; replace hpn := hide hpn
  go_wp2_with fail
  refine (unhide hcm6).mono ?_
  rintro e w7 ⟨v, rfl, hown, hb⟩
  obtain ⟨qa, qc, rfl, -, hQ⟩ := own_lst hown (cutS_i64 T)
  have hQn := cutS_len T
  have hQi : AllI (cutS T) := cutS_i64 T
  obtain ⟨MQ, hMQ⟩ : ∃ X, cutS T = X := ⟨_, rfl⟩
  rw [hMQ] at hQ hQn hQi ⊢
  obtain ⟨qn, hqn⟩ : ∃ m, MQ.length = m := ⟨_, rfl⟩
  rw [hqn] at hQ hQn ⊢
  have hz7 := (unhide hz6).trans (hb.mono (unhide hz6).size)
  have hl7 := (unhide hl6).under hb
  have hc7 := (unhide hc6).under hb
  have ho7 := (unhide ho6).under hb
  have hP7 := (unhide hP).under hb
  obtain ⟨bq, hbq⟩ : ∃ bq, bq = w7.heap.size := ⟨_, rfl⟩
  obtain ⟨w8, hw8⟩ : ∃ w8, w8 = w7.alloc (Obj.cells #[.slice none 0 0, .slice pa pn pc, .slice qa qn qc] 22) := ⟨_, rfl⟩
  have hck : PfW w w8 bq la ln l ca xn X oa on FA.2 := by
    have hb : Below w7.heap.size w7 w8 := by rw [hw8]; exact (Below.refl _ _).alloc (Nat.le_refl _) _
    have hrow : w8.heap[bq]? = some (.cells #[.slice none 0 0, .slice pa pn pc, .slice qa qn qc] 22 (0, 0)) := by rw [hw8, hbq]; exact heap_alloc_new w7 _
    refine ⟨hz7.trans (hb.mono hz7.size), fun i hi => ?_, hl7.under hb, hc7.under hb, ho7.under hb⟩
    match i, hi with
    | 0, _ => exact ⟨_, _, _, _, (cell_of_row _ _ 0 _ _ _ hrow).trans rfl, Lst.nil _ _ _ _, by omega, fun y hy => by cases hy⟩
    | 1, _ => exact ⟨_, _, _, _, (cell_of_row _ _ 1 _ _ _ hrow).trans rfl, hP7.under hb, hPn, unhide hPi⟩
    | 2, _ => exact ⟨_, _, _, _, (cell_of_row _ _ 2 _ _ _ hrow).trans rfl, hQ.under hb, hQn, hQi⟩
  clear hcm6 hz6 hl6 hc6 ho6 hP hPi hown hb hQ hQi hz7 hl7 hc7 ho7 hP7 hMQ hpn hqn
  replace hbq := hide hbq; replace hw8 := hide hw8; replace hck := hide hck
  go_wp2_with fail
  rw [← unhide hw8, ← unhide hbq]
  go_loopw [38] (fun v wr => ∃ k : Nat, k ≤ 3 ∧ v = .int .i64 (k : Int) ∧ PfW w wr bq la ln l ca xn X oa on FA.2) (fun v _ => 3 - (intOf v).toNat)
  case atStart => exact ⟨0, by omega, rfl, unhide hck⟩
  case round =>
    clear hck
    obtain ⟨k, hk, rfl, hck⟩ := hrel
    obtain ⟨wo, rfl⟩ : ∃ wo : World, wo = wr := ⟨_, rfl⟩
    by_cases hlt : k < 3
    · obtain ⟨xa, mn', xc, L, cX, hX, hXn, hXi⟩ := hck.at_ k hlt
      have t1 : (k : Int) < 3 := by omega
      have t2 : ¬ (3 : Int) ≤ (k : Int) := by omega
      have hln' := hX.1
      have hrow0 := own_lit (base := wo.heap.size) (s := 1) (n := 0) (heap_alloc_new wo (Obj.cells #[] 3)) (Nat.le_refl _) (by decide) rfl
      have hb0 : Below wo.heap.size wo (wo.alloc (Obj.cells #[] 3)) := (Below.refl _ _).alloc (Nat.le_refl _) _
      have hcA := hck.gl.below hb0
      replace hcA := hide hcA; replace hrow0 := hide hrow0; replace hb0 := hide hb0; replace hX := hide hX; replace hck := hide hck; replace hXi := hide hXi; replace hln' := hide hln'
      go_wp2_with (at_builtin; refine wpList_append_ints rfl _ _ rfl wo.heap.size _ _ _ rfl (unhide hrow0) _ _ _ _ _ rfl (unhide hcA) ?d1 (unhide hb0).size ?_)
      case d1 => omega
      intro v1 w9 hrow1 hg9
      have hb9 : Below wo.heap.size wo w9 := Below.grown (unhide hb0) hg9 (unhide hb0).size (fun g e => ((unhide hrow0).lt g e).1)
      try simp only [List.nil_append, Nat.zero_add] at hrow1
      have hXA := (unhide hX).below hb9
      clear hrow0 hcA hb0 hg9
      replace hrow1 := hide hrow1; replace hb9 := hide hb9; replace hXA := hide hXA
      go_wp2_with (at_builtin; refine wpList_append_ints rfl _ _ rfl wo.heap.size _ _ _ rfl (unhide hrow1) _ _ _ _ _ rfl (unhide hXA) ?d3 (unhide hb9).size ?_)
      case d3 => omega
      intro v2 wa hrow2 hg2
      have hba : Below wo.heap.size wo wa := Below.grown (unhide hb9) hg2 (unhide hb9).size (fun g e => ((unhide hrow1).lt g e).1)
      rw [show vints X ++ vints L = vints (X ++ L) by simp [vints]] at hrow2
      have hck2 := (unhide hck).under hba
      have hin2 := unhide hin L (unhide hXi) (by rw [unhide hln']; exact hXn)
      obtain ⟨t, ht⟩ := unhide hpl L
      have hXL := applyS_len l (X ++ L)
      rw [List.length_append, unhide hxn, unhide hln'] at hXL
      have hXLi : AllI (X ++ L) := fun y hy => (List.mem_append.1 hy).elim (unhide hci y) (unhide hXi y)
      obtain ⟨za, zc, rfl, -, hZ⟩ := own_lst hrow2 hXLi
      obtain ⟨zn, hzn⟩ : ∃ m, (X ++ L).length = m := ⟨_, rfl⟩
      have hznl : zn ≤ 40 := by rw [← hzn, List.length_append, unhide hxn, unhide hln']; omega
      rw [hzn] at hZ ⊢
      have hac := apply_any la ln lc l za zn zc (X ++ L) wa hck2.lst hZ (by omega) (unhide hsm) (unhide hto) (by omega)
      obtain ⟨AS, hAS⟩ : ∃ r, applyS l (X ++ L) = r := ⟨_, rfl⟩
      rw [hAS] at hac hin2 ht hXL
      clear hrow1 hXA hrow2 hg2 hb9 hba hX hck hZ hXLi hzn hAS cX
      replace hac := hide hac; replace hck2 := hide hck2; replace hin2 := hide hin2; replace ht := hide ht; replace hXL := hide hXL
      go_wp2_with fail
      refine (unhide hac).mono ?_
      rintro e wb ⟨v1, v2, rfl, htw, hb⟩
      have hck3 := (unhide hck2).under hb
      have hr1 := htw.r1
      obtain ⟨a1, c1, a2, c2, rfl, rfl, hA, -⟩ := htw.lst (unhide hin2).1 (unhide hin2).2
      have hac1 := own_cap hr1 rfl
      obtain ⟨an, han⟩ : ∃ m, AS.1.length = m := ⟨_, rfl⟩
      obtain ⟨bn, hbn⟩ : ∃ m, AS.2.length = m := ⟨_, rfl⟩
      simp only [han, hbn] at hA hac1 ⊢
      have hanl : an = on + t.length := by rw [← han, unhide ht, List.length_append, unhide hon]
      have hanb : an ≤ 40 := by have := (unhide hXL).2; rw [han] at this; omega
      have hAt := hA.take (k := on) (by omega)
      rw [show AS.1.take on = FA.2 by rw [unhide ht, List.take_append_of_le_length (by rw [unhide hon]; omega), ← unhide hon, List.take_length]] at hAt
      have hs := sameInts_blw oa on oc FA.2 a1 on c1 FA.2 wb hck3.out hAt (by omega) (by omega)
      rw [decide_eq_true rfl] at hs
      have g1 : decide ((an : Int) < (on : Int)) = false := by simp; omega
      have g2 : decide (an < on) = false := by simp; omega
      have g3 : (on : Int) ≤ (c1 : Int) := by omega
      have g4 : (0 : Int) ≤ (on : Int) := by omega
      clear hac hck2 htw hb hr1 hA hAt hin2 ht hXL han hbn hanl
      replace hs := hide hs; replace hck3 := hide hck3
      go_wp2_with fail
      refine (unhide hs).mono ?_
      rintro e wc ⟨rfl, hb⟩
      have hck4 := (unhide hck3).under hb
      clear hs hck3 hb
      replace hck4 := hide hck4
      go_wp2_with fail
      go_roundw
      case rel => exact ⟨k + 1, by omega, by go_num, unhide hck4⟩
      case measure => simp [intOf]; omega
    · have hz := hck.bel
      clear hck
      replace hz := hide hz
      go_wp2_with fail
      go_ret
      exact ⟨rfl, unhide hz⟩
end Go.Proofs.Ytfbgbbbfpkpfkaa
