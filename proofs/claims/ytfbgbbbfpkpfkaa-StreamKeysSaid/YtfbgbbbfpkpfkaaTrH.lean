/- Merged: XTrW XTrP XTrA XTrF XTrH -/
import Derived.Test.YtfbgbbbfpkpfkaaTr15
import Derived.Test.YtfbgbbbfpkpfkaaTr0
import Derived.Test.YtfbgbbbfpkpfkaaTr14
-- @@XTrW
/- StreamWaits: its walk. -/
namespace Go.Proofs.Ytfbgbbbfpkpfkaa
open Go.RowKit
theorem goodL12 {l : List (List Sub)} (h : GoodL l ((12 : Nat) : Int)) : (∀ x ∈ l, Small x) ∧ (∀ x ∈ l, ToI x) ∧ l.length ≤ 3 := ⟨goodL_small h, goodL_to (by decide) h, h.1⟩
set_option maxRecDepth 100000 in
set_option maxHeartbeats 8000000 in
theorem streamWaits_any (na : Option Addr) (nn nc : Nat) (N : List Int) (ga : Option Addr) (gn gc : Nat) (g : List Int) (w : World) (hN : Lst Enc.int w (fun b => b < w.heap.size) na nn N) (hN1 : nn ≤ nc) (hN2 : nc ≤ maxLen) (hG : Lst Enc.int w (fun b => b < w.heap.size) ga gn g) (hG1 : gn ≤ gc) (hG2 : gc ≤ maxLen) :
    Calls Try.prog 3 #[.slice na nn nc, .slice ga gn gc] w fun e w' => e = .returned (.bool true) ∧ Below w.heap.size w w' := by
  obtain ⟨nm, enm⟩ : ∃ m : Nat, (min (nn : Int) 60).toNat = m := ⟨_, rfl⟩
  have mnm : nm ≤ nn := by omega
  have mnc : nm ≤ nc := by omega
  have hif : (if (60 : Int) < (nn : Int) then (60 : Int) else (nn : Int)) = (nm : Int) := by split <;> omega
  have i60 : (0 : Int) ≤ (nm : Int) := by omega
  have i61 : (nm : Int) ≤ (nc : Int) := by omega
  replace enm := hide enm; replace hN := hide hN; replace hG := hide hG
  go_enter Try.func3, Try.ntmps3
  go_wp2_with fail
  refine (sanity_any _).mono ?_
  rintro e w1 ⟨rfl, hz1⟩
  have hr := made_any na nm nc (N.take nm) 12 w1 (((unhide hN).under hz1).take mnm) (by omega) (by decide) (by decide)
  have hG' := hide ((unhide hG).under hz1)
  clear hN hG
  replace hr := hide hr; replace hz1 := hide hz1
  go_wp2_with fail
  refine (unhide hr).mono ?_
  rintro e w2 ⟨la, lc, l, rfl, hl, hgl, hb2⟩
  have hz2 := hide ((unhide hz1).trans (hb2.mono (unhide hz1).size))
  have hG2' := (unhide hG').under hb2
  obtain ⟨hsm, hto, hl3⟩ := goodL12 hgl
  obtain ⟨ln, hln⟩ : ∃ m, l.length = m := ⟨_, rfl⟩
  rw [hln] at hl hl3 ⊢
  have hcc := cut_any ga gn gc g w2 hG2' (by omega)
  clear hr hz1 hb2 hG' hG2' hgl
  replace hcc := hide hcc; replace hl := hide hl; replace hsm := hide hsm; replace hto := hide hto; replace hln := hide hln
  go_wp2_with fail
  refine (unhide hcc).mono ?_
  rintro e w3 ⟨v, rfl, hown, hb⟩
  have hz3 := hide ((unhide hz2).trans (hb.mono (unhide hz2).size))
  have hl' := (unhide hl).under hb
  obtain ⟨ca, cc, rfl, -, hcl⟩ := own_lst hown (cutS_i64 g)
  have hcn := cutS_len g
  obtain ⟨X, hX⟩ : ∃ X, cutS g = X := ⟨_, rfl⟩
  rw [hX] at hcl hcn ⊢
  obtain ⟨xn, hxn⟩ : ∃ m, X.length = m := ⟨_, rfl⟩
  rw [hxn] at hcl hcn ⊢
  have hfc := fed_any la ln lc l ca xn cc X w3 hl' (unhide hsm) (unhide hto) hcl (by omega) (by omega)
  have hwt := waits_all l X (startS l) (Waits.start l)
  have hfi := feedAll_len l X (startS l) (startS_len l)
  obtain ⟨FA, hFA⟩ : ∃ r, feedAll l (startS l) X = r := ⟨_, rfl⟩
  rw [hFA] at hfc hwt hfi
  clear hcc hz2 hl hown hcl hb hX hFA
  have hl := hide hl'
  clear hl'
  replace hfc := hide hfc; replace hwt := hide hwt; replace hfi := hide hfi; replace hxn := hide hxn
  go_wp2_with fail
  refine (unhide hfc).mono ?_
  rintro e w4 ⟨fa, fc, v, rfl, hst, hown, hb⟩
  obtain ⟨oa, oc, hv⟩ := own_shape hown
  subst hv
  have hz4 := (unhide hz3).trans (hb.mono (unhide hz3).size)
  have hl4 := (unhide hl).under hb
  obtain ⟨b7x, V7, hb7, hV7, st⟩ := (St.start w4).new (Obj.cells #[.slice fa ln fc] 29)
  have hbb := st.below
  have k7 := st.get 0 rfl
  have hz7 := hz4.trans (hbb.mono hz4.size)
  have hl7 := hl4.under hbb
  have hst7 := hst.under hbb
  clear st hfc hz3 hl hst hown hb hz4 hl4 hbb
  replace hb7 := hide hb7; replace hV7 := hide hV7; replace hz7 := hide hz7; replace hl7 := hide hl7; replace hst7 := hide hst7; replace k7 := hide k7
  go_upto_region 4 with fail
  rw [unhide hV7]
  try rw [unhide hb7]
  clear hV7 hb7
  have d7 := blk_cell (unhide k7)
  have t1 : ((ln : Int) != (ln : Int)) = false := by simp
  go_wp2_with fail
  clear d7 t1
  go_loopw [34] (fun v wr => ∃ k : Nat, k ≤ ln ∧ v = .int .i64 (k : Int) ∧ Below V7.heap.size V7 wr) (fun v _ => ln - (intOf v).toNat)
  case atStart => exact ⟨0, by omega, rfl, Below.refl _ _⟩
  case round =>
    obtain ⟨k, hk, rfl, hbw⟩ := hrel
    obtain ⟨wo, rfl⟩ : ∃ wo : World, wo = wr := ⟨_, rfl⟩
    by_cases hlt : k < ln
    · obtain ⟨bL, oL, x, xa, xn', xc, rfl, _, hx, _, _, hLx, cL⟩ := lst_list ((unhide hl7).under hbw) hlt
      obtain ⟨bS, oS, s, a1, n1, c1, a2, n2, c2, rfl, _, hs, ⟨_, _, p1⟩, ⟨_, _, p2⟩, d1, d2⟩ := lst_stg ((unhide hst7).under hbw) hlt
      obtain ⟨w1', w2'⟩ := (unhide hwt).at_ k x s hx hs
      have q1 := p1.1
      have q2 := p2.1
      have dk := blk_cell (kept' hbw (unhide k7))
      have hwc := fun w h => window_any xa xn' xc x w h (unhide hsm x (List.mem_of_getElem? hx))
      obtain ⟨M, hM⟩ : ∃ M, winS x = M := ⟨_, rfl⟩
      rw [hM] at w1'
      simp only [hM] at hwc
      obtain ⟨b10x, V10, hb10, hV10, st⟩ := (St.start wo).new (Obj.cells #[.slice a1 n1 c1, .slice a2 n2 c2] 33)
      have hbb := st.below
      have y1 := st.cell 0 rfl 0 (v := .slice a1 n1 c1) rfl
      have y2 := st.cell 0 rfl 1 (v := .slice a2 n2 c2) rfl
      have y3 := cell_under cL hbb
      have hb10w := hbw.trans (hbb.mono hbw.size)
      have hLx2 := hide (hLx.under hbb)
      have i1 : (0 : Int) ≤ (k : Int) := by omega
      have i2 : (k : Int) < (ln : Int) := by omega
      have t1 : decide ((M : Int) ≤ (n2 : Int)) = false := by simp; omega
      have t2 : decide ((2 : Int) < (n1 : Int)) = false := by simp; omega
      have t3 : decide (M ≤ n2) = false := by simp; omega
      have t4 : decide (2 < n1) = false := by simp; omega
      clear st p1 p2 q1 q2 w1' w2' hx hs hM hLx hbb
      replace hb10 := hide hb10; replace hV10 := hide hV10; replace y1 := hide y1; replace y2 := hide y2; replace y3 := hide y3; replace hb10w := hide hb10w; replace hwc := hide hwc; replace hbw := hide hbw
      go_upto_region 10 with fail
      rw [unhide hV10]
      try rw [unhide hb10]
      clear hV10 hb10 cL d1 d2 dk
      have z1 := fun x : Ext V10 => x.cell (unhide y1)
      have z2 := fun x : Ext V10 => x.cell (unhide y2)
      have z3 := fun x : Ext V10 => x.cell (unhide y3)
      have hwx := fun x : Ext V10 => (unhide hwc) x.get ((unhide hLx2).under x.le)
      clear y1 y2 y3 hwc hLx2
      replace hwx := hide hwx
      refine wp_region_ext (by rfl) (by kernel_rfl) ?_
      repeat (quiet_step ((go_at_call 13; with_reducible exact Ext.calls (unhide hwx _))))
      refine wpQuiet_nil ?_
      rintro w' ⟨y, rfl⟩
      have hz' := (unhide hb10w).trans (y.le.mono (unhide hb10w).size)
      clear z1 z2 z3 hwx hb10w hbw
      obtain ⟨wz, hwz⟩ : ∃ wz, wz = y.get := ⟨_, rfl⟩
      rw [← hwz] at hz' ⊢
      clear hwz y
      replace hz' := hide hz'
      go_wp2_with fail
      go_roundw
      case rel => exact ⟨k + 1, by omega, by go_num, unhide hz'⟩
      case measure => simp [intOf]; omega
    · have hzz := hide ((unhide hz7).trans (hbw.mono (unhide hz7).size))
      clear hbw
      go_wp2_with fail
      go_ret
      exact ⟨rfl, unhide hzz⟩
end Go.Proofs.Ytfbgbbbfpkpfkaa
-- @@XTrP
/- Streams: what comes out of all calls is what Apply returns; in plain Lean. -/
namespace Go.Proofs.Ytfbgbbbfpkpfkaa
open Go.RowKit
theorem stepL_fuel (x : List Sub) (g : List Int) : ∀ f f' i, g.length ≤ f + i → g.length ≤ f' + i → stepL x g f i = stepL x g f' i := by
  intro f
  induction f with
  | zero => intro f' i h _; rw [stepL_end x g 0 i (by omega), stepL_end x g f' i (by omega)]
  | succ f ih =>
    intro f' i h h'
    by_cases hi : i < g.length
    · cases f' with
      | zero => omega
      | succ f' =>
        have hn := nextI_gt x g i
        rw [stepL, stepL, if_pos hi, if_pos hi, ih f' (nextI x g i) (by omega) (by omega)]
    · rw [stepL_end x g _ i (by omega), stepL_end x g _ i (by omega)]
/-- the results from a glyph on -/
def OF (x : List Sub) (g : List Int) (i : Nat) : List Int := outS x g (stepL x g (g.length - i) i)
theorem OF_end (x : List Sub) (g : List Int) (i : Nat) (h : g.length ≤ i) : OF x g i = [] := by
  unfold OF
  rw [stepL_end x g _ i h]
  rfl
theorem OF_step (x : List Sub) (g : List Int) (i : Nat) (h : i < g.length) : OF x g i = (if 0 ≤ matchS x g i then toS x (matchS x g i) else g.getD i 0) :: OF x g (nextI x g i) := by
  have hn := nextI_gt x g i
  unfold OF
  rw [show g.length - i = (g.length - i - 1) + 1 by omega, stepL, if_pos h]
  unfold outS
  rw [List.map_cons]
  congr 1
  rw [stepL_fuel x g (g.length - i - 1) (g.length - nextI x g i) (nextI x g i) (by omega) (by omega)]
theorem OF_zero (x : List Sub) (g : List Int) : OF x g 0 = outS x g (stepsS x g) := by unfold OF stepsS; rw [Nat.sub_zero]

theorem findSub_congr {g g' : List Int} {i i' : Int} : ∀ (x : List Sub) (k : Nat), (∀ s ∈ x, subAt s g i = subAt s g' i') → findSub g i x k = findSub g' i' x k := by
  intro x
  induction x with
  | nil => intro k _; rfl
  | cons s x ih =>
    intro k h
    rw [findSub, findSub, h s (by simp), ih (k + 1) (fun t ht => h t (by simp [ht]))]
/-- a stage between glyphs -/
def stA (p : List Int) (i : Nat) : Stg := (last2 (p.take i), p.drop i)
theorem last2_take (p : List Int) (i : Nat) (h : i ≤ p.length) : last2 (p.take i) ++ p.drop i = p.drop (i - 2) ∧ (last2 (p.take i)).length = i - (i - 2) := by
  unfold last2
  rw [List.length_take, Nat.min_eq_left h]
  constructor
  · have h1 : p.drop (i - 2) = (p.take i ++ p.drop i).drop (i - 2) := by rw [List.take_append_drop]
    rw [h1, List.drop_append_of_le_length (by rw [List.length_take]; omega)]
  · rw [List.length_drop, List.length_take]
    omega
theorem subAt_stA {s : Sub} {p r : List Int} {i : Nat} (hi : i ≤ p.length) (hb : s.1.length ≤ 2) (hw : s.2.1.length + s.2.2.1.length ≤ p.length - i ∨ r = []) :
    subAt s (last2 (p.take i) ++ p.drop i) ((last2 (p.take i)).length : Nat) = subAt s (p ++ r) (i : Nat) := by
  obtain ⟨e1, e2⟩ := last2_take p i hi
  rw [e1, e2, Bool.eq_iff_iff, subAt_iff, subAt_iff]
  have hl : (p.drop (i - 2)).length = p.length - (i - 2) := List.length_drop
  have hall := allOf_len s
  constructor
  · rintro ⟨h1, h2, h3, h4⟩
    refine ⟨h1, by omega, by rw [List.length_append]; omega, fun k hk => ?_⟩
    have h5 := h4 k hk
    rw [List.getElem?_drop] at h5
    rw [List.getElem?_append_left (by omega), ← h5]
    congr 1
    omega
  · rintro ⟨h1, h2, h3, h4⟩
    rw [List.length_append] at h3
    have h6 : i + s.2.1.length + s.2.2.1.length ≤ p.length := by
      rcases hw with hw | rfl
      · omega
      · simpa using h3
    refine ⟨h1, by omega, by omega, fun k hk => ?_⟩
    have h5 := h4 k hk
    rw [List.getElem?_append_left (by omega)] at h5
    rw [List.getElem?_drop, ← h5]
    congr 1
    omega
theorem decK_stA {x : List Sub} {p r : List Int} {i : Nat} (hi : i < p.length) (hb : ∀ s ∈ x, s.1.length ≤ 2) (hw : winS x ≤ p.length - i ∨ r = []) : decK x (stA p i) = matchS x (p ++ r) (i : Nat) := by
  obtain ⟨e1, e2⟩ := last2_take p i (by omega)
  unfold decK stA matchS
  simp only
  rw [if_pos (by rw [e1, e2, List.length_drop]; omega), if_pos (by rw [List.length_append]; omega)]
  refine findSub_congr x 0 (fun s hs => subAt_stA (by omega) (hb s hs) ?_)
  rcases hw with hw | hw
  · exact .inl (Nat.le_trans (winS_mem hs) hw)
  · exact .inr hw
theorem dec_stA {x : List Sub} {p r : List Int} {i : Nat} (hi : i < p.length) (hb : ∀ s ∈ x, s.1.length ≤ 2) (hw : winS x ≤ p.length - i ∨ r = []) :
    decO x (stA p i) = (if 0 ≤ matchS x (p ++ r) i then toS x (matchS x (p ++ r) i) else (p ++ r).getD i 0) ∧ decS x (stA p i) = stA p (nextI x (p ++ r) i) ∧ nextI x (p ++ r) i ≤ p.length := by
  have hk := decK_stA (r := r) hi hb hw
  obtain ⟨e1, e2⟩ := last2_take p i (by omega)
  have hdl : (stA p i).2.length = p.length - i := by unfold stA; rw [List.length_drop]
  have hN : decN x (stA p i) = nextI x (p ++ r) i - i ∧ nextI x (p ++ r) i ≤ p.length := by
    unfold decN nextI
    rw [hk]
    rcases matchS_inv (x := x) (g := (stA p i).1 ++ (stA p i).2) (i := (((stA p i).1.length : Nat) : Int)) with h | ⟨k, s, h1, h2, h3, _⟩
    · have : matchS x (p ++ r) i = -1 := by rw [← hk]; exact h
      rw [this]
      simp
      omega
    · have h4 : matchS x (p ++ r) i = k := by rw [← hk]; exact h1
      rw [h4, if_pos (by omega), if_pos (by omega)]
      have hf : fromL x (k : Int) = s.2.1.length := by unfold fromL; rw [Int.toNat_natCast, h2]
      rw [hf, hdl]
      have h5 := (subAt_iff _ _ _).1 h3
      unfold stA at h5
      simp only at h5
      rw [e1, e2, List.length_drop] at h5
      omega
  have hgt := nextI_gt x (p ++ r) i
  refine ⟨?_, ?_, hN.2⟩
  · unfold decO
    rw [hk]
    split
    · rfl
    · unfold stA
      simp only
      rw [List.getD_eq_getElem?_getD, List.getD_eq_getElem?_getD, List.getElem?_drop, Nat.add_zero, List.getElem?_append_left hi]
  · unfold decS
    rw [hN.1]
    generalize nextI x (p ++ r) i = j at *
    unfold stA
    simp only [Prod.mk.injEq]
    constructor
    · have h1 : last2 (p.take i) ++ (p.drop i).take (j - i) = (p.drop (i - 2)).take (j - (i - 2)) := by
        rw [← e1, List.take_append (l₁ := last2 (p.take i)) (l₂ := p.drop i), e2, List.take_of_length_le (l := last2 (p.take i)) (by rw [e2]; omega), show j - (i - 2) - (i - (i - 2)) = j - i by omega]
      rw [h1]
      unfold last2
      rw [List.length_take, List.length_drop, List.length_take, List.take_drop, show i - 2 + (j - (i - 2)) = j by omega, List.drop_drop]
      congr 1
      omega
    · rw [List.drop_drop]
      congr 1
      omega
theorem loop_one {x : List Sub} {p r : List Int} (hb : ∀ s ∈ x, s.1.length ≤ 2) (M : Nat) (hM1 : 1 ≤ M) (hM : winS x ≤ M ∨ r = []) : ∀ (f i : Nat), i ≤ p.length → ∃ i', i ≤ i' ∧ i' ≤ p.length ∧ (loopS M x (feedS []) f (stA p i) []).1 = (stA p i', []) ∧ OF x (p ++ r) i = (loopS M x (feedS []) f (stA p i) []).2 ++ OF x (p ++ r) i' ∧ (p.length - i ≤ f → p.length - i' < M) := by
  intro f
  induction f with
  | zero => intro i hi; exact ⟨i, Nat.le_refl _, hi, rfl, rfl, fun h => by omega⟩
  | succ f ih =>
    intro i hi
    have hdl : (stA p i).2.length = p.length - i := by unfold stA; rw [List.length_drop]
    by_cases hg : M ≤ (stA p i).2.length
    · obtain ⟨d1, d2, d3⟩ := dec_stA (x := x) (r := r) (i := i) (p := p) (by omega) hb (by rcases hM with h | h; exact .inl (by omega); exact .inr h)
      have hgt := nextI_gt x (p ++ r) i
      obtain ⟨i', h1, h2, h3, h4, h5⟩ := ih (nextI x (p ++ r) i) d3
      refine ⟨i', by omega, h2, ?_, ?_, fun h => h5 (by omega)⟩
      · rw [loopS, if_pos hg, d2]
        exact h3
      · rw [loopS, if_pos hg, d2, d1, OF_step _ _ _ (by rw [List.length_append]; omega), h4]
        rfl
    · refine ⟨i, Nat.le_refl _, hi, ?_, ?_, fun _ => by omega⟩
      · rw [loopS, if_neg hg]
      · rw [loopS, if_neg hg]
        simp
theorem feedS_one (x : List Sub) (s : Stg) (y : Int) : feedS [x] [s] y = ((loopS (winS x) x (feedS []) (s.2.length + 1) (s.1, s.2 ++ [y]) []).1.1 :: (loopS (winS x) x (feedS []) (s.2.length + 1) (s.1, s.2 ++ [y]) []).1.2, (loopS (winS x) x (feedS []) (s.2.length + 1) (s.1, s.2 ++ [y]) []).2) := rfl
theorem feed_one {x : List Sub} (hb : ∀ s ∈ x, s.1.length ≤ 2) : ∀ (rest p : List Int) (i : Nat), i ≤ p.length → ∃ i', i' ≤ (p ++ rest).length ∧ (feedAll [x] [stA p i] rest).1 = [stA (p ++ rest) i'] ∧ OF x (p ++ rest) i = (feedAll [x] [stA p i] rest).2 ++ OF x (p ++ rest) i' := by
  intro rest
  induction rest with
  | nil =>
    intro p i hi
    rw [List.append_nil]
    exact ⟨i, hi, rfl, by simp [feedAll]⟩
  | cons y rest ih =>
    intro p i hi
    have hst : ((stA p i).1, (stA p i).2 ++ [y]) = stA (p ++ [y]) i := by
      unfold stA
      rw [List.take_append_of_le_length hi, List.drop_append_of_le_length hi]
    have hpr : p ++ y :: rest = (p ++ [y]) ++ rest := by simp
    obtain ⟨i1, h1, h2, h3, h4, _⟩ := loop_one (x := x) (p := p ++ [y]) (r := rest) hb (winS x) (winS_pos x) (.inl (Nat.le_refl _)) ((stA p i).2.length + 1) i (by rw [List.length_append]; omega)
    obtain ⟨i2, g1, g2, g3⟩ := ih (p ++ [y]) i1 h2
    have hf : feedS [x] [stA p i] y = ([stA (p ++ [y]) i1], (loopS (winS x) x (feedS []) ((stA p i).2.length + 1) (stA (p ++ [y]) i) []).2) := by
      rw [← hst] at h3 ⊢
      rw [feedS_one, h3]
    rw [hpr]
    refine ⟨i2, g1, ?_, ?_⟩
    · simp only [feedAll]
      rw [hf]
      exact g2
    · simp only [feedAll]
      rw [hf, h4, g3]
      exact (List.append_assoc _ _ _).symm
theorem all_one {x : List Sub} (hb : ∀ s ∈ x, s.1.length ≤ 2) (g : List Int) : allS [x] g = outS x g (stepsS x g) := by
  have h0 : startS [x] = [stA [] 0] := rfl
  obtain ⟨i, h1, h2, h3⟩ := feed_one hb g [] 0 (Nat.le_refl _)
  rw [List.nil_append] at h1 h2 h3
  obtain ⟨i', _, g2, g3, g4, g5⟩ := loop_one (x := x) (p := g) (r := []) hb 1 (Nat.le_refl _) (.inr rfl) (stA g i).2.length i h1
  rw [List.append_nil] at g4
  have hdl : (stA g i).2.length = g.length - i := by unfold stA; rw [List.length_drop]
  have hi' : i' = g.length := by have := g5 (by omega); omega
  unfold allS
  rw [h0, h2]
  simp only [endS]
  rw [List.append_nil, ← OF_zero, h3, g4, hi', OF_end x g _ (Nat.le_refl _), List.append_nil]
theorem foldl_fst (l : List (List Sub)) : ∀ (a b c : List Int), (l.foldl (fun st x => apply1 x st) (a, b)).1 = (l.foldl (fun st x => apply1 x st) (a, c)).1 := by
  induction l with
  | nil => intro a b c; rfl
  | cons x l ih => intro a b c; exact ih _ _ _
theorem allS_nil (g : List Int) : allS [] g = g := by
  have h : ∀ g : List Int, feedAll [] [] g = ([], g) := by
    intro g
    induction g with
    | nil => rfl
    | cons y g ih => simp [feedAll, feedS, ih]
  unfold allS
  rw [show startS [] = [] from rfl, h]
  simp [endS]
/-- StreamApplies -/
theorem applies_plain : ∀ (l : List (List Sub)) (g : List Int), (∀ x ∈ l, ∀ s ∈ x, s.1.length ≤ 2) → allS l g = (applyS l g).1 := by
  intro l
  induction l with
  | nil => intro g _; rw [allS_nil]; rfl
  | cons x xs ih =>
    intro g h
    rw [show x :: xs = [x] ++ xs from rfl, allS_chain, all_one (h x (by simp)), ih _ (fun y hy => h y (by simp [hy]))]
    unfold applyS
    rw [List.foldl_append]
    exact foldl_fst xs _ _ _
/-- StreamPrefix -/
theorem prefix_plain (l : List (List Sub)) (g m : List Int) (h : ∀ x ∈ l, ∀ s ∈ x, s.1.length ≤ 2) : ∃ t, (applyS l (g ++ m)).1 = (feedAll l (startS l) g).2 ++ t := by
  rw [← applies_plain l (g ++ m) h]
  unfold allS
  rw [feedAll_app]
  exact ⟨_, List.append_assoc _ _ _⟩
end Go.Proofs.Ytfbgbbbfpkpfkaa
-- @@XTrA
/- StreamApplies: its walk. -/
namespace Go.Proofs.Ytfbgbbbfpkpfkaa
open Go.RowKit
theorem goodL_check {l : List (List Sub)} {gm : Int} (h : GoodL l gm) : checkS l gm = 0 := by
  have hm : many l = false := by
    unfold many
    rw [List.any_eq_false]
    intro x hx
    have := (h.2 x hx).1
    simp
    omega
  refine checkS_ok (by have := h.1; omega) hm (fun k x hx => okLk_of (fun j s hs => ?_))
  obtain ⟨h1, h2, h3, h4, h5⟩ := (h.2 x (List.mem_of_getElem? hx)).2 s (List.mem_of_getElem? hs)
  refine okSub_yes h1 h5 ?_
  unfold okAll allOf
  rw [List.all_eq_true]
  intro y hy
  rcases List.mem_append.1 hy with hy | hy
  · exact decide_eq_true (h2 y hy)
  · rcases List.mem_append.1 hy with hy | hy
    · exact decide_eq_true (h3 y hy)
    · exact decide_eq_true (h4 y hy)
theorem goodL_back {l : List (List Sub)} {gm : Int} (h : GoodL l gm) : ∀ x ∈ l, ∀ s ∈ x, s.1.length ≤ 2 := fun x hx s hs => ((h.2 x hx).2 s hs).1.2.2.1
theorem wpList_unguard {P : Program} {ops : Array Oper} {Q : Exit → Act → World → Prop} {a : Act} {w : World} {rest : List Oper} {o : Oper} (hw : Region.wanted o (yielded ops a.tmps) = true) (h : wpList P ops Q ({ o with guard := none } :: rest) a w) : wpList P ops Q (o :: rest) a w := by
  unfold wpList at h ⊢
  rw [if_pos hw]
  rw [if_pos (by simp [Region.wanted])] at h
  exact h
set_option maxRecDepth 100000 in
set_option maxHeartbeats 8000000 in
theorem streamApplies_any (na : Option Addr) (nn nc : Nat) (N : List Int) (ga : Option Addr) (gn gc : Nat) (g : List Int) (w : World) (hN : Lst Enc.int w (fun b => b < w.heap.size) na nn N) (hN1 : nn ≤ nc) (hN2 : nc ≤ maxLen) (hG : Lst Enc.int w (fun b => b < w.heap.size) ga gn g) (hG1 : gn ≤ gc) (hG2 : gc ≤ maxLen) :
    Calls Try.prog 8 #[.slice na nn nc, .slice ga gn gc] w fun e w' => e = .returned (.bool true) ∧ Below w.heap.size w w' := by
  obtain ⟨nm, enm⟩ : ∃ m : Nat, (min (nn : Int) 60).toNat = m := ⟨_, rfl⟩
  have mnm : nm ≤ nn := by omega
  have mnc : nm ≤ nc := by omega
  have hif : (if (60 : Int) < (nn : Int) then (60 : Int) else (nn : Int)) = (nm : Int) := by split <;> omega
  have i60 : (0 : Int) ≤ (nm : Int) := by omega
  have i61 : (nm : Int) ≤ (nc : Int) := by omega
  replace enm := hide enm; replace hN := hide hN; replace hG := hide hG
  go_enter Try.func8, Try.ntmps8
  go_wp2_with fail
  refine (sanity_any _).mono ?_
  rintro e w1 ⟨rfl, hz1⟩
  have hr := made_any na nm nc (N.take nm) 12 w1 (((unhide hN).under hz1).take mnm) (by omega) (by decide) (by decide)
  have hG' := hide ((unhide hG).under hz1)
  clear hN hG
  replace hr := hide hr; replace hz1 := hide hz1
  go_wp2_with fail
  refine (unhide hr).mono ?_
  rintro e w2 ⟨la, lc, l, rfl, hl, hgl, hb2⟩
  have hz2 := hide ((unhide hz1).trans (hb2.mono (unhide hz1).size))
  have hG2' := (unhide hG').under hb2
  obtain ⟨hsm, hto, hl3⟩ := goodL12 hgl
  have hck : checkS l 12 = 0 := goodL_check hgl
  have hbk2 := goodL_back hgl
  obtain ⟨ln, hln⟩ : ∃ m, l.length = m := ⟨_, rfl⟩
  rw [hln] at hl hl3 ⊢
  have hcc := cut_any ga gn gc g w2 hG2' (by omega)
  clear hr hz1 hb2 hG' hG2' hgl
  replace hcc := hide hcc; replace hl := hide hl; replace hsm := hide hsm; replace hto := hide hto; replace hln := hide hln; replace hck := hide hck; replace hbk2 := hide hbk2
  go_wp2_with fail
  refine (unhide hcc).mono ?_
  rintro e w3 ⟨v, rfl, hown, hb⟩
  have hz3 := hide ((unhide hz2).trans (hb.mono (unhide hz2).size))
  have hl' := (unhide hl).under hb
  obtain ⟨ca, cc, rfl, -, hcl⟩ := own_lst hown (cutS_i64 g)
  have hcn := cutS_len g
  have hci : AllI (cutS g) := cutS_i64 g
  obtain ⟨X, hX⟩ : ∃ X, cutS g = X := ⟨_, rfl⟩
  rw [hX] at hcl hcn hci ⊢
  have hin := applyS_i64 (unhide hto) hci (by omega)
  have hAn := applyS_len l X
  have hpl := applies_plain l X (unhide hbk2)
  obtain ⟨xn, hxn⟩ : ∃ m, X.length = m := ⟨_, rfl⟩
  rw [hxn] at hcl hcn hAn ⊢
  have hac := apply_any la ln lc l ca xn cc X w3 hl' hcl (by omega) (unhide hsm) (unhide hto) (by omega)
  have hfc := fun w h1 h2 => fed_any la ln lc l ca xn cc X w h1 (unhide hsm) (unhide hto) h2 (by omega) (by omega)
  have hfi := feedAll_len l X (startS l) (startS_len l)
  have htl := feedAll_tot l X (startS l) (startS_len l)
  have hbk := feedAll_back l 300000 (by omega) X (startS l) (startS_len l) (back_start _ _)
  rw [tot_start, hxn] at htl
  unfold allS at hpl
  obtain ⟨FA, hFA⟩ : ∃ r, feedAll l (startS l) X = r := ⟨_, rfl⟩
  simp only [hFA] at hfc hfi htl hbk hpl
  obtain ⟨AS, hAS⟩ : ∃ r, applyS l X = r := ⟨_, rfl⟩
  rw [hAS] at hac hin hAn hpl
  clear hcc hz2 hl hown hb hX hFA hAS hci hbk2
  have hl := hide hl'
  have hcl := hide hcl
  clear hl'
  replace hac := hide hac; replace hfc := hide hfc; replace hfi := hide hfi; replace hxn := hide hxn; replace hin := hide hin; replace hAn := hide hAn; replace hpl := hide hpl; replace htl := hide htl; replace hbk := hide hbk
  go_wp2_with fail
  refine (unhide hac).mono ?_
  rintro e w4 ⟨v1, v2, rfl, htw, hb⟩
  obtain ⟨a1, c1, a2, c2, rfl, rfl, hA, -⟩ := htw.lst (unhide hin).1 (unhide hin).2
  obtain ⟨an, han⟩ : ∃ m, AS.1.length = m := ⟨_, rfl⟩
  obtain ⟨bn, hbn⟩ : ∃ m, AS.2.length = m := ⟨_, rfl⟩
  simp only [han, hbn] at hA ⊢
  have hz4 := hide ((unhide hz3).trans (hb.mono (unhide hz3).size))
  have hl4 := (unhide hl).under hb
  have hcl4 := (unhide hcl).under hb
  have hfc' := hide (unhide hfc w4 hl4 hcl4)
  clear hac htw hz3 hl hcl hcl4 hb hfc
  replace hA := hide hA; replace hl4 := hide hl4; replace han := hide han
  go_wp2_with fail
  refine (unhide hfc').mono ?_
  rintro e w5 ⟨fa, fc, v, rfl, hst, hown, hb⟩
  obtain ⟨oa, oc, hv⟩ := own_shape hown
  subst hv
  obtain ⟨B, hB⟩ : ∃ B, w4.heap.size = B := ⟨_, rfl⟩
  have hl5 := (unhide hl4).under hb
  rw [hB] at hown hb
  have hAB := unhide hA
  rw [hB] at hAB
  have hB5 : B ≤ w5.heap.size := Nat.le_trans (Nat.le_of_eq hB.symm) hb.size
  obtain ⟨b9x, V9, hb9, hV9, st⟩ := (St.start w5).new (Obj.cells #[.slice fa ln fc] 29)
  have hbb := st.below
  have k9 := st.get 0 rfl
  have hb9B := hb.trans (hbb.mono hB5)
  have hl9 := hl5.under hbb
  have hst9 := hst.under hbb
  have hown9 := own_belowb hown hbb
  clear st hfc' hl4 hA hst hown hb hl5 hbb hB5
  replace hb9 := hide hb9; replace hV9 := hide hV9; replace hb9B := hide hb9B; replace hst9 := hide hst9; replace k9 := hide k9; replace hown9 := hide hown9; replace hAB := hide hAB; replace hB := hide hB
  go_upto_region 5 with fail
  rw [unhide hV9]
  try rw [unhide hb9]
  clear hV9 hb9
  have d9 := blk_cell (unhide k9)
  have hcc := check_any la ln lc l 12 V9 hl9 (by omega) (unhide hsm)
  rw [unhide hck] at hcc
  replace hcc := hide hcc; replace hl9 := hide hl9
  go_wp2_with fail
  refine (unhide hcc).mono ?_
  rintro e w6 ⟨rfl, hb⟩
  have hb6B := (unhide hb9B).trans (hb.mono (Nat.le_trans (Nat.le_of_eq (unhide hB).symm) (unhide hb9B).size))
  have hl6 := (unhide hl9).under hb
  have hst6 := (unhide hst9).under hb
  have hown6 := own_belowb (unhide hown9) hb
  have d6 := blk_cell (kept' hb (unhide k9))
  have hcc6 := end_any la ln lc l fa fc FA.1 w6 hl6 (unhide hsm) (unhide hto) hst6 (by omega) (unhide hbk) (by have := unhide htl; unfold tot at *; simp only [List.length_nil]; omega)
  clear hcc hb9B hl9 hst9 hown9 hl6 hst6 hb d9
  replace hcc6 := hide hcc6; replace hb6B := hide hb6B; replace hown6 := hide hown6
  go_wp2_with fail
  refine (unhide hcc6).mono ?_
  rintro e w7 ⟨ea, ec, rfl, hEl, hEn, hb⟩
  have hb7B := (unhide hb6B).trans (hb.mono (Nat.le_trans (Nat.le_of_eq (unhide hB).symm) (unhide hb6B).size))
  have hown7 := own_belowb (unhide hown6) hb
  have hB7 : B ≤ w7.heap.size := Nat.le_trans (Nat.le_of_eq (unhide hB).symm) hb7B.size
  obtain ⟨en, hen⟩ : ∃ m, (endS l FA.1).length = m := ⟨_, rfl⟩
  rw [hen] at hEl hEn ⊢
  obtain ⟨on, hon⟩ : ∃ m, FA.2.length = m := ⟨_, rfl⟩
  rw [hon] at hown7 ⊢
  have hon2 : on ≤ 20 := by have := unhide htl; unfold tot at this; omega
  clear hcc6 hb6B hown6 hb d6
  replace hb7B := hide hb7B; replace hown7 := hide hown7; replace hEl := hide hEl; replace hen := hide hen; replace hon := hide hon
  go_wp2_with (at_builtin; refine wpList_unguard (by first | rfl | simp [Region.wanted, yielded]) ?_; refine wpList_append_ints rfl _ _ rfl B _ _ _ rfl (unhide hown7) _ _ _ _ _ rfl (unhide hEl) ?d1 hB7 ?_)
  case d1 => omega
  intro v' w8 hown8 hg8
  have hb8B := Below.grown (unhide hb7B) hg8 hB7 (fun g e => ((unhide hown7).lt g e).1)
  have hA8 := ((unhide hAB).below hb8B).wide (S' := fun b => b < w8.heap.size) (fun b (hb : b < B) => Nat.lt_of_lt_of_le hb (Nat.le_trans (Nat.le_of_eq (unhide hB).symm) hb8B.size))
  rw [show vints FA.2 ++ vints (endS l FA.1) = vints AS.1 by rw [← unhide hpl]; simp [vints]] at hown8
  obtain ⟨va, vc, rfl, hve, hvl⟩ := own_lst hown8 (unhide hin).1
  have hzz := (unhide hz4).trans ((by rw [unhide hB]; exact hb8B : Below w4.heap.size w4 w8).mono (unhide hz4).size)
  rw [unhide han] at hvl ⊢
  have hs := sameInts_blw va an vc AS.1 a1 an c1 AS.1 w8 hvl hA8 (by have := (unhide hAn).2; rw [unhide han] at this; omega) (by have := (unhide hAn).2; rw [unhide han] at this; omega)
  rw [decide_eq_true rfl] at hs
  clear hb7B hown7 hEl hg8 hb8B hA8 hown8 hvl hAB
  replace hs := hide hs; replace hzz := hide hzz
  go_wp2_with fail
  refine (unhide hs).mono ?_
  rintro e w9 ⟨rfl, hb⟩
  have hze := (unhide hzz).trans (hb.mono (unhide hzz).size)
  clear hs hzz hb
  replace hze := hide hze
  go_wp2_with fail
  go_ret
  exact ⟨rfl, unhide hze⟩
end Go.Proofs.Ytfbgbbbfpkpfkaa
-- @@XTrF
/- fed, with where the stages lie. -/
namespace Go.Proofs.Ytfbgbbbfpkpfkaa
open Go.RowKit
set_option maxRecDepth 100000 in
set_option maxHeartbeats 4000000 in
theorem fed2_any (la : Option Addr) (ln lc : Nat) (l : List (List Sub)) (ga : Option Addr) (gn gc : Nat) (g : List Int) (w : World) (hll : Lst Enc.lk w (fun b => b < w.heap.size) la ln l) (hsm : ∀ x ∈ l, Small x) (hto : ∀ x ∈ l, ToI x) (hg : Lst Enc.int w (fun b => b < w.heap.size) ga gn g) (hn : ln ≤ 1000000) (hgn : gn ≤ 100000) :
    Calls Try.prog 12 #[.slice la ln lc, .slice ga gn gc] w fun e w' => ∃ a c v, e = .returned (.tuple #[.agg #[.slice a ln c], v]) ∧ Lst Enc.stg w' (fun b => w.heap.size ≤ b ∧ v.ownBlock ≠ some b ∧ b < w'.heap.size) a ln (feedAll l (startS l) g).1 ∧ w'.ownsRow w.heap.size 3 1 v (feedAll l (startS l) g).2.length (vints (feedAll l (startS l) g).2) ∧ Below w.heap.size w w' := by
  have hln := hll.1
  have hgl := hg.1
  obtain ⟨B, hB⟩ : ∃ B, w.heap.size = B := ⟨_, rfl⟩
  obtain ⟨b4x, V4, hb4, hV4, st⟩ := (St.start w).new (Obj.cells #[nilS] 29)
  have hz := st.below
  have k4 := st.get 0 rfl
  have hge4 : B ≤ b4x := by omega
  have hsc := start_any la ln lc V4 hn
  clear st
  rw [hB] at hz
  replace hln := hide hln; replace hgl := hide hgl; replace hb4 := hide hb4; replace hV4 := hide hV4; replace hz := hide hz; replace k4 := hide k4; replace hsc := hide hsc; replace hll := hide hll; replace hg := hide hg; replace hB := hide hB; replace hsm := hide hsm; replace hto := hide hto
  go_enter Try.func12, Try.ntmps12
  go_upto_region 1 with fail
  rw [unhide hV4, unhide hb4]
  clear hV4 hb4
  obtain ⟨b4, rfl⟩ : ∃ b : Nat, b = b4x := ⟨_, rfl⟩
  go_wp2_with fail
  refine (unhide hsc).mono ?_
  rintro e w1 ⟨a0, rfl, hst, hb⟩
  have hBV : B ≤ V4.heap.size := by rw [← unhide hB]; have := (unhide hz).size; exact this
  have hz1 := (unhide hz).trans (hb.mono hBV)
  have k41 := kept' hb (unhide k4)
  obtain ⟨b6x, V6, hb6, hV6, st⟩ := (St.start w1).new (Obj.cells #[.slice a0 ln ln] 29)
  have hbb := st.below
  have k6 := st.get 0 rfl
  have hB1 : B ≤ w1.heap.size := Nat.le_trans hBV hb.size
  have hz6 := hz1.trans (hbb.mono hB1)
  have k46 := kept' hbb k41
  have hb46 : b4 < b6x := by have := (Array.getElem?_eq_some_iff.1 k41).1; omega
  have hst6 : Lst Enc.stg V6 (fun b => b ≠ b6x ∧ b ≠ b4 ∧ B ≤ b ∧ b < V6.heap.size) a0 ln (startS l) := by
    have h1 : startS l = List.replicate ln ([], []) := by unfold startS; rw [unhide hln]
    rw [h1]
    have h4 := (Array.getElem?_eq_some_iff.1 (unhide k4)).1
    refine (Lst.same (w := w1) (w' := V6) (fun b hb => hbb.block b hb.2) hst).wide (fun b hb => ⟨by omega, by omega, Nat.le_trans hBV hb.1, Nat.lt_of_lt_of_le hb.2 hbb.size⟩)
  clear st hsc hst hb hbb k41 hz1 k4 hz
  replace hb6 := hide hb6; replace hV6 := hide hV6; replace k6 := hide k6; replace hz6 := hide hz6; replace k46 := hide k46; replace hst6 := hide hst6
  have hBb6 : B ≤ b6x := by have := unhide hb6; omega
  go_wp2_with fail
  rw [unhide hV6]
  try rw [unhide hb6]
  clear hV6 hb6
  obtain ⟨b6, rfl⟩ : ∃ b : Nat, b = b6x := ⟨_, rfl⟩
  go_loopw [7, 16] (fun v i wr => ∃ (k : Nat) (a : Option Addr) (c : Nat), k ≤ gn ∧ i = .int .i64 (k : Int) ∧ wr.heap[b6]? = some (.cells #[.slice a ln c] 29 (0, 0)) ∧ wr.heap[b4]? = some (.cells #[nilS] 29 (0, 0)) ∧ Lst Enc.stg wr (fun b => b ≠ b6 ∧ b ≠ b4 ∧ B ≤ b ∧ v.ownBlock ≠ some b ∧ b < wr.heap.size) a ln (feedAll l (startS l) (g.take k)).1 ∧ wr.ownsRow B 3 1 v (feedAll l (startS l) (g.take k)).2.length (vints (feedAll l (startS l) (g.take k)).2) ∧ Below B w wr) (fun _ i _ => gn - (intOf i).toNat)
  case atStart => exact ⟨0, a0, ln, by omega, rfl, unhide k6, unhide k46, (unhide hst6).wide (fun b hb => ⟨hb.1, hb.2.1, hb.2.2.1, (by simp [Value.ownBlock]), hb.2.2.2⟩), World.ownsRow_nil _ _ _ _, unhide hz6⟩
  case round =>
    obtain ⟨k, a, c, hk, rfl, r6, r4, hst, hown, hbw⟩ := hrel
    obtain ⟨wo, rfl⟩ : ∃ W : World, W = wr := ⟨_, rfl⟩
    have hBo : B ≤ wo.heap.size := by rw [← unhide hB]; exact hbw.size
    by_cases hlt : k < gn
    · obtain ⟨bg, og, y, rfl, _, hy, hyi, hc⟩ := lst_int ((unhide hg).below (by rw [unhide hB]; exact hbw)) hlt
      have hsn := feedAll_snoc l (startS l) (g.take k) y
      rw [take_snoc hy] at hsn
      have htl := feedAll_tot l (g.take k) (startS l) (startS_len l)
      rw [tot_start, List.length_take] at htl
      have hbk := feedAll_back l 300000 (by omega) (g.take k) (startS l) (startS_len l) (back_start l _)
      obtain ⟨FA, hFA⟩ : ∃ r, feedAll l (startS l) (g.take k) = r := ⟨_, rfl⟩
      rw [hFA] at hst hown hsn htl hbk
      have hlo := ((unhide hll).below (by rw [unhide hB]; exact hbw)).wide (S' := fun b => b < wo.heap.size) (fun b (hb : b < w.heap.size) => by have := unhide hB; omega)
      have htt : tot FA.1 [] + 1 ≤ 200000 := by unfold tot at *; simp only [List.length_nil]; omega
      have hol : FA.2.length ≤ 100000 := by unfold tot at htl; omega
      have hfc := feed_any la ln lc l a c FA.1 y wo hlo (unhide hsm) (unhide hto) (hst.wide (fun b hb => hb.2.2.2.2)) hn hyi hbk htt
      have hft := feedS_tot l FA.1 y (by rw [hst.1, unhide hln])
      obtain ⟨FS, hFS⟩ : ∃ r, feedS l FA.1 y = r := ⟨_, rfl⟩
      rw [hFS] at hfc hsn hft
      have hsl : FS.2.length ≤ 200000 := by unfold tot at *; simp only [List.length_nil] at *; omega
      have d6 := blk_cell r6
      have i1 : (0 : Int) ≤ (k : Int) := by omega
      have i2 : (k : Int) < (gn : Int) := by omega
      clear hlo hst hbk htl htt hft hFA hy
      replace hfc := hide hfc; replace hown := hide hown; replace r4 := hide r4; replace r6 := hide r6; replace hbw := hide hbw; replace hsn := hide hsn; replace hol := hide hol; replace hsl := hide hsl; replace hFS := hide hFS
      go_wp2_with fail
      refine (unhide hfc).mono ?_
      rintro e w2 ⟨a2, a3, c3, rfl, hst2, hlo2, hb⟩
      have r62 := kept' hb (unhide r6)
      have r42 := kept' hb (unhide r4)
      have hown2 := own_belowb (unhide hown) hb
      have hbw2 := (unhide hbw).trans (hb.mono hBo)
      have hvl := hide (fun b e => ((unhide hown).lt b e).2)
      have h6lt := (Array.getElem?_eq_some_iff.1 (unhide r6)).1
      have h4lt := (Array.getElem?_eq_some_iff.1 (unhide r4)).1
      obtain ⟨b10x, V10, hb10, hV10, st⟩ := (St.start w2).new (Obj.cells #[.slice a2 ln ln] 29)
      have hbb := st.below
      have d10 := st.cell 0 rfl 0 (v := .slice a2 ln ln) rfl
      have r63 := kept' hbb r62
      have r43 := kept' hbb r42
      have hown3 := own_belowb hown2 hbb
      have hB2 : B ≤ w2.heap.size := Nat.le_trans hBo hb.size
      have hbw3 := hbw2.trans (hbb.mono hB2)
      have hst3 : Lst Enc.stg V10 (fun b => b ≠ b6 ∧ b ≠ b4 ∧ wo.heap.size ≤ b ∧ b < V10.heap.size) a2 ln FS.1 := (Lst.same (w := w2) (w' := V10) (fun b hb => hbb.block b hb.2) hst2).wide (fun b hb => ⟨by omega, by omega, hb.1, Nat.lt_of_lt_of_le hb.2 hbb.size⟩)
      have hlo3 : Lst Enc.int V10 (fun b => b ≠ b6 ∧ b < V10.heap.size) a3 FS.2.length FS.2 := (Lst.same (w := w2) (w' := V10) (fun b hb => hbb.block b hb.2) hlo2).wide (fun b hb => ⟨by omega, Nat.lt_of_lt_of_le hb.2 hbb.size⟩)
      have z0 := blk_cell r63
      have z1 : V10.frozen? ⟨b6, 0, none⟩ = false := by simp [World.frozen?, r63]
      have g6 := grown_set (w := V10) b6 0 (.slice a2 ln ln)
      have r64 := heap_set (off := 0) r63 (.slice a2 ln ln)
      have hoth : ∀ b, b ≠ b6 → (V10.setCell ⟨b6, 0, none⟩ (.slice a2 ln ln)).heap[b]? = V10.heap[b]? := fun b hb => Below.heap_setCell _ _ _ _ hb
      have hs10 : (V10.setCell ⟨b6, 0, none⟩ (.slice a2 ln ln)).heap.size = V10.heap.size := by simp [World.setCell]
      have r44 := (hoth b4 (by omega)).trans r43
      have hown4 := hown3.kept g6 (.inr (own_ne_blk hown3 r63 (by decide)))
      have hbw4 := hbw3.setCell (p := ⟨b6, 0, none⟩) hBb6 (.slice a2 ln ln)
      have hst4 := Lst.same (w' := V10.setCell ⟨b6, 0, none⟩ (.slice a2 ln ln)) (fun b hb => hoth b hb.1) hst3
      have hlo4 := Lst.same (w' := V10.setCell ⟨b6, 0, none⟩ (.slice a2 ln ln)) (fun b hb => hoth b hb.1) hlo3
      obtain ⟨W4, hW4⟩ : ∃ W, V10.setCell ⟨b6, 0, none⟩ (.slice a2 ln ln) = W := ⟨_, rfl⟩
      rw [hW4] at r64 r44 hown4 hbw4 hst4 hlo4 hs10
      have hB4 : B ≤ W4.heap.size := by rw [hs10]; exact Nat.le_trans hB2 hbb.size
      obtain ⟨m, hm⟩ : ∃ m, FS.2.length = m := ⟨_, rfl⟩
      rw [hm] at hlo4
      clear st hfc hst2 hlo2 hb r62 r42 hown2 hbw2 hbb r63 r43 hown3 hbw3 hst3 hlo3 g6 hoth r6 r4 hown hbw hc d6
      replace hb10 := hide hb10; replace hV10 := hide hV10; replace hW4 := hide hW4; replace r64 := hide r64; replace r44 := hide r44; replace hown4 := hide hown4; replace hbw4 := hide hbw4; replace hst4 := hide hst4; replace hlo4 := hide hlo4; replace hs10 := hide hs10; replace hm := hide hm
      rw [unhide hm]
      go_upto_region 7 with fail
      rw [unhide hV10]
      try rw [unhide hb10]
      go_wp2_with (at_builtin; rw [unhide hW4]; refine wpList_append_ints2 rfl _ _ rfl B _ _ _ rfl (unhide hown4) _ _ _ _ _ rfl (unhide hlo4) ?d1 hB4 ?_)
      case d1 => have := unhide hol; have := unhide hsl; have := unhide hm; omega
      intro v' w5 q1 q2 q3
      have hb5 := Below.grown (unhide hbw4) q2 hB4 (fun g e => ((unhide hown4).lt g e).1)
      have hrow : w5.ownsRow B 3 1 v' (feedAll l (startS l) (g.take (k + 1))).2.length (vints (feedAll l (startS l) (g.take (k + 1))).2) := by
        rw [unhide hsn, List.length_append, unhide hm]
        exact q1
      have hne6 := own_ne_blk (unhide hown4) (unhide r64) (by decide)
      have hne4 := own_ne_blk (unhide hown4) (unhide r44) (by decide)
      have r65 := (q2.block b6 (Array.getElem?_eq_some_iff.1 (unhide r64)).1 (fun e => hne6 e.symm)).trans (unhide r64)
      have r45 := (q2.block b4 (Array.getElem?_eq_some_iff.1 (unhide r44)).1 (fun e => hne4 e.symm)).trans (unhide r44)
      have hvlt : ∀ b, u7.ownBlock = some b → b < wo.heap.size := unhide hvl
      have hst5 : Lst Enc.stg w5 (fun b => b ≠ b6 ∧ b ≠ b4 ∧ B ≤ b ∧ v'.ownBlock ≠ some b ∧ b < w5.heap.size) a2 ln (feedAll l (startS l) (g.take (k + 1))).1 := by
        rw [unhide hsn]
        refine (Lst.same (w' := w5) (fun b hb => q2.block b (by rw [unhide hs10]; exact hb.2.2.2) (fun e => by have := hvlt b e.symm; omega)) (unhide hst4)).wide (fun b hb => ⟨hb.1, hb.2.1, Nat.le_trans hBo hb.2.2.1, fun e => ?_, Nat.lt_of_lt_of_le (by rw [unhide hs10]; exact hb.2.2.2) q2.size⟩)
        rcases q3 with h | h
        · have := hvlt b (h.symm.trans e); omega
        · rw [h] at e
          injection e with e
          have := unhide hs10
          omega
      clear q1 q2 q3 hne6 hne4 hown4 hbw4 hlo4 hst4 r64 r44
      replace hb5 := hide hb5; replace hrow := hide hrow; replace r65 := hide r65; replace r45 := hide r45; replace hst5 := hide hst5
      go_wp2_with fail
      go_roundw
      case rel => exact ⟨k + 1, a2, ln, by omega, by go_num, unhide r65, unhide r45, unhide hst5, unhide hrow, unhide hb5⟩
      case measure => simp [intOf]; omega
    · have hkg : g.take k = g := List.take_of_length_le (by rw [unhide hgl]; omega)
      rw [hkg] at hst hown
      have hne4 : b4 ≠ b6 := by omega
      have d6 := blk_cell r6
      have z0 := blk_cell r4
      have z1 : wo.frozen? ⟨b4, 0, none⟩ = false := by simp [World.frozen?, r4]
      have g4 := grown_set (w := wo) b4 0 (.slice a ln c)
      have r44 := blk_cell (heap_set (off := 0) r4 (.slice a ln c))
      have hown4 := hown.kept g4 (.inr (own_ne_blk hown r4 (by decide)))
      have hbw4 := hbw.setCell (p := ⟨b4, 0, none⟩) hge4 (.slice a ln c)
      have hst4 := (Lst.same (w' := wo.setCell ⟨b4, 0, none⟩ (.slice a ln c)) (fun b hb => Below.heap_setCell _ _ _ _ hb.2.1) hst).wide (S' := fun b => B ≤ b ∧ u7.ownBlock ≠ some b ∧ b < (wo.setCell ⟨b4, 0, none⟩ (.slice a ln c)).heap.size) (fun b hb => ⟨hb.2.2.1, hb.2.2.2.1, by simp [World.setCell]; exact hb.2.2.2.2⟩)
      obtain ⟨W4, hW4⟩ : ∃ W, wo.setCell ⟨b4, 0, none⟩ (.slice a ln c) = W := ⟨_, rfl⟩
      rw [hW4] at r44 hown4 hbw4 hst4
      clear g4 hst hown hbw
      replace hW4 := hide hW4; replace hown4 := hide hown4; replace hbw4 := hide hbw4; replace hst4 := hide hst4; replace r4 := hide r4; replace r6 := hide r6
      go_wp2_with fail
      rw [unhide hW4]
      refine bodyPost_ret (v := .tuple #[.agg #[.slice a ln c], u7]) (by simp [results, Try.results12, go_sem, r44]) rfl ?_
      rw [unhide hB]
      exact ⟨a, c, _, rfl, unhide hst4, unhide hown4, unhide hbw4⟩
end Go.Proofs.Ytfbgbbbfpkpfkaa
-- @@XTrH
/- StreamChains: the worlds of its last region. -/
namespace Go.Proofs.Ytfbgbbbfpkpfkaa
open Go.RowKit
/-- five operations run one after the other; between them only reads -/
structure CH (P : Nat → Value → Value → Value → Value → World → Prop) (LL : Nat → Bool) (vs : Nat → Value) (w' : World) : Prop where
  un : ∀ j, LL j = false → vs j = undef
  st : ∃ k, (LL 5 = decide (0 < k) ∧ LL 6 = decide (1 < k) ∧ LL 10 = decide (2 < k) ∧ LL 11 = decide (3 < k) ∧ LL 12 = decide (4 < k)) ∧ P k (vs 5) (vs 6) (vs 10) (vs 11) w'
section
variable {P : Nat → Value → Value → Value → Value → World → Prop} {LL : Nat → Bool} {vs : Nat → Value} {w w2 : World}
theorem CH.start (h : P 0 undef undef undef undef { w with drawn := w.drawn + 1 }) : CH P (fun _ => false) (fun _ => undef) { w with drawn := w.drawn + 1 } :=
  ⟨fun _ _ => rfl, 0, ⟨rfl, rfl, rfl, rfl, rfl⟩, h⟩
theorem CH.undo (h : CH P LL vs w) (i : Nat) (v : Value) : ∀ j, (LL j || j == i) = false → (if j = i then v else vs j) = undef := fun j hj => by
  rw [Bool.or_eq_false_iff] at hj
  rw [if_neg (by simpa using hj.2)]
  exact h.un j hj.1
theorem CH.ran (h : CH P LL vs w) {j : Nat} (hj : vs j ≠ undef) : LL j = true := by
  cases e : LL j with
  | true => rfl
  | false => exact absurd (h.un j e) hj
theorem CH.keep (h : CH P LL vs w) (i : Nat) (v : Value) (hi : 5 ≠ i ∧ 6 ≠ i ∧ 10 ≠ i ∧ 11 ≠ i ∧ 12 ≠ i) : CH P (fun j => LL j || j == i) (fun j => if j = i then v else vs j) w := by
  obtain ⟨k, hk, hp⟩ := h.st
  have e : ∀ j, j ≠ i → (LL j || j == i) = LL j := fun j hj => by rw [beq_eq_false_iff_ne.2 hj, Bool.or_false]
  refine ⟨h.undo i v, k, ⟨(e _ hi.1).trans hk.1, (e _ hi.2.1).trans hk.2.1, (e _ hi.2.2.1).trans hk.2.2.1, (e _ hi.2.2.2.1).trans hk.2.2.2.1, (e _ hi.2.2.2.2).trans hk.2.2.2.2⟩, ?_⟩
  rw [if_neg hi.1, if_neg hi.2.1, if_neg hi.2.2.1, if_neg hi.2.2.2.1]
  exact hp
theorem CH.at0 (h : CH P LL vs w) (h0 : LL 5 = false) : P 0 (vs 5) (vs 6) (vs 10) (vs 11) w := by
  obtain ⟨k, hk, hp⟩ := h.st
  simp only [h0] at hk
  have : k = 0 := by simp at hk; omega
  subst this; exact hp
theorem CH.at1 (h : CH P LL vs w) (h5 : LL 5 = true) (h6 : LL 6 = false) : P 1 (vs 5) (vs 6) (vs 10) (vs 11) w := by
  obtain ⟨k, hk, hp⟩ := h.st
  simp only [h5, h6] at hk
  have : k = 1 := by simp at hk; omega
  subst this; exact hp
theorem CH.at2 (h : CH P LL vs w) (h5 : LL 6 = true) (h6 : LL 10 = false) : P 2 (vs 5) (vs 6) (vs 10) (vs 11) w := by
  obtain ⟨k, hk, hp⟩ := h.st
  simp only [h5, h6] at hk
  have : k = 2 := by simp at hk; omega
  subst this; exact hp
theorem CH.at3 (h : CH P LL vs w) (h5 : LL 10 = true) (h6 : LL 11 = false) : P 3 (vs 5) (vs 6) (vs 10) (vs 11) w := by
  obtain ⟨k, hk, hp⟩ := h.st
  simp only [h5, h6] at hk
  have : k = 3 := by simp at hk; omega
  subst this; exact hp
theorem CH.at4 (h : CH P LL vs w) (h5 : LL 11 = true) (h6 : LL 12 = false) : P 4 (vs 5) (vs 6) (vs 10) (vs 11) w := by
  obtain ⟨k, hk, hp⟩ := h.st
  simp only [h5, h6] at hk
  have : k = 4 := by simp at hk; omega
  subst this; exact hp
theorem CH.run0 (h : CH P LL vs w) (h0 : LL 5 = false) (v : Value) (hp : P 1 v (vs 6) (vs 10) (vs 11) w2) : CH P (fun j => LL j || j == 5) (fun j => if j = 5 then v else vs j) w2 := by
  obtain ⟨k, hk, _⟩ := h.st
  have hk0 : k = 0 := by simp only [h0] at hk; simp at hk; omega
  subst hk0
  exact ⟨h.undo 5 v, 1, by simp [hk], by simpa using hp⟩
theorem CH.run1 (h : CH P LL vs w) (h5 : LL 5 = true) (h6 : LL 6 = false) (v : Value) (hp : P 2 (vs 5) v (vs 10) (vs 11) w2) : CH P (fun j => LL j || j == 6) (fun j => if j = 6 then v else vs j) w2 := by
  obtain ⟨k, hk, _⟩ := h.st
  have hk0 : k = 1 := by simp only [h5, h6] at hk; simp at hk; omega
  subst hk0
  exact ⟨h.undo 6 v, 2, by simp [hk], by simpa using hp⟩
theorem CH.run2 (h : CH P LL vs w) (h5 : LL 6 = true) (h6 : LL 10 = false) (v : Value) (hp : P 3 (vs 5) (vs 6) v (vs 11) w2) : CH P (fun j => LL j || j == 10) (fun j => if j = 10 then v else vs j) w2 := by
  obtain ⟨k, hk, _⟩ := h.st
  have hk0 : k = 2 := by simp only [h5, h6] at hk; simp at hk; omega
  subst hk0
  exact ⟨h.undo 10 v, 3, by simp [hk], by simpa using hp⟩
theorem CH.run3 (h : CH P LL vs w) (h5 : LL 10 = true) (h6 : LL 11 = false) (v : Value) (hp : P 4 (vs 5) (vs 6) (vs 10) v w2) : CH P (fun j => LL j || j == 11) (fun j => if j = 11 then v else vs j) w2 := by
  obtain ⟨k, hk, _⟩ := h.st
  have hk0 : k = 3 := by simp only [h5, h6] at hk; simp at hk; omega
  subst hk0
  exact ⟨h.undo 11 v, 4, by simp [hk], by simpa using hp⟩
theorem CH.run4 (h : CH P LL vs w) (h5 : LL 11 = true) (h6 : LL 12 = false) (v : Value) (hp : P 5 (vs 5) (vs 6) (vs 10) (vs 11) w2) : CH P (fun j => LL j || j == 12) (fun j => if j = 12 then v else vs j) w2 := by
  obtain ⟨k, hk, _⟩ := h.st
  have hk0 : k = 4 := by simp only [h5, h6] at hk; simp at hk; omega
  subst hk0
  exact ⟨h.undo 12 v, 5, by simp [hk], by simpa using hp⟩
end
def IsSl (n : Nat) (v : Value) : Prop := ∃ a c, v = .slice a n c
theorem IsSl.def {n : Nat} {v : Value} (h : IsSl n v) : v ≠ undef := by obtain ⟨a, c, rfl⟩ := h; exact slice_def _ _ _
def IsLi (n : Nat) (l : List Int) (v : Value) (w : World) : Prop := ∃ a c, v = .slice a n c ∧ Lst Enc.int w (fun b => b < w.heap.size) a n l
/-- what stands at each of the five steps -/
def PC (V : World) (B1 B3 b11 b15 : Nat) (fv iv q : Value) (qn n1 n2 an : Nat) (Q E1 E2 A : List Int) (ma : Option Addr) (mn : Nat) (m : List (List Sub)) (ia : Option Addr) (IS : List Stg) (k : Nat) (v5 v6 v10 v11 : Value) (w' : World) : Prop :=
  (w'.heap[b11]? = some (.cells #[fv] 29 (0, 0)) ∧ w'.heap[b15]? = some (.cells #[iv] 29 (0, 0))) ∧ Below B1 V w' ∧
  match k with
  | 0 => Below V.heap.size V w'
  | 1 => Below V.heap.size V w' ∧ IsLi n1 E1 v5 w'
  | 2 => w'.ownsRow B1 3 1 v6 an (vints A) ∧ w'.ownsRow B3 3 1 q qn (vints Q) ∧ (∀ b, v6.ownBlock = some b → q.ownBlock = some b → False) ∧ Lst Enc.lk w' (fun b => b < w'.heap.size) ma mn m ∧ Lst Enc.stg w' (fun b => b < w'.heap.size) ia mn IS
  | 3 => w'.ownsRow B1 3 1 v6 an (vints A) ∧ w'.ownsRow B3 3 1 q qn (vints Q) ∧ (∀ b, v6.ownBlock = some b → q.ownBlock = some b → False) ∧ IsLi n2 E2 v10 w'
  | 4 => w'.ownsRow B1 3 1 v6 an (vints A) ∧ w'.ownsRow B3 3 1 v11 an (vints A)
  | _ => True
theorem lst_two {α : Type} {E : Enc α} {V w w2 : World} {S : Nat → Prop} {a : Option Addr} {n : Nat} {l : List α} {row : Option Nat} (h : Lst E V S a n l) (hS : ∀ b, S b → b < V.heap.size ∧ row ≠ some b) (hb : Below V.heap.size V w) (hg : w.grownBy w2 row) : Lst E w2 (fun b => b < w2.heap.size) a n l :=
  (Lst.same (w' := w2) (fun b hs => (hg.block b (Nat.lt_of_lt_of_le (hS b hs).1 hb.size) (fun e => (hS b hs).2 e.symm)).trans (hb.block b (hS b hs).1)) h).wide (fun b hs => Nat.lt_of_lt_of_le (Nat.lt_of_lt_of_le (hS b hs).1 hb.size) hg.size)
theorem own_far {w : World} {B T s n : Nat} {v : Value} {xs : List Value} {row : Option Nat} (h : w.ownsRow B T s v n xs) (hr : ∀ b, row = some b → b < B) : v.ownBlock = none ∨ v.ownBlock ≠ row := by
  cases hv : v.ownBlock with
  | none => exact .inl rfl
  | some b => exact .inr fun e => by have := hr b e.symm; have := (h.lt b hv).1; omega
theorem own_apart {v q : Value} (h : ∀ b, v.ownBlock = some b → q.ownBlock = some b → False) : v.ownBlock = none ∨ v.ownBlock ≠ q.ownBlock := by
  cases hv : v.ownBlock with
  | none => exact .inl rfl
  | some b => exact .inr fun e => h b hv e.symm
theorem blk_grown {w w2 : World} {B T s n : Nat} {v : Value} {xs : List Value} {b : Nat} {cs : Array Value} {T' : TypeId} (h : w.ownsRow B T s v n xs) (hb : w.heap[b]? = some (.cells cs T' (0, 0))) (hne : T ≠ T') (hg : w.grownBy w2 v.ownBlock) : w2.heap[b]? = some (.cells cs T' (0, 0)) :=
  (hg.block b (Array.getElem?_eq_some_iff.1 hb).1 (fun e => own_ne_blk h hb hne e.symm)).trans hb
end Go.Proofs.Ytfbgbbbfpkpfkaa
