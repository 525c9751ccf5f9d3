/- Merged: XTrW XTrP XTrA XSbF0 -/
import Derived.Test.YtfbgbbbfpkpfkaaTr15
import Derived.Test.YtfbgbbbfpkpfkaaTr0
import Derived.Test.YtfbgbbbfpkpfkaaSb18
-- @@XTrW
/- StreamWaits: its walk. -/
namespace Go.Proofs.Ytfbgbbbfpkpfkaa
open Go.RowKit
theorem goodL12 {l : List (List Sub)} (h : GoodL l ((12 : Nat) : Int)) : (∀ x ∈ l, Small x) ∧ (∀ x ∈ l, ToI x) ∧ l.length ≤ 3 := ⟨goodL_small h, goodL_to (by decide) h, h.1⟩
set_option maxRecDepth 100000 in
set_option maxHeartbeats 8000000 in
theorem streamWaits_any (na : Option Addr) (nn nc : Nat) (N : List Int) (ga : Option Addr) (gn gc : Nat) (g : List Int) (w : World) (hN : Lst Enc.int w (fun b => b < w.heap.size) na nn N) (hN1 : nn ≤ nc) (hN2 : nc ≤ maxLen) (hG : Lst Enc.int w (fun b => b < w.heap.size) ga gn g) (hG1 : gn ≤ gc) (hG2 : gc ≤ maxLen) :
    Calls Try.prog 3 #[.slice na nn nc, .slice ga gn gc] w fun e w' => e = .returned (.bool true) ∧ Below w.heap.size w w' := by
  obtain ⟨nm, enm⟩ : ∃ m : Nat, (min (nn : Int) 60).toNat = m := ⟨_, rfl⟩
  have mnm : nm ≤ nn := by omega
  have mnc : nm ≤ nc := by omega
  have hif : (if (60 : Int) < (nn : Int) then (60 : Int) else (nn : Int)) = (nm : Int) := by split <;> omega
  have i60 : (0 : Int) ≤ (nm : Int) := by omega
  have i61 : (nm : Int) ≤ (nc : Int) := by omega
  replace enm := hide enm; replace hN := hide hN; replace hG := hide hG
  go_enter Try.func3, Try.ntmps3
  go_wp2_with fail
  refine (sanity_any _).mono ?_
  rintro e w1 ⟨rfl, hz1⟩
  have hr := made_any na nm nc (N.take nm) 12 w1 (((unhide hN).under hz1).take mnm) (by omega) (by decide) (by decide)
  have hG' := hide ((unhide hG).under hz1)
  clear hN hG
  replace hr := hide hr; replace hz1 := hide hz1
  go_wp2_with fail
  refine (unhide hr).mono ?_
  rintro e w2 ⟨la, lc, l, rfl, hl, hgl, hb2⟩
  have hz2 := hide ((unhide hz1).trans (hb2.mono (unhide hz1).size))
  have hG2' := (unhide hG').under hb2
  obtain ⟨hsm, hto, hl3⟩ := goodL12 hgl
  obtain ⟨ln, hln⟩ : ∃ m, l.length = m := ⟨_, rfl⟩
  rw [hln] at hl hl3 ⊢
  have hcc := cut_any ga gn gc g w2 hG2' (by omega)
  clear hr hz1 hb2 hG' hG2' hgl
  replace hcc := hide hcc; replace hl := hide hl; replace hsm := hide hsm; replace hto := hide hto; replace hln := hide hln
  go_wp2_with fail
  refine (unhide hcc).mono ?_
  rintro e w3 ⟨v, rfl, hown, hb⟩
  have hz3 := hide ((unhide hz2).trans (hb.mono (unhide hz2).size))
  have hl' := (unhide hl).under hb
  obtain ⟨ca, cc, rfl, -, hcl⟩ := own_lst hown (cutS_i64 g)
  have hcn := cutS_len g
  obtain ⟨X, hX⟩ : ∃ X, cutS g = X := ⟨_, rfl⟩
  rw [hX] at hcl hcn ⊢
  obtain ⟨xn, hxn⟩ : ∃ m, X.length = m := ⟨_, rfl⟩
  rw [hxn] at hcl hcn ⊢
  have hfc := fed_any la ln lc l ca xn cc X w3 hl' (unhide hsm) (unhide hto) hcl (by omega) (by omega)
  have hwt := waits_all l X (startS l) (Waits.start l)
  have hfi := feedAll_len l X (startS l) (startS_len l)
  obtain ⟨FA, hFA⟩ : ∃ r, feedAll l (startS l) X = r := ⟨_, rfl⟩
  rw [hFA] at hfc hwt hfi
  clear hcc hz2 hl hown hcl hb hX hFA
  have hl := hide hl'
  clear hl'
  replace hfc := hide hfc; replace hwt := hide hwt; replace hfi := hide hfi; replace hxn := hide hxn
  go_wp2_with fail
  refine (unhide hfc).mono ?_
  rintro e w4 ⟨fa, fc, v, rfl, hst, hown, hb⟩
  obtain ⟨oa, oc, hv⟩ := own_shape hown
  subst hv
  have hz4 := (unhide hz3).trans (hb.mono (unhide hz3).size)
  have hl4 := (unhide hl).under hb
  obtain ⟨b7x, V7, hb7, hV7, st⟩ := (St.start w4).new (Obj.cells #[.slice fa ln fc] 29)
  have hbb := st.below
  have k7 := st.get 0 rfl
  have hz7 := hz4.trans (hbb.mono hz4.size)
  have hl7 := hl4.under hbb
  have hst7 := hst.under hbb
  clear st hfc hz3 hl hst hown hb hz4 hl4 hbb
  replace hb7 := hide hb7; replace hV7 := hide hV7; replace hz7 := hide hz7; replace hl7 := hide hl7; replace hst7 := hide hst7; replace k7 := hide k7
  go_upto_region 4 with fail
  rw [unhide hV7]
  try rw [unhide hb7]
  clear hV7 hb7
  have d7 := blk_cell (unhide k7)
  have t1 : ((ln : Int) != (ln : Int)) = false := by simp
  go_wp2_with fail
  clear d7 t1
  go_loopw [34] (fun v wr => ∃ k : Nat, k ≤ ln ∧ v = .int .i64 (k : Int) ∧ Below V7.heap.size V7 wr) (fun v _ => ln - (intOf v).toNat)
  case atStart => exact ⟨0, by omega, rfl, Below.refl _ _⟩
  case round =>
    obtain ⟨k, hk, rfl, hbw⟩ := hrel
    obtain ⟨wo, rfl⟩ : ∃ wo : World, wo = wr := ⟨_, rfl⟩
    by_cases hlt : k < ln
    · obtain ⟨bL, oL, x, xa, xn', xc, rfl, _, hx, _, _, hLx, cL⟩ := lst_list ((unhide hl7).under hbw) hlt
      obtain ⟨bS, oS, s, a1, n1, c1, a2, n2, c2, rfl, _, hs, ⟨_, _, p1⟩, ⟨_, _, p2⟩, d1, d2⟩ := lst_stg ((unhide hst7).under hbw) hlt
      obtain ⟨w1', w2'⟩ := (unhide hwt).at_ k x s hx hs
      have q1 := p1.1
      have q2 := p2.1
      have dk := blk_cell (kept' hbw (unhide k7))
      have hwc := fun w h => window_any xa xn' xc x w h (unhide hsm x (List.mem_of_getElem? hx))
      obtain ⟨M, hM⟩ : ∃ M, winS x = M := ⟨_, rfl⟩
      rw [hM] at w1'
      simp only [hM] at hwc
      obtain ⟨b10x, V10, hb10, hV10, st⟩ := (St.start wo).new (Obj.cells #[.slice a1 n1 c1, .slice a2 n2 c2] 33)
      have hbb := st.below
      have y1 := st.cell 0 rfl 0 (v := .slice a1 n1 c1) rfl
      have y2 := st.cell 0 rfl 1 (v := .slice a2 n2 c2) rfl
      have y3 := cell_under cL hbb
      have hb10w := hbw.trans (hbb.mono hbw.size)
      have hLx2 := hide (hLx.under hbb)
      have i1 : (0 : Int) ≤ (k : Int) := by omega
      have i2 : (k : Int) < (ln : Int) := by omega
      have t1 : decide ((M : Int) ≤ (n2 : Int)) = false := by simp; omega
      have t2 : decide ((2 : Int) < (n1 : Int)) = false := by simp; omega
      have t3 : decide (M ≤ n2) = false := by simp; omega
      have t4 : decide (2 < n1) = false := by simp; omega
      clear st p1 p2 q1 q2 w1' w2' hx hs hM hLx hbb
      replace hb10 := hide hb10; replace hV10 := hide hV10; replace y1 := hide y1; replace y2 := hide y2; replace y3 := hide y3; replace hb10w := hide hb10w; replace hwc := hide hwc; replace hbw := hide hbw
      go_upto_region 10 with fail
      rw [unhide hV10]
      try rw [unhide hb10]
      clear hV10 hb10 cL d1 d2 dk
      have z1 := fun x : Ext V10 => x.cell (unhide y1)
      have z2 := fun x : Ext V10 => x.cell (unhide y2)
      have z3 := fun x : Ext V10 => x.cell (unhide y3)
      have hwx := fun x : Ext V10 => (unhide hwc) x.get ((unhide hLx2).under x.le)
      clear y1 y2 y3 hwc hLx2
      replace hwx := hide hwx
      refine wp_region_ext (by rfl) (by kernel_rfl) ?_
      repeat (quiet_step ((go_at_call 13; with_reducible exact Ext.calls (unhide hwx _))))
      refine wpQuiet_nil ?_
      rintro w' ⟨y, rfl⟩
      have hz' := (unhide hb10w).trans (y.le.mono (unhide hb10w).size)
      clear z1 z2 z3 hwx hb10w hbw
      obtain ⟨wz, hwz⟩ : ∃ wz, wz = y.get := ⟨_, rfl⟩
      rw [← hwz] at hz' ⊢
      clear hwz y
      replace hz' := hide hz'
      go_wp2_with fail
      go_roundw
      case rel => exact ⟨k + 1, by omega, by go_num, unhide hz'⟩
      case measure => simp [intOf]; omega
    · have hzz := hide ((unhide hz7).trans (hbw.mono (unhide hz7).size))
      clear hbw
      go_wp2_with fail
      go_ret
      exact ⟨rfl, unhide hzz⟩
end Go.Proofs.Ytfbgbbbfpkpfkaa
-- @@XTrP
/- Streams: what comes out of all calls is what Apply returns; in plain Lean. -/
namespace Go.Proofs.Ytfbgbbbfpkpfkaa
open Go.RowKit
theorem stepL_fuel (x : List Sub) (g : List Int) : ∀ f f' i, g.length ≤ f + i → g.length ≤ f' + i → stepL x g f i = stepL x g f' i := by
  intro f
  induction f with
  | zero => intro f' i h _; rw [stepL_end x g 0 i (by omega), stepL_end x g f' i (by omega)]
  | succ f ih =>
    intro f' i h h'
    by_cases hi : i < g.length
    · cases f' with
      | zero => omega
      | succ f' =>
        have hn := nextI_gt x g i
        rw [stepL, stepL, if_pos hi, if_pos hi, ih f' (nextI x g i) (by omega) (by omega)]
    · rw [stepL_end x g _ i (by omega), stepL_end x g _ i (by omega)]
/-- the results from a glyph on -/
def OF (x : List Sub) (g : List Int) (i : Nat) : List Int := outS x g (stepL x g (g.length - i) i)
theorem OF_end (x : List Sub) (g : List Int) (i : Nat) (h : g.length ≤ i) : OF x g i = [] := by
  unfold OF
  rw [stepL_end x g _ i h]
  rfl
theorem OF_step (x : List Sub) (g : List Int) (i : Nat) (h : i < g.length) : OF x g i = (if 0 ≤ matchS x g i then toS x (matchS x g i) else g.getD i 0) :: OF x g (nextI x g i) := by
  have hn := nextI_gt x g i
  unfold OF
  rw [show g.length - i = (g.length - i - 1) + 1 by omega, stepL, if_pos h]
  unfold outS
  rw [List.map_cons]
  congr 1
  rw [stepL_fuel x g (g.length - i - 1) (g.length - nextI x g i) (nextI x g i) (by omega) (by omega)]
theorem OF_zero (x : List Sub) (g : List Int) : OF x g 0 = outS x g (stepsS x g) := by unfold OF stepsS; rw [Nat.sub_zero]

theorem findSub_congr {g g' : List Int} {i i' : Int} : ∀ (x : List Sub) (k : Nat), (∀ s ∈ x, subAt s g i = subAt s g' i') → findSub g i x k = findSub g' i' x k := by
  intro x
  induction x with
  | nil => intro k _; rfl
  | cons s x ih =>
    intro k h
    rw [findSub, findSub, h s (by simp), ih (k + 1) (fun t ht => h t (by simp [ht]))]
/-- a stage between glyphs -/
def stA (p : List Int) (i : Nat) : Stg := (last2 (p.take i), p.drop i)
theorem last2_take (p : List Int) (i : Nat) (h : i ≤ p.length) : last2 (p.take i) ++ p.drop i = p.drop (i - 2) ∧ (last2 (p.take i)).length = i - (i - 2) := by
  unfold last2
  rw [List.length_take, Nat.min_eq_left h]
  constructor
  · have h1 : p.drop (i - 2) = (p.take i ++ p.drop i).drop (i - 2) := by rw [List.take_append_drop]
    rw [h1, List.drop_append_of_le_length (by rw [List.length_take]; omega)]
  · rw [List.length_drop, List.length_take]
    omega
theorem subAt_stA {s : Sub} {p r : List Int} {i : Nat} (hi : i ≤ p.length) (hb : s.1.length ≤ 2) (hw : s.2.1.length + s.2.2.1.length ≤ p.length - i ∨ r = []) :
    subAt s (last2 (p.take i) ++ p.drop i) ((last2 (p.take i)).length : Nat) = subAt s (p ++ r) (i : Nat) := by
  obtain ⟨e1, e2⟩ := last2_take p i hi
  rw [e1, e2, Bool.eq_iff_iff, subAt_iff, subAt_iff]
  have hl : (p.drop (i - 2)).length = p.length - (i - 2) := List.length_drop
  have hall := allOf_len s
  constructor
  · rintro ⟨h1, h2, h3, h4⟩
    refine ⟨h1, by omega, by rw [List.length_append]; omega, fun k hk => ?_⟩
    have h5 := h4 k hk
    rw [List.getElem?_drop] at h5
    rw [List.getElem?_append_left (by omega), ← h5]
    congr 1
    omega
  · rintro ⟨h1, h2, h3, h4⟩
    rw [List.length_append] at h3
    have h6 : i + s.2.1.length + s.2.2.1.length ≤ p.length := by
      rcases hw with hw | rfl
      · omega
      · simpa using h3
    refine ⟨h1, by omega, by omega, fun k hk => ?_⟩
    have h5 := h4 k hk
    rw [List.getElem?_append_left (by omega)] at h5
    rw [List.getElem?_drop, ← h5]
    congr 1
    omega
theorem decK_stA {x : List Sub} {p r : List Int} {i : Nat} (hi : i < p.length) (hb : ∀ s ∈ x, s.1.length ≤ 2) (hw : winS x ≤ p.length - i ∨ r = []) : decK x (stA p i) = matchS x (p ++ r) (i : Nat) := by
  obtain ⟨e1, e2⟩ := last2_take p i (by omega)
  unfold decK stA matchS
  simp only
  rw [if_pos (by rw [e1, e2, List.length_drop]; omega), if_pos (by rw [List.length_append]; omega)]
  refine findSub_congr x 0 (fun s hs => subAt_stA (by omega) (hb s hs) ?_)
  rcases hw with hw | hw
  · exact .inl (Nat.le_trans (winS_mem hs) hw)
  · exact .inr hw
theorem dec_stA {x : List Sub} {p r : List Int} {i : Nat} (hi : i < p.length) (hb : ∀ s ∈ x, s.1.length ≤ 2) (hw : winS x ≤ p.length - i ∨ r = []) :
    decO x (stA p i) = (if 0 ≤ matchS x (p ++ r) i then toS x (matchS x (p ++ r) i) else (p ++ r).getD i 0) ∧ decS x (stA p i) = stA p (nextI x (p ++ r) i) ∧ nextI x (p ++ r) i ≤ p.length := by
  have hk := decK_stA (r := r) hi hb hw
  obtain ⟨e1, e2⟩ := last2_take p i (by omega)
  have hdl : (stA p i).2.length = p.length - i := by unfold stA; rw [List.length_drop]
  have hN : decN x (stA p i) = nextI x (p ++ r) i - i ∧ nextI x (p ++ r) i ≤ p.length := by
    unfold decN nextI
    rw [hk]
    rcases matchS_inv (x := x) (g := (stA p i).1 ++ (stA p i).2) (i := (((stA p i).1.length : Nat) : Int)) with h | ⟨k, s, h1, h2, h3, _⟩
    · have : matchS x (p ++ r) i = -1 := by rw [← hk]; exact h
      rw [this]
      simp
      omega
    · have h4 : matchS x (p ++ r) i = k := by rw [← hk]; exact h1
      rw [h4, if_pos (by omega), if_pos (by omega)]
      have hf : fromL x (k : Int) = s.2.1.length := by unfold fromL; rw [Int.toNat_natCast, h2]
      rw [hf, hdl]
      have h5 := (subAt_iff _ _ _).1 h3
      unfold stA at h5
      simp only at h5
      rw [e1, e2, List.length_drop] at h5
      omega
  have hgt := nextI_gt x (p ++ r) i
  refine ⟨?_, ?_, hN.2⟩
  · unfold decO
    rw [hk]
    split
    · rfl
    · unfold stA
      simp only
      rw [List.getD_eq_getElem?_getD, List.getD_eq_getElem?_getD, List.getElem?_drop, Nat.add_zero, List.getElem?_append_left hi]
  · unfold decS
    rw [hN.1]
    generalize nextI x (p ++ r) i = j at *
    unfold stA
    simp only [Prod.mk.injEq]
    constructor
    · have h1 : last2 (p.take i) ++ (p.drop i).take (j - i) = (p.drop (i - 2)).take (j - (i - 2)) := by
        rw [← e1, List.take_append (l₁ := last2 (p.take i)) (l₂ := p.drop i), e2, List.take_of_length_le (l := last2 (p.take i)) (by rw [e2]; omega), show j - (i - 2) - (i - (i - 2)) = j - i by omega]
      rw [h1]
      unfold last2
      rw [List.length_take, List.length_drop, List.length_take, List.take_drop, show i - 2 + (j - (i - 2)) = j by omega, List.drop_drop]
      congr 1
      omega
    · rw [List.drop_drop]
      congr 1
      omega
theorem loop_one {x : List Sub} {p r : List Int} (hb : ∀ s ∈ x, s.1.length ≤ 2) (M : Nat) (hM1 : 1 ≤ M) (hM : winS x ≤ M ∨ r = []) : ∀ (f i : Nat), i ≤ p.length → ∃ i', i ≤ i' ∧ i' ≤ p.length ∧ (loopS M x (feedS []) f (stA p i) []).1 = (stA p i', []) ∧ OF x (p ++ r) i = (loopS M x (feedS []) f (stA p i) []).2 ++ OF x (p ++ r) i' ∧ (p.length - i ≤ f → p.length - i' < M) := by
  intro f
  induction f with
  | zero => intro i hi; exact ⟨i, Nat.le_refl _, hi, rfl, rfl, fun h => by omega⟩
  | succ f ih =>
    intro i hi
    have hdl : (stA p i).2.length = p.length - i := by unfold stA; rw [List.length_drop]
    by_cases hg : M ≤ (stA p i).2.length
    · obtain ⟨d1, d2, d3⟩ := dec_stA (x := x) (r := r) (i := i) (p := p) (by omega) hb (by rcases hM with h | h; exact .inl (by omega); exact .inr h)
      have hgt := nextI_gt x (p ++ r) i
      obtain ⟨i', h1, h2, h3, h4, h5⟩ := ih (nextI x (p ++ r) i) d3
      refine ⟨i', by omega, h2, ?_, ?_, fun h => h5 (by omega)⟩
      · rw [loopS, if_pos hg, d2]
        exact h3
      · rw [loopS, if_pos hg, d2, d1, OF_step _ _ _ (by rw [List.length_append]; omega), h4]
        rfl
    · refine ⟨i, Nat.le_refl _, hi, ?_, ?_, fun _ => by omega⟩
      · rw [loopS, if_neg hg]
      · rw [loopS, if_neg hg]
        simp
theorem feedS_one (x : List Sub) (s : Stg) (y : Int) : feedS [x] [s] y = ((loopS (winS x) x (feedS []) (s.2.length + 1) (s.1, s.2 ++ [y]) []).1.1 :: (loopS (winS x) x (feedS []) (s.2.length + 1) (s.1, s.2 ++ [y]) []).1.2, (loopS (winS x) x (feedS []) (s.2.length + 1) (s.1, s.2 ++ [y]) []).2) := rfl
theorem feed_one {x : List Sub} (hb : ∀ s ∈ x, s.1.length ≤ 2) : ∀ (rest p : List Int) (i : Nat), i ≤ p.length → ∃ i', i' ≤ (p ++ rest).length ∧ (feedAll [x] [stA p i] rest).1 = [stA (p ++ rest) i'] ∧ OF x (p ++ rest) i = (feedAll [x] [stA p i] rest).2 ++ OF x (p ++ rest) i' := by
  intro rest
  induction rest with
  | nil =>
    intro p i hi
    rw [List.append_nil]
    exact ⟨i, hi, rfl, by simp [feedAll]⟩
  | cons y rest ih =>
    intro p i hi
    have hst : ((stA p i).1, (stA p i).2 ++ [y]) = stA (p ++ [y]) i := by
      unfold stA
      rw [List.take_append_of_le_length hi, List.drop_append_of_le_length hi]
    have hpr : p ++ y :: rest = (p ++ [y]) ++ rest := by simp
    obtain ⟨i1, h1, h2, h3, h4, _⟩ := loop_one (x := x) (p := p ++ [y]) (r := rest) hb (winS x) (winS_pos x) (.inl (Nat.le_refl _)) ((stA p i).2.length + 1) i (by rw [List.length_append]; omega)
    obtain ⟨i2, g1, g2, g3⟩ := ih (p ++ [y]) i1 h2
    have hf : feedS [x] [stA p i] y = ([stA (p ++ [y]) i1], (loopS (winS x) x (feedS []) ((stA p i).2.length + 1) (stA (p ++ [y]) i) []).2) := by
      rw [← hst] at h3 ⊢
      rw [feedS_one, h3]
    rw [hpr]
    refine ⟨i2, g1, ?_, ?_⟩
    · simp only [feedAll]
      rw [hf]
      exact g2
    · simp only [feedAll]
      rw [hf, h4, g3]
      exact (List.append_assoc _ _ _).symm
theorem all_one {x : List Sub} (hb : ∀ s ∈ x, s.1.length ≤ 2) (g : List Int) : allS [x] g = outS x g (stepsS x g) := by
  have h0 : startS [x] = [stA [] 0] := rfl
  obtain ⟨i, h1, h2, h3⟩ := feed_one hb g [] 0 (Nat.le_refl _)
  rw [List.nil_append] at h1 h2 h3
  obtain ⟨i', _, g2, g3, g4, g5⟩ := loop_one (x := x) (p := g) (r := []) hb 1 (Nat.le_refl _) (.inr rfl) (stA g i).2.length i h1
  rw [List.append_nil] at g4
  have hdl : (stA g i).2.length = g.length - i := by unfold stA; rw [List.length_drop]
  have hi' : i' = g.length := by have := g5 (by omega); omega
  unfold allS
  rw [h0, h2]
  simp only [endS]
  rw [List.append_nil, ← OF_zero, h3, g4, hi', OF_end x g _ (Nat.le_refl _), List.append_nil]
theorem foldl_fst (l : List (List Sub)) : ∀ (a b c : List Int), (l.foldl (fun st x => apply1 x st) (a, b)).1 = (l.foldl (fun st x => apply1 x st) (a, c)).1 := by
  induction l with
  | nil => intro a b c; rfl
  | cons x l ih => intro a b c; exact ih _ _ _
theorem allS_nil (g : List Int) : allS [] g = g := by
  have h : ∀ g : List Int, feedAll [] [] g = ([], g) := by
    intro g
    induction g with
    | nil => rfl
    | cons y g ih => simp [feedAll, feedS, ih]
  unfold allS
  rw [show startS [] = [] from rfl, h]
  simp [endS]
/-- StreamApplies -/
theorem applies_plain : ∀ (l : List (List Sub)) (g : List Int), (∀ x ∈ l, ∀ s ∈ x, s.1.length ≤ 2) → allS l g = (applyS l g).1 := by
  intro l
  induction l with
  | nil => intro g _; rw [allS_nil]; rfl
  | cons x xs ih =>
    intro g h
    rw [show x :: xs = [x] ++ xs from rfl, allS_chain, all_one (h x (by simp)), ih _ (fun y hy => h y (by simp [hy]))]
    unfold applyS
    rw [List.foldl_append]
    exact foldl_fst xs _ _ _
/-- StreamPrefix -/
theorem prefix_plain (l : List (List Sub)) (g m : List Int) (h : ∀ x ∈ l, ∀ s ∈ x, s.1.length ≤ 2) : ∃ t, (applyS l (g ++ m)).1 = (feedAll l (startS l) g).2 ++ t := by
  rw [← applies_plain l (g ++ m) h]
  unfold allS
  rw [feedAll_app]
  exact ⟨_, List.append_assoc _ _ _⟩
end Go.Proofs.Ytfbgbbbfpkpfkaa
-- @@XTrA
/- StreamApplies: its walk. -/
namespace Go.Proofs.Ytfbgbbbfpkpfkaa
open Go.RowKit
theorem goodL_check {l : List (List Sub)} {gm : Int} (h : GoodL l gm) : checkS l gm = 0 := by
  have hm : many l = false := by
    unfold many
    rw [List.any_eq_false]
    intro x hx
    have := (h.2 x hx).1
    simp
    omega
  refine checkS_ok (by have := h.1; omega) hm (fun k x hx => okLk_of (fun j s hs => ?_))
  obtain ⟨h1, h2, h3, h4, h5⟩ := (h.2 x (List.mem_of_getElem? hx)).2 s (List.mem_of_getElem? hs)
  refine okSub_yes h1 h5 ?_
  unfold okAll allOf
  rw [List.all_eq_true]
  intro y hy
  rcases List.mem_append.1 hy with hy | hy
  · exact decide_eq_true (h2 y hy)
  · rcases List.mem_append.1 hy with hy | hy
    · exact decide_eq_true (h3 y hy)
    · exact decide_eq_true (h4 y hy)
theorem goodL_back {l : List (List Sub)} {gm : Int} (h : GoodL l gm) : ∀ x ∈ l, ∀ s ∈ x, s.1.length ≤ 2 := fun x hx s hs => ((h.2 x hx).2 s hs).1.2.2.1
theorem wpList_unguard {P : Program} {ops : Array Oper} {Q : Exit → Act → World → Prop} {a : Act} {w : World} {rest : List Oper} {o : Oper} (hw : Region.wanted o (yielded ops a.tmps) = true) (h : wpList P ops Q ({ o with guard := none } :: rest) a w) : wpList P ops Q (o :: rest) a w := by
  unfold wpList at h ⊢
  rw [if_pos hw]
  rw [if_pos (by simp [Region.wanted])] at h
  exact h
set_option maxRecDepth 100000 in
set_option maxHeartbeats 8000000 in
theorem streamApplies_any (na : Option Addr) (nn nc : Nat) (N : List Int) (ga : Option Addr) (gn gc : Nat) (g : List Int) (w : World) (hN : Lst Enc.int w (fun b => b < w.heap.size) na nn N) (hN1 : nn ≤ nc) (hN2 : nc ≤ maxLen) (hG : Lst Enc.int w (fun b => b < w.heap.size) ga gn g) (hG1 : gn ≤ gc) (hG2 : gc ≤ maxLen) :
    Calls Try.prog 8 #[.slice na nn nc, .slice ga gn gc] w fun e w' => e = .returned (.bool true) ∧ Below w.heap.size w w' := by
  obtain ⟨nm, enm⟩ : ∃ m : Nat, (min (nn : Int) 60).toNat = m := ⟨_, rfl⟩
  have mnm : nm ≤ nn := by omega
  have mnc : nm ≤ nc := by omega
  have hif : (if (60 : Int) < (nn : Int) then (60 : Int) else (nn : Int)) = (nm : Int) := by split <;> omega
  have i60 : (0 : Int) ≤ (nm : Int) := by omega
  have i61 : (nm : Int) ≤ (nc : Int) := by omega
  replace enm := hide enm; replace hN := hide hN; replace hG := hide hG
  go_enter Try.func8, Try.ntmps8
  go_wp2_with fail
  refine (sanity_any _).mono ?_
  rintro e w1 ⟨rfl, hz1⟩
  have hr := made_any na nm nc (N.take nm) 12 w1 (((unhide hN).under hz1).take mnm) (by omega) (by decide) (by decide)
  have hG' := hide ((unhide hG).under hz1)
  clear hN hG
  replace hr := hide hr; replace hz1 := hide hz1
  go_wp2_with fail
  refine (unhide hr).mono ?_
  rintro e w2 ⟨la, lc, l, rfl, hl, hgl, hb2⟩
  have hz2 := hide ((unhide hz1).trans (hb2.mono (unhide hz1).size))
  have hG2' := (unhide hG').under hb2
  obtain ⟨hsm, hto, hl3⟩ := goodL12 hgl
  have hck : checkS l 12 = 0 := goodL_check hgl
  have hbk2 := goodL_back hgl
  obtain ⟨ln, hln⟩ : ∃ m, l.length = m := ⟨_, rfl⟩
  rw [hln] at hl hl3 ⊢
  have hcc := cut_any ga gn gc g w2 hG2' (by omega)
  clear hr hz1 hb2 hG' hG2' hgl
  replace hcc := hide hcc; replace hl := hide hl; replace hsm := hide hsm; replace hto := hide hto; replace hln := hide hln; replace hck := hide hck; replace hbk2 := hide hbk2
  go_wp2_with fail
  refine (unhide hcc).mono ?_
  rintro e w3 ⟨v, rfl, hown, hb⟩
  have hz3 := hide ((unhide hz2).trans (hb.mono (unhide hz2).size))
  have hl' := (unhide hl).under hb
  obtain ⟨ca, cc, rfl, -, hcl⟩ := own_lst hown (cutS_i64 g)
  have hcn := cutS_len g
  have hci : AllI (cutS g) := cutS_i64 g
  obtain ⟨X, hX⟩ : ∃ X, cutS g = X := ⟨_, rfl⟩
  rw [hX] at hcl hcn hci ⊢
  have hin := applyS_i64 (unhide hto) hci (by omega)
  have hAn := applyS_len l X
  have hpl := applies_plain l X (unhide hbk2)
  obtain ⟨xn, hxn⟩ : ∃ m, X.length = m := ⟨_, rfl⟩
  rw [hxn] at hcl hcn hAn ⊢
  have hac := apply_any la ln lc l ca xn cc X w3 hl' hcl (by omega) (unhide hsm) (unhide hto) (by omega)
  have hfc := fun w h1 h2 => fed_any la ln lc l ca xn cc X w h1 (unhide hsm) (unhide hto) h2 (by omega) (by omega)
  have hfi := feedAll_len l X (startS l) (startS_len l)
  have htl := feedAll_tot l X (startS l) (startS_len l)
  have hbk := feedAll_back l 300000 (by omega) X (startS l) (startS_len l) (back_start _ _)
  rw [tot_start, hxn] at htl
  unfold allS at hpl
  obtain ⟨FA, hFA⟩ : ∃ r, feedAll l (startS l) X = r := ⟨_, rfl⟩
  simp only [hFA] at hfc hfi htl hbk hpl
  obtain ⟨AS, hAS⟩ : ∃ r, applyS l X = r := ⟨_, rfl⟩
  rw [hAS] at hac hin hAn hpl
  clear hcc hz2 hl hown hb hX hFA hAS hci hbk2
  have hl := hide hl'
  have hcl := hide hcl
  clear hl'
  replace hac := hide hac; replace hfc := hide hfc; replace hfi := hide hfi; replace hxn := hide hxn; replace hin := hide hin; replace hAn := hide hAn; replace hpl := hide hpl; replace htl := hide htl; replace hbk := hide hbk
  go_wp2_with fail
  refine (unhide hac).mono ?_
  rintro e w4 ⟨v1, v2, rfl, htw, hb⟩
  obtain ⟨a1, c1, a2, c2, rfl, rfl, hA, -⟩ := htw.lst (unhide hin).1 (unhide hin).2
  obtain ⟨an, han⟩ : ∃ m, AS.1.length = m := ⟨_, rfl⟩
  obtain ⟨bn, hbn⟩ : ∃ m, AS.2.length = m := ⟨_, rfl⟩
  simp only [han, hbn] at hA ⊢
  have hz4 := hide ((unhide hz3).trans (hb.mono (unhide hz3).size))
  have hl4 := (unhide hl).under hb
  have hcl4 := (unhide hcl).under hb
  have hfc' := hide (unhide hfc w4 hl4 hcl4)
  clear hac htw hz3 hl hcl hcl4 hb hfc
  replace hA := hide hA; replace hl4 := hide hl4; replace han := hide han
  go_wp2_with fail
  refine (unhide hfc').mono ?_
  rintro e w5 ⟨fa, fc, v, rfl, hst, hown, hb⟩
  obtain ⟨oa, oc, hv⟩ := own_shape hown
  subst hv
  obtain ⟨B, hB⟩ : ∃ B, w4.heap.size = B := ⟨_, rfl⟩
  have hl5 := (unhide hl4).under hb
  rw [hB] at hown hb
  have hAB := unhide hA
  rw [hB] at hAB
  have hB5 : B ≤ w5.heap.size := Nat.le_trans (Nat.le_of_eq hB.symm) hb.size
  obtain ⟨b9x, V9, hb9, hV9, st⟩ := (St.start w5).new (Obj.cells #[.slice fa ln fc] 29)
  have hbb := st.below
  have k9 := st.get 0 rfl
  have hb9B := hb.trans (hbb.mono hB5)
  have hl9 := hl5.under hbb
  have hst9 := hst.under hbb
  have hown9 := own_belowb hown hbb
  clear st hfc' hl4 hA hst hown hb hl5 hbb hB5
  replace hb9 := hide hb9; replace hV9 := hide hV9; replace hb9B := hide hb9B; replace hst9 := hide hst9; replace k9 := hide k9; replace hown9 := hide hown9; replace hAB := hide hAB; replace hB := hide hB
  go_upto_region 5 with fail
  rw [unhide hV9]
  try rw [unhide hb9]
  clear hV9 hb9
  have d9 := blk_cell (unhide k9)
  have hcc := check_any la ln lc l 12 V9 hl9 (by omega) (unhide hsm)
  rw [unhide hck] at hcc
  replace hcc := hide hcc; replace hl9 := hide hl9
  go_wp2_with fail
  refine (unhide hcc).mono ?_
  rintro e w6 ⟨rfl, hb⟩
  have hb6B := (unhide hb9B).trans (hb.mono (Nat.le_trans (Nat.le_of_eq (unhide hB).symm) (unhide hb9B).size))
  have hl6 := (unhide hl9).under hb
  have hst6 := (unhide hst9).under hb
  have hown6 := own_belowb (unhide hown9) hb
  have d6 := blk_cell (kept' hb (unhide k9))
  have hcc6 := end_any la ln lc l fa fc FA.1 w6 hl6 (unhide hsm) (unhide hto) hst6 (by omega) (unhide hbk) (by have := unhide htl; unfold tot at *; simp only [List.length_nil]; omega)
  clear hcc hb9B hl9 hst9 hown9 hl6 hst6 hb d9
  replace hcc6 := hide hcc6; replace hb6B := hide hb6B; replace hown6 := hide hown6
  go_wp2_with fail
  refine (unhide hcc6).mono ?_
  rintro e w7 ⟨ea, ec, rfl, hEl, hEn, hb⟩
  have hb7B := (unhide hb6B).trans (hb.mono (Nat.le_trans (Nat.le_of_eq (unhide hB).symm) (unhide hb6B).size))
  have hown7 := own_belowb (unhide hown6) hb
  have hB7 : B ≤ w7.heap.size := Nat.le_trans (Nat.le_of_eq (unhide hB).symm) hb7B.size
  obtain ⟨en, hen⟩ : ∃ m, (endS l FA.1).length = m := ⟨_, rfl⟩
  rw [hen] at hEl hEn ⊢
  obtain ⟨on, hon⟩ : ∃ m, FA.2.length = m := ⟨_, rfl⟩
  rw [hon] at hown7 ⊢
  have hon2 : on ≤ 20 := by have := unhide htl; unfold tot at this; omega
  clear hcc6 hb6B hown6 hb d6
  replace hb7B := hide hb7B; replace hown7 := hide hown7; replace hEl := hide hEl; replace hen := hide hen; replace hon := hide hon
  go_wp2_with (at_builtin; refine wpList_unguard (by first | rfl | simp [Region.wanted, yielded]) ?_; refine wpList_append_ints rfl _ _ rfl B _ _ _ rfl (unhide hown7) _ _ _ _ _ rfl (unhide hEl) ?d1 hB7 ?_)
  case d1 => omega
  intro v' w8 hown8 hg8
  have hb8B := Below.grown (unhide hb7B) hg8 hB7 (fun g e => ((unhide hown7).lt g e).1)
  have hA8 := ((unhide hAB).below hb8B).wide (S' := fun b => b < w8.heap.size) (fun b (hb : b < B) => Nat.lt_of_lt_of_le hb (Nat.le_trans (Nat.le_of_eq (unhide hB).symm) hb8B.size))
  rw [show vints FA.2 ++ vints (endS l FA.1) = vints AS.1 by rw [← unhide hpl]; simp [vints]] at hown8
  obtain ⟨va, vc, rfl, hve, hvl⟩ := own_lst hown8 (unhide hin).1
  have hzz := (unhide hz4).trans ((by rw [unhide hB]; exact hb8B : Below w4.heap.size w4 w8).mono (unhide hz4).size)
  rw [unhide han] at hvl ⊢
  have hs := sameInts_blw va an vc AS.1 a1 an c1 AS.1 w8 hvl hA8 (by have := (unhide hAn).2; rw [unhide han] at this; omega) (by have := (unhide hAn).2; rw [unhide han] at this; omega)
  rw [decide_eq_true rfl] at hs
  clear hb7B hown7 hEl hg8 hb8B hA8 hown8 hvl hAB
  replace hs := hide hs; replace hzz := hide hzz
  go_wp2_with fail
  refine (unhide hs).mono ?_
  rintro e w9 ⟨rfl, hb⟩
  have hze := (unhide hzz).trans (hb.mono (unhide hzz).size)
  clear hs hzz hb
  replace hze := hide hze
  go_wp2_with fail
  go_ret
  exact ⟨rfl, unhide hze⟩
end Go.Proofs.Ytfbgbbbfpkpfkaa
-- @@XSbF0
/- Lookups: own rows of own rows; what few leaves. -/
namespace Go.Proofs.Ytfbgbbbfpkpfkaa
open Go.RowKit
theorem wpList_append_el {w : World} {ops : Array Oper} {rest : List Oper} {o : Oper} {a : Act} {Q : Exit → Act → World → Prop} {t e : TypeId} {z : Value} {size bytes : Nat} (ht : Try.prog.underlying t = some (.slice e)) (hinfo : (Try.prog.info? e).map (fun i => (i.zero, i.size, i.bytes)) = some (some z, size, bytes))
    (hzs : z.cells.size = size) (hsz : 0 < size) (hby : bytes ≤ 1000) (hgd : o.guard = none) (s x : Operand) (ho : o.op = .call { callee := .builtin .append, args := #[s, x], argTypes := #[t, t] })
    (base : Nat) (v : Value) (n : Nat) (xs : List Value) (hs : a.eval s = v) (hown : w.ownsRow base e size v n xs) (b : Nat) (us : List Value) (hx : a.eval x = .slice (some ⟨b, 0, none⟩) 1 1) (hb : w.heap[b]? = some (.cells us.toArray e (0, 0)))
    (hul : us.length = size) (hone : ∀ u ∈ us, u.oneCell' = true) (hn : n ≤ 1000) (hbase : base ≤ w.heap.size)
    (h : ∀ v' w', w'.ownsRow base e size v' (n + 1) (xs ++ us) → w.grownBy w' v.ownBlock → (v'.ownBlock = v.ownBlock ∨ v'.ownBlock = some w.heap.size) → wpList Try.prog ops Q rest (a.put o.dst v') w') : wpList Try.prog ops Q (o :: rest) a w := by
  obtain ⟨i3, hi3, hiz3, his3, hiy3⟩ := info_parts hinfo
  obtain ⟨v', w', hrun, q1, q2, q3⟩ := run_append_own2 (P := Try.prog) w base t o.type e i3 z size bytes ht hi3 hiz3 his3 hiy3 hzs hsz v n xs hown ⟨b, 0, none⟩ 1 1 us (by rw [hul, Nat.one_mul])
    (fun j u hj => by rw [Addr.add_lit, Nat.zero_add, cell_of_row _ _ _ _ _ _ hb]; simpa using hj) hone (by unfold maxLen; omega) (by have : (n + 1) * bytes ≤ 1001 * 1000 := Nat.mul_le_mul (by omega) hby; omega) hbase
  exact Lib.wpList_append_run w hgd s x t t ho v _ hs hx v' w' hrun (h v' w' q1 q2 q3)
def fewSub (s : Sub) : Sub := (s.1.take 6, s.2.1.take 6, s.2.2.1.take 6, s.2.2.2)
def fewX (x : List Sub) : List Sub := (x.take 30).map fewSub
def fewS (l : List (List Sub)) : List (List Sub) := (l.take 6).map fewX
theorem snoc_at {α : Type} {l : List α} {a x : α} {k : Nat} (h : (l ++ [a])[k]? = some x) : (k < l.length ∧ l[k]? = some x) ∨ (k = l.length ∧ x = a) := by
  rcases Nat.lt_or_ge k l.length with hk | hk
  · rw [List.getElem?_append_left hk] at h
    exact .inl ⟨hk, h⟩
  · obtain ⟨h1, h2⟩ := List.getElem?_eq_some_iff.1 h
    have : k = l.length := by simp at h1; omega
    subst this
    refine .inr ⟨rfl, ?_⟩
    rw [List.getElem?_append_right (Nat.le_refl _), Nat.sub_self] at h
    exact (Option.some.inj h).symm
/-- own rows, one for each lookup, no two in one block -/
def InR (w : World) (base : Nat) (S : Nat → Prop) (us : List Value) (l : List (List Sub)) : Prop :=
  us.length = l.length ∧ (∀ (k : Nat) (u : Value) (x : List Sub), us[k]? = some u → l[k]? = some x → ∃ ys, w.ownsRow base 56 4 u x.length ys ∧ Flat Enc.sub w S ys x) ∧ ∀ (i j : Nat) (u u' : Value) b, us[i]? = some u → us[j]? = some u' → u.ownBlock = some b → u'.ownBlock = some b → i = j
section
variable {w w' : World} {base : Nat} {S : Nat → Prop} {us : List Value} {l : List (List Sub)} {u u' : Value} {x : List Sub}
theorem InR.nil (w : World) (base : Nat) (S : Nat → Prop) : InR w base S [] [] := ⟨rfl, fun k u x h => by simp at h, fun i j u u' b h => by simp at h⟩
theorem InR.kept (h : InR w base S us l) (hk : ∀ u ∈ us, ∀ b, u.ownBlock = some b → w'.heap[b]? = w.heap[b]?) (hS : ∀ b, S b → w'.heap[b]? = w.heap[b]?) : InR w' base S us l :=
  ⟨h.1, fun k u x hu hx => (h.2.1 k u x hu hx).imp fun _ hy => ⟨own_same hy.1 (fun b hb => hk u (List.mem_of_getElem? hu) b hb), hy.2.same hS⟩, h.2.2⟩
theorem InR.lt (h : InR w base S us l) (hu : u ∈ us) {b : Nat} (hb : u.ownBlock = some b) : base ≤ b ∧ b < w.heap.size := by
  obtain ⟨k, hk, rfl⟩ := List.mem_iff_getElem.1 hu
  obtain ⟨ys, h1, _⟩ := h.2.1 k _ (l[k]'(by have := h.1; omega)) (List.getElem?_eq_getElem hk) (List.getElem?_eq_getElem _)
  exact h1.lt b hb
theorem InR.push (h : InR w base S us l) : InR w base S (us ++ [.slice none 0 0]) (l ++ [[]]) := by
  have hl := h.1
  refine ⟨by simp [hl], fun k u x hu hx => ?_, fun i j u u' b hi hj hu hu' => ?_⟩
  · rcases snoc_at hu with ⟨h1, h2⟩ | ⟨h1, rfl⟩
    · rcases snoc_at hx with ⟨_, h3⟩ | ⟨h3, _⟩
      · exact h.2.1 k u x h2 h3
      · omega
    · rcases snoc_at hx with ⟨h3, _⟩ | ⟨_, rfl⟩
      · omega
      · exact ⟨[], World.ownsRow_nil _ _ _ _, rfl⟩
  · rcases snoc_at hi with ⟨_, h2⟩ | ⟨_, rfl⟩
    · rcases snoc_at hj with ⟨_, h3⟩ | ⟨_, rfl⟩
      · exact h.2.2 i j u u' b h2 h3 hu hu'
      · cases hu'
    · cases hu
theorem InR.last (h : InR w base S (us ++ [u]) (l ++ [x])) : ∃ ys, w.ownsRow base 56 4 u x.length ys ∧ Flat Enc.sub w S ys x := by
  have hl := h.1
  simp at hl
  exact h.2.1 us.length u x (by simp) (by rw [hl]; simp)
theorem InR.app {ys zs : List Value} {s : Sub} (h : InR w base S (us ++ [u]) (l ++ [x])) (hfl : Flat Enc.sub w S ys x) (hz : Enc.sub.rep w S zs s) (hrow : w'.ownsRow base 56 4 u' (x.length + 1) (ys ++ zs)) (hg : w.grownBy w' u.ownBlock)
    (hb : u'.ownBlock = u.ownBlock ∨ u'.ownBlock = some w.heap.size) (hS : ∀ b, S b → b < base) (hbase : base ≤ w.heap.size) : InR w' base S (us ++ [u']) (l ++ [x ++ [s]]) := by
  have hl := h.1
  simp at hl
  have hlt : ∀ v ∈ us ++ [u], ∀ b, v.ownBlock = some b → base ≤ b ∧ b < w.heap.size := fun v hv b hb => h.lt hv hb
  have hS' : ∀ b, S b → w'.heap[b]? = w.heap[b]? := fun b hb => hg.block b (by have := hS b hb; omega) (fun e => by have := (hlt u (by simp) b e.symm).1; have := hS b hb; omega)
  have hat : ∀ (k : Nat) v, us[k]? = some v → (us ++ [u])[k]? = some v := fun k v hk => by rw [List.getElem?_append_left (List.getElem?_eq_some_iff.1 hk).1]; exact hk
  have hlast : (us ++ [u])[us.length]? = some u := by simp
  refine ⟨by simp [hl], fun k v y hv hy => ?_, fun i j v v' b hi hj hv hv' => ?_⟩
  · rcases snoc_at hv with ⟨h1, h2⟩ | ⟨h1, rfl⟩
    · rcases snoc_at hy with ⟨_, h3⟩ | ⟨h3, _⟩
      · obtain ⟨ys', q1, q2⟩ := h.2.1 k v y (hat k v h2) (by rw [List.getElem?_append_left (by omega)]; exact h3)
        exact ⟨ys', own_same q1 (fun b hb => hg.block b (q1.lt b hb).2 (fun e => by have := h.2.2 k us.length v u b (hat k v h2) hlast hb e.symm; omega)), q2.same hS'⟩
      · omega
    · rcases snoc_at hy with ⟨h3, _⟩ | ⟨_, rfl⟩
      · omega
      · exact ⟨ys ++ zs, by rw [List.length_append]; exact hrow, (hfl.append (Flat.single hz)).same hS'⟩
  · have mid : ∀ (k : Nat) v, us[k]? = some v → v.ownBlock = some b → u'.ownBlock = some b → False := fun k v hk h1 h2 => by
      have hk' := (List.getElem?_eq_some_iff.1 hk).1
      rcases hb with e | e
      · have := h.2.2 k us.length v u b (hat k v hk) hlast h1 (e.symm.trans h2)
        omega
      · have := (hlt v (by simp [List.mem_of_getElem? hk]) b h1).2
        rw [e] at h2
        injection h2
        omega
    rcases snoc_at hi with ⟨_, h2⟩ | ⟨h2, rfl⟩
    · rcases snoc_at hj with ⟨_, h3⟩ | ⟨_, rfl⟩
      · exact h.2.2 i j v v' b (hat i v h2) (hat j v' h3) hv hv'
      · exact (mid i v h2 hv hv').elim
    · rcases snoc_at hj with ⟨_, h3⟩ | ⟨h3, _⟩
      · exact (mid j v' h3 hv' hv).elim
      · omega
theorem row_rep {ys : List Value} (h1 : w.ownsRow base 56 4 u x.length ys) (h2 : Flat Enc.sub w S ys x) (hS : ∀ b, S b → b < w.heap.size) : Enc.lk.rep w (· < w.heap.size) [u] x := by
  rcases h1.2 with ⟨rfl, h0⟩ | ⟨g, cap, cur, rfl, hbg, hg, hn, hc, hcs, ht⟩
  · have hl : x = [] := List.eq_nil_of_length_eq_zero h0
    subst hl
    exact ⟨none, 0, 0, rfl, Nat.le_refl _, Nat.zero_le _, Lst.nil _ _ _ _⟩
  · refine ⟨some ⟨g, 0, none⟩, x.length, cap, rfl, hn, hc, rfl, fun hpos => ⟨g, 0, rfl, (Array.getElem?_eq_some_iff.1 hg).1, fun i y hy => ?_⟩⟩
    obtain ⟨us, hr, hu⟩ := h2.at_ i y hy
    refine ⟨us, Enc.sub.wide hS hr, fun j u hj => ?_⟩
    have hcell := h1.cells (g := g) rfl _ u (hu j u hj)
    rw [Addr.add_lit] at hcell
    rw [← hcell, Nat.add_assoc]
theorem flat_of : ∀ {us : List Value} {l : List (List Sub)}, us.length = l.length → (∀ (k : Nat) (u : Value) (x : List Sub), us[k]? = some u → l[k]? = some x → Enc.lk.rep w S [u] x) → Flat Enc.lk w S us l := by
  intro us
  induction us with
  | nil => intro l hl _; cases l with
    | nil => rfl
    | cons x l => simp at hl
  | cons u us ih =>
    intro l hl h
    cases l with
    | nil => simp at hl
    | cons x l => exact ⟨[u], us, rfl, h 0 u x rfl rfl, ih (by simpa using hl) (fun k v y h1 h2 => h (k + 1) v y (by simpa using h1) (by simpa using h2))⟩
theorem InR.lst {b0 : Nat} {v : Value} (hout : w.ownsRow b0 37 1 v us.length us) (h : InR w base S us l) (hS : ∀ b, S b → b < w.heap.size) : ∃ a c, v = .slice a l.length c ∧ Lst Enc.lk w (· < w.heap.size) a l.length l := by
  have hfl : Flat Enc.lk w (· < w.heap.size) us l := flat_of h.1 (fun k u x h1 h2 => by
    obtain ⟨ys, q1, q2⟩ := h.2.1 k u x h1 h2
    exact row_rep q1 q2 hS)
  have hl := h.1
  rw [hl] at hout
  rcases hout.2 with ⟨rfl, h0⟩ | ⟨g, cap, cur, rfl, hbg, hg, hn, hc, hcs, ht⟩
  · have hl : l = [] := List.eq_nil_of_length_eq_zero h0
    subst hl
    exact ⟨none, 0, rfl, Lst.nil _ _ _ _⟩
  · refine ⟨_, cap, rfl, rfl, fun hpos => ⟨g, 0, rfl, (Array.getElem?_eq_some_iff.1 hg).1, fun i x hx => ?_⟩⟩
    obtain ⟨us, hr, hu⟩ := hfl.at_ i x hx
    refine ⟨us, hr, fun j u hj => ?_⟩
    have hcell := hout.cells (g := g) rfl _ u (hu j u hj)
    rw [Addr.add_lit] at hcell
    rw [← hcell, Nat.add_assoc]
end
end Go.Proofs.Ytfbgbbbfpkpfkaa
