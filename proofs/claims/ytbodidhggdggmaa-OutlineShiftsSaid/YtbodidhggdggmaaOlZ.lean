/- Outline's law: few. -/
import Derived.Test.YtbodidhggdggmaaOlY
import Derived.Test.YtbodidhggdggmaaOlB
import Derived.Test.YtbodidhggdggmaaFrontG
namespace Go.Proofs.Ytbodidhggdggmaa
open Go.RowKit
def fewO (o : Ot) : Ot := (o.take 10).map (List.take 70)
theorem few_sml (o : Ot) : Sml (fewO o) ∧ ∀ c ∈ fewO o, c.length ≤ 250 := by
  unfold fewO
  have h2 : ∀ c ∈ (o.take 10).map (List.take 70), c.length ≤ 70 := fun c hc => by
    obtain ⟨d, _, rfl⟩ := List.mem_map.1 hc
    rw [List.length_take]
    omega
  exact ⟨⟨by rw [List.length_map, List.length_take]; omega, fun c hc => by have := h2 c hc; omega⟩, fun c hc => by have := h2 c hc; omega⟩
/-- slices that read what was there before -/
def Rd6 (w : World) (vs : List Value) (o : Ot) : Prop := ∀ (j : Nat) (c : List Pt), o[j]? = some c → ∃ a n cap, vs[j]? = some (.slice a n cap) ∧ n ≤ cap ∧ cap ≤ maxLen ∧ Lst Enc.pt w (· < w.heap.size) a n c
theorem Rd6.snoc {w : World} {vs : List Value} {o : Ot} {c : List Pt} {a : Option Addr} {n cap : Nat} (h : Rd6 w vs o) (hl : vs.length = o.length) (h1 : n ≤ cap) (h2 : cap ≤ maxLen) (h3 : Lst Enc.pt w (· < w.heap.size) a n c) : Rd6 w (vs ++ [.slice a n cap]) (o ++ [c]) := fun j d hd => by
  rcases Nat.lt_or_ge j o.length with hj | hj
  · rw [List.getElem?_append_left hj] at hd
    obtain ⟨a', n', c', e1, e2⟩ := h j d hd
    exact ⟨a', n', c', by rw [List.getElem?_append_left (by omega)]; exact e1, e2⟩
  · rw [List.getElem?_append_right hj] at hd
    have := (List.getElem?_eq_some_iff.1 hd).1
    simp at this
    have e0 : j - o.length = 0 := by omega
    rw [e0] at hd
    injection hd with hd
    subst hd
    exact ⟨a, n, cap, by rw [List.getElem?_append_right (by omega), show j - vs.length = 0 by omega]; rfl, h1, h2, h3⟩
theorem Rd6.lst {w w' : World} {vs : List Value} {o : Ot} {B : Nat} {v : Value} (h : Rd6 w vs o) (hrow : w'.ownsRow B 54 1 v o.length vs) (hb : Below w.heap.size w w') : ∃ a c, v = .slice a o.length c ∧ o.length ≤ c ∧ c ≤ maxLen ∧ Lst Enc.ct w' (· < w'.heap.size) a o.length o := by
  rcases hrow.2 with ⟨rfl, h0⟩ | ⟨g, cap, cur, rfl, hbg, hg, hn, hc, hcs, ht⟩
  · have hl : o = [] := List.eq_nil_of_length_eq_zero h0
    subst hl
    exact ⟨none, 0, rfl, Nat.le_refl _, Nat.zero_le _, Lst.nil _ _ _ _⟩
  · refine ⟨some ⟨g, 0, none⟩, cap, rfl, hn, hc, rfl, fun hpos => ⟨g, 0, rfl, (Array.getElem?_eq_some_iff.1 hg).1, fun i y hy => ?_⟩⟩
    have hi := (List.getElem?_eq_some_iff.1 hy).1
    obtain ⟨a, n, c, e1, e2, e3, e4⟩ := h i y hy
    refine ⟨[.slice a n c], ⟨_, _, _, rfl, e2, e3, e4.under hb⟩, fun j u hj => ?_⟩
    cases j with
    | succ j => simp at hj
    | zero =>
      simp at hj
      subst hj
      have en : Enc.ct.n = 1 := rfl
      rw [en, Nat.mul_one, Nat.zero_add, Nat.add_zero, hrow.cellAt _ (by omega), e1]
def FewPost6 (o : Ot) (w : World) (e : Ending) (w' : World) : Prop := ∃ a' c', e = .returned (.slice a' (fewO o).length c') ∧ (fewO o).length ≤ c' ∧ c' ≤ maxLen ∧ Lst Enc.ct w' (· < w'.heap.size) a' (fewO o).length (fewO o) ∧ Below w.heap.size w w'
set_option maxRecDepth 100000 in
set_option maxHeartbeats 4000000 in
theorem few6_any (a : Option Addr) (n c : Nat) (o : Ot) (w : World) (hl : Lst Enc.ct w (· < w.heap.size) a n o) (hnm : n ≤ maxLen) :
    Calls Try.prog 11 #[.slice a n c] w (FewPost6 o w) := by
  have hol : o.length = n := hl.1
  unfold maxLen at hnm
  obtain ⟨B, hB⟩ : ∃ B, w.heap.size = B := ⟨_, rfl⟩
  replace hB := hide hB; replace hl := hide hl; replace hol := hide hol
  go_enter Try.func11, Try.ntmps11
  go_wp2_with fail
  go_loopw [3, 4] (fun v3 v4 wr => ∃ (k : Nat) (vs : List Value), k ≤ n ∧ k ≤ 10 ∧ v4 = .int .i64 (k : Int) ∧ wr.ownsRow B 54 1 v3 k vs ∧ vs.length = k ∧ Rd6 w vs ((o.take k).map (List.take 70)) ∧ Below B w wr) (fun _ v _ => (10 - intOf v).toNat)
  case atStart => exact ⟨0, [], by omega, by omega, rfl, World.ownsRow_nil _ _ _ _, rfl, fun j c h => by simp at h, Below.refl _ _⟩
  case round =>
    obtain ⟨k, vs0, hk, hk10, rfl, hrow, hvl, hrd, hbw⟩ := hrel
    obtain ⟨V, rfl⟩ : ∃ V : World, V = wr := ⟨_, rfl⟩
    obtain ⟨va, vc, rfl⟩ := own_shape hrow
    have hBV : B ≤ V.heap.size := by rw [← unhide hB]; exact hbw.size
    by_cases hlt : k < n ∧ k < 10
    · obtain ⟨hkn, hk10'⟩ := hlt
      obtain ⟨b, off, x, ax, nx, cx, rfl, hbb, hx, hnc, hcm, hlx, hc0⟩ := lst_list (unhide hl) hkn
      have hcV : V.cell? ⟨b, off + k, none⟩ = some (.slice ax nx cx) := (hbw.cell (p := ⟨b, off + k, none⟩) (by rw [← unhide hB]; exact hbb)).trans hc0
      have hxl : x.length = nx := hlx.1
      obtain ⟨m, hm0⟩ : ∃ m, min nx 70 = m := ⟨_, rfl⟩
      have hm : min (nx : Int) 70 = (m : Int) := by omega
      have hm1 : m ≤ nx := by omega
      have htk : x.take m = x.take 70 := by
        rw [← hm0]
        rcases Nat.le_total nx 70 with h | h
        · rw [Nat.min_eq_left h, List.take_of_length_le (by omega), List.take_of_length_le (by omega)]
        · rw [Nat.min_eq_right h]
      have hlm := hlx.take (k := m) (by omega)
      rw [htk] at hlm
      have hrd2 := hrd.snoc (by rw [hvl, List.length_map, List.length_take, unhide hol]; omega) (show m ≤ cx by omega) hcm hlm
      have hsn : (o.take k).map (List.take 70) ++ [x.take 70] = (o.take (k + 1)).map (List.take 70) := by
        have e := List.take_add_one (i := k) (l := o)
        rw [hx] at e
        rw [e, List.map_append]
        rfl
      rw [hsn] at hrd2
      have j1 : (0 : Int) ≤ (k : Int) := by omega
      have j2 : (k : Int) < (n : Int) := by omega
      have j3 : (k : Int) < 10 := by omega
      have j4 : (m : Int) ≤ (nx : Int) := by omega
      have j5 : (m : Int) ≤ (cx : Int) := by omega
      have t1 : decide ((k : Int) < (n : Int)) = true := by simp; omega
      have t2 : decide ((k : Int) < 10) = true := by simp; omega
      unfold maxLen at hcm
      clear hx hbb hlx htk hm0 hlm hsn hrd hc0
      replace hrow := hide hrow; replace hbw := hide hbw; replace hrd2 := hide hrd2; replace hcV := hide hcV; replace hm := hide hm; replace hvl := hide hvl
      go_upto_region 5 with fail
      refine wp_region_frontG 13 (fun _ _ w' => Below V.heap.size V w') (fun wa wb => Below wa.heap.size wa wb)
        (fun ix v w' => match ix with
          | 0 => v = .slice va k vc
          | 1 => v = .slice (some ⟨b, off, none⟩) n c
          | 2 => v = .int .i64 (k : Int)
          | 3 => v = .pointer (some ⟨b, off + k, none⟩)
          | 4 => v = .slice ax nx cx
          | 5 => v = .slice (some ⟨b, off, none⟩) n c
          | 6 => v = .int .i64 (k : Int)
          | 7 => v = .pointer (some ⟨b, off + k, none⟩)
          | 8 => v = .slice ax nx cx
          | 9 => v = .int .i64 (nx : Int)
          | 10 => v = .int .i64 (m : Int)
          | 11 => v = .slice ax m cx
          | 12 => ∃ b, v = .slice (some ⟨b, 0, none⟩) 1 1 ∧ w'.heap[b]? = some (.cells #[.slice ax m cx] 54 (0, 0))
          | _ => True) (by rfl) (by kernel_rfl) ?_ ?_ ?_ ?_
      · exact (Below.refl _ _).drew
      · intro wa wb hR ix v hv
        match ix, hv with
        | 0, h => exact h
        | 1, h => exact h
        | 2, h => exact h
        | 3, h => exact h
        | 4, h => exact h
        | 5, h => exact h
        | 6, h => exact h
        | 7, h => exact h
        | 8, h => exact h
        | 9, h => exact h
        | 10, h => exact h
        | 11, h => exact h
        | 12, h => obtain ⟨b, h1, h2⟩ := h; exact ⟨b, h1, (hR.block b (Array.getElem?_eq_some_iff.1 h2).1).trans h2⟩
        | _ + 13, _ => trivial
      · intro ix hix
        obtain rfl | rfl | rfl | rfl | rfl | rfl | rfl | rfl | rfl | rfl | rfl | rfl | rfl : ix = 0 ∨ ix = 1 ∨ ix = 2 ∨ ix = 3 ∨ ix = 4 ∨ ix = 5 ∨ ix = 6 ∨ ix = 7 ∨ ix = 8 ∨ ix = 9 ∨ ix = 10 ∨ ix = 11 ∨ ix = 12 := by omega
        · refine FrontStep.of [] _ rfl (by kernel_rfl) ?_
          intro vs LL wq hLL hC hf
          simp only [putL, List.foldl_nil]
          go_wp2_with fail
          first | exact Below.refl _ _ | exact ⟨Below.refl _ _, by omega⟩
        · refine FrontStep.of [] _ rfl (by kernel_rfl) ?_
          intro vs LL wq hLL hC hf
          simp only [putL, List.foldl_nil]
          go_wp2_with fail
          first | exact Below.refl _ _ | exact ⟨Below.refl _ _, by omega⟩
        · refine FrontStep.of [] _ rfl (by kernel_rfl) ?_
          intro vs LL wq hLL hC hf
          simp only [putL, List.foldl_nil]
          go_wp2_with fail
          first | exact Below.refl _ _ | exact ⟨Below.refl _ _, by omega⟩
        · refine FrontStep.of [1, 2] _ rfl (by kernel_rfl) ?_
          intro vs LL wq hLL hC hf
          simp only [putL, List.foldl_nil, List.foldl_cons, List.getElem?_cons_zero, List.getElem?_cons_succ]
          have e1 : vs 1 = _ := hf 1 (by simp)
          rw [e1]
          have e2 : vs 2 = _ := hf 2 (by simp)
          rw [e2]
          go_wp2_with fail
          first | exact Below.refl _ _ | exact ⟨Below.refl _ _, by omega⟩
        · refine FrontStep.of [3] _ rfl (by kernel_rfl) ?_
          intro vs LL wq hLL hC hf
          simp only [putL, List.foldl_nil, List.foldl_cons, List.getElem?_cons_zero, List.getElem?_cons_succ]
          have e3 : vs 3 = _ := hf 3 (by simp)
          rw [e3]
          have dd := cell_under (unhide hcV) hC
          go_wp2_with fail
          first | exact Below.refl _ _ | exact ⟨Below.refl _ _, by omega⟩ | exact ⟨Below.refl _ _, trivial⟩
        · refine FrontStep.of [] _ rfl (by kernel_rfl) ?_
          intro vs LL wq hLL hC hf
          simp only [putL, List.foldl_nil]
          go_wp2_with fail
          first | exact Below.refl _ _ | exact ⟨Below.refl _ _, by omega⟩
        · refine FrontStep.of [] _ rfl (by kernel_rfl) ?_
          intro vs LL wq hLL hC hf
          simp only [putL, List.foldl_nil]
          go_wp2_with fail
          first | exact Below.refl _ _ | exact ⟨Below.refl _ _, by omega⟩
        · refine FrontStep.of [5, 6] _ rfl (by kernel_rfl) ?_
          intro vs LL wq hLL hC hf
          simp only [putL, List.foldl_nil, List.foldl_cons, List.getElem?_cons_zero, List.getElem?_cons_succ]
          have e5 : vs 5 = _ := hf 5 (by simp)
          rw [e5]
          have e6 : vs 6 = _ := hf 6 (by simp)
          rw [e6]
          go_wp2_with fail
          first | exact Below.refl _ _ | exact ⟨Below.refl _ _, by omega⟩
        · refine FrontStep.of [7] _ rfl (by kernel_rfl) ?_
          intro vs LL wq hLL hC hf
          simp only [putL, List.foldl_nil, List.foldl_cons, List.getElem?_cons_zero, List.getElem?_cons_succ]
          have e7 : vs 7 = _ := hf 7 (by simp)
          rw [e7]
          have dd := cell_under (unhide hcV) hC
          go_wp2_with fail
          first | exact Below.refl _ _ | exact ⟨Below.refl _ _, by omega⟩ | exact ⟨Below.refl _ _, trivial⟩
        · refine FrontStep.of [8] _ rfl (by kernel_rfl) ?_
          intro vs LL wq hLL hC hf
          simp only [putL, List.foldl_nil, List.foldl_cons, List.getElem?_cons_zero, List.getElem?_cons_succ]
          have e8 : vs 8 = _ := hf 8 (by simp)
          rw [e8]
          go_wp2_with fail
          first | exact Below.refl _ _ | exact ⟨Below.refl _ _, by omega⟩
        · refine FrontStep.of [9] _ rfl (by kernel_rfl) ?_
          intro vs LL wq hLL hC hf
          simp only [putL, List.foldl_nil, List.foldl_cons, List.getElem?_cons_zero, List.getElem?_cons_succ]
          have e9 : vs 9 = _ := hf 9 (by simp)
          rw [e9]
          have hm' := unhide hm
          go_wp2_with fail
          first | exact Below.refl _ _ | exact ⟨Below.refl _ _, by omega⟩
        · refine FrontStep.of [4, 10] _ rfl (by kernel_rfl) ?_
          intro vs LL wq hLL hC hf
          simp only [putL, List.foldl_nil, List.foldl_cons, List.getElem?_cons_zero, List.getElem?_cons_succ]
          have e4 : vs 4 = _ := hf 4 (by simp)
          rw [e4]
          have e10 : vs 10 = _ := hf 10 (by simp)
          rw [e10]
          go_wp2_with fail
          first | exact Below.refl _ _ | exact ⟨Below.refl _ _, by omega⟩
        · refine FrontStep.of [11] _ rfl (by kernel_rfl) ?_
          intro vs LL wq hLL hC hf
          simp only [putL, List.foldl_nil, List.foldl_cons, List.getElem?_cons_zero, List.getElem?_cons_succ]
          have e11 : vs 11 = _ := hf 11 (by simp)
          rw [e11]
          go_wp2_with fail
          exact ⟨hC.alloc hC.size _, (Below.refl _ _).alloc (Nat.le_refl _) _, (Array.getElem?_eq_some_iff.1 (heap_alloc_new _ _)).2⟩
      · intro vs LL wq hLL hC hf
        have e0 : vs 0 = _ := hf 0 (by decide)
        obtain ⟨b35, e12, h35⟩ := hf 12 (by decide)
        rw [putSome_all]
        simp only [putL, List.range, List.range.loop, List.foldl_nil, List.foldl_cons, List.getElem?_cons_zero, List.getElem?_cons_succ, List.drop_succ_cons, List.drop_zero]
        rw [e0, e12]
        obtain ⟨wt, rfl⟩ : ∃ W : World, W = wq := ⟨_, rfl⟩
        have hownq := own_belowb (unhide hrow) hC
        have hszq : B ≤ wt.heap.size := Nat.le_trans hBV hC.size
        have hbq := (unhide hbw).trans (hC.mono hBV)
        clear e0 e12 hf hLL hC hrow hbw
        replace hownq := hide hownq; replace hbq := hide hbq; replace h35 := hide h35
        go_simp
        go_wp2_with (at_builtin; refine wpList_append_el Try.underlying22 info_ct rfl (by decide) (by decide) rfl _ _ rfl B _ k vs0 rfl (unhide hownq) _ [.slice ax m cx] rfl (unhide h35) rfl ?c2 ?c4 hszq ?_)
        case c2 => (intro u hu; simp at hu; subst hu; rfl)
        case c4 => omega
        intro v' w5 hown5 hg5 _
        have hb5 : Below B w w5 := Below.grown (unhide hbq) hg5 hszq (fun g hg => ((unhide hownq).lt g hg).1)
        clear hg5 hownq hbq h35
        replace hown5 := hide hown5; replace hb5 := hide hb5
        go_wp2_with fail
        go_roundw
        case rel => exact ⟨k + 1, _, by omega, by omega, by go_num, unhide hown5, by rw [List.length_append, unhide hvl]; rfl, unhide hrd2, unhide hb5⟩
        case measure => simp [intOf]; omega
    · have hkk : k = min n 10 := by omega
      have hfin : ((o.take k).map (List.take 70)) = fewO o ∧ (fewO o).length = k := by
        have hLn := unhide hol
        have h1 : o.take k = o.take 10 := by
          rcases Nat.le_total n 10 with h | h
          · rw [hkk, Nat.min_eq_left h, List.take_of_length_le (by omega), List.take_of_length_le (by omega)]
          · rw [hkk, Nat.min_eq_right h]
        refine ⟨by unfold fewO; rw [h1], ?_⟩
        unfold fewO
        rw [List.length_map, List.length_take]
        omega
      rw [hfin.1] at hrd
      rw [← hfin.2] at hrow
      obtain ⟨a1, c1, ev, q1, q2, q3⟩ := hrd.lst hrow (by rw [unhide hB]; exact hbw)
      rw [hfin.2] at ev
      obtain ⟨ea, _, ec⟩ := Value.slice.inj ev
      subst ea
      subst ec
      have hpost : FewPost6 o w (.returned (.slice va k vc)) V := ⟨va, vc, by rw [hfin.2], q1, q2, q3, by rw [unhide hB]; exact hbw⟩
      have t1 : decide ((k : Int) < (n : Int)) = true ∨ decide ((k : Int) < (n : Int)) = false := by cases decide ((k : Int) < (n : Int)) <;> simp
      clear hfin hrow hrd q1 q2 q3 hbw ev
      replace hpost := hide hpost; replace hkk := hide hkk
      by_cases hkn : k < n
      · have t2 : decide ((k : Int) < 10) = false := by simp; omega
        have t3 : decide ((k : Int) < (n : Int)) = true := by simp; omega
        have t4 : (k : Int) < (n : Int) := by omega
        have t5 : ¬ (k : Int) < 10 := by omega
        go_wp2_with fail
        go_ret
        exact unhide hpost
      · have t3 : decide ((k : Int) < (n : Int)) = false := by simp; omega
        have t4 : ¬ (k : Int) < (n : Int) := by omega
        go_wp2_with fail
        go_ret
        exact unhide hpost
end Go.Proofs.Ytbodidhggdggmaa
