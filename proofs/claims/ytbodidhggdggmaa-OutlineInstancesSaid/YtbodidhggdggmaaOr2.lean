/- The reference's Instance. -/
import Derived.Test.YtbodidhggdggmaaOlV
import Derived.Test.YtbodidhggdggmaaOlY
import Derived.Test.YtbodidhggdggmaaOl1
import Derived.Test.YtbodidhggdggmaaFrontG
namespace Go.Proofs.Ytbodidhggdggmaa
open Go.RowKit
theorem flat_split {o : Ot} {k : Nat} {c : List Pt} (h : o[k]? = some c) : (o.take k).flatten.length + c.length ≤ o.flatten.length := by
  have e : o.flatten.length = (o.take (k + 1)).flatten.length + (o.drop (k + 1)).flatten.length := by rw [← List.length_append, ← List.flatten_append, List.take_append_drop]
  rw [take_flat_len h] at e
  omega
set_option maxHeartbeats 16000000 in
set_option maxRecDepth 100000 in
theorem rinst_any (a : Option Addr) (n c : Nat) (o : Ot) (la : Option Addr) (m lc : Nat) (l : List Dl) (ua : Option Addr) (un uc : Nat) (u : List Int) (w : World) (hl : Lst Enc.ct w (· < w.heap.size) a n o) (hs : Sml o) (hd : Lst Enc.dl w (· < w.heap.size) la m l) (hu : Lst Enc.int w (· < w.heap.size) ua un u) (hun : un ≤ 4) (hml : ∀ d ∈ l, d.1.length ≤ 1000 ∧ d.2.length ≤ 1000000) :
    Calls Try.prog 24 #[.slice a n c, .slice la m lc, .slice ua un uc] w fun e w' => ∃ v, e = .returned (.tuple #[v, .int .i64 (instS o l u).2]) ∧ OO w' w.heap.size v (instS o l u).1 ∧ Below w.heap.size w w' := by
  have hlm : l.length = m := hd.1
  have hul : u.length = un := hu.1
  by_cases hm8 : 8 < m
  · rw [inst_many (by omega)]
    have t8 : (8 : Int) < (m : Int) := by omega
    clear hl hs hd hu hml hlm hul
    go_enter Try.func24, Try.ntmps24
    go_wp2_with fail
    go_ret2
    exact ⟨_, rfl, OO.nil _ _, Below.refl _ _⟩
  have t8 : ¬ (8 : Int) < (m : Int) := by omega
  obtain ⟨⟨N, hN⟩, hN2⟩ : (∃ N : Nat, countS o = (N : Int)) ∧ countS o ≤ 1000000 := ⟨⟨_, rfl⟩, (countS_le hs).2⟩
  rw [hN] at hN2
  replace hl := hide hl; replace hs := hide hs; replace hd := hide hd; replace hu := hide hu; replace hml := hide hml; replace hlm := hide hlm; replace hul := hide hul; replace hN := hide hN
  go_enter Try.func24, Try.ntmps24
  go_wp2_with fail
  go_loopw [8] (fun v wr => ∃ k : Nat, k ≤ m ∧ v = .int .i64 (k : Int) ∧ Below w.heap.size w wr ∧ (l.take k).all (fitD o u) = true) (fun v _ => (m - intOf v).toNat)
  case atStart => exact ⟨0, by omega, rfl, Below.refl _ _, rfl⟩
  case round =>
    obtain ⟨k, hk, rfl, hbw, hfit⟩ := hrel
    obtain ⟨V, rfl⟩ : ∃ V : World, V = wr := ⟨_, rfl⟩
    by_cases hlt : k < m
    · obtain ⟨bl, ol, ⟨ts, ms⟩, ta, tn, tc, ma, mn, mc, rfl, _, hdk, _, _, _, _, hts0, hms0, g0, g1⟩ := lst_dl ((unhide hd).under hbw) hlt
      have hsz := unhide hml _ (List.mem_of_getElem? hdk)
      simp only at hts0 hms0 hsz
      have htl : ts.length = tn := hts0.1
      have hmll : ms.length = mn := hms0.1
      have hlV := (unhide hl).under hbw
      obtain ⟨fb, hfb⟩ : ∃ b, fitsS ts (un : Int) = b := ⟨_, rfl⟩
      have kF : ∀ wq, Below V.heap.size V wq → Calls Try.prog 49 #[.slice ta tn tc, .int .i64 (un : Int)] wq fun e w' => e = .returned (.bool fb) ∧ Below wq.heap.size wq w' := fun wq hb => by
        have h := rfits_any ta tn tc ts (un : Int) wq (hts0.under hb) (by omega)
        rw [hfb] at h
        exact h
      have kC : ∀ wq, Below V.heap.size V wq → Calls Try.prog 16 #[.slice a n c] wq fun e w' => e = .returned (.int .i64 (N : Int)) ∧ w' = wq := fun wq hb => by
        have h := rcount_any a n c o wq (hlV.under hb) (unhide hs)
        rw [unhide hN] at h
        exact h
      have hmnb : mn ≤ 1000000 := by omega
      have t1 : (k : Int) < (m : Int) := by omega
      have t2 : ¬ (m : Int) ≤ (k : Int) := by omega
      clear hlV hts0 hms0
      replace kF := hide kF; replace kC := hide kC
      cases fb with
      | true =>
        by_cases hf2 : mn = N
        · have hfd : fitD o u (ts, ms) = true := by unfold fitD; rw [unhide hul, hfb, unhide hN]; simp; omega
          have hfit2 := all_take hfit hdk hfd
          have tne : ((mn : Int) != (N : Int)) = false := by rw [hf2]; exact bne_self_eq_false _
          clear hfit hdk hsz htl hmll hfb hfd
          replace hbw := hide hbw; replace hfit2 := hide hfit2; replace hf2 := hide hf2
          go_wp2_with fail
          refine wp_region_frontG 20 (fun _ _ w' => Below V.heap.size V w') (fun wa wb => Below wa.heap.size wa wb)
            (fun ix v w' => match ix with
              | 0 => v = .slice (some ⟨bl, ol, none⟩) m lc
              | 1 => v = .int .i64 (k : Int)
              | 2 => v = .pointer (some ⟨bl, ol + k * 2, none⟩)
              | 3 => v = .pointer (some ⟨bl, ol + k * 2, none⟩)
              | 4 => v = .slice ta tn tc
              | 5 => v = .slice ua un uc
              | 6 => v = .int .i64 (un : Int)
              | 7 => v = .bool true
              | 8 => v = .bool false
              | 9 => v = .bool false
              | 10 => v = .slice (some ⟨bl, ol, none⟩) m lc
              | 11 => v = .int .i64 (k : Int)
              | 12 => v = .pointer (some ⟨bl, ol + k * 2, none⟩)
              | 13 => v = .pointer (some ⟨bl, ol + k * 2 + 1, none⟩)
              | 14 => v = .slice ma mn mc
              | 15 => v = .int .i64 (mn : Int)
              | 16 => v = .slice a n c
              | 17 => v = .int .i64 (N : Int)
              | 18 => v = .bool false
              | 19 => v = .bool false
              | _ => True) (by rfl) (by kernel_rfl) ?_ ?_ ?_ ?_
          · exact (Below.refl _ _).drew
          · intro wa wb hR ix v hv
            match ix, hv with
            | 0, h => exact h
            | 1, h => exact h
            | 2, h => exact h
            | 3, h => exact h
            | 4, h => exact h
            | 5, h => exact h
            | 6, h => exact h
            | 7, h => exact h
            | 8, h => exact h
            | 9, h => exact h
            | 10, h => exact h
            | 11, h => exact h
            | 12, h => exact h
            | 13, h => exact h
            | 14, h => exact h
            | 15, h => exact h
            | 16, h => exact h
            | 17, h => exact h
            | 18, h => exact h
            | 19, h => exact h
            | _ + 20, _ => trivial
          · intro ix hix
            obtain rfl | rfl | rfl | rfl | rfl | rfl | rfl | rfl | rfl | rfl | rfl | rfl | rfl | rfl | rfl | rfl | rfl | rfl | rfl | rfl : ix = 0 ∨ ix = 1 ∨ ix = 2 ∨ ix = 3 ∨ ix = 4 ∨ ix = 5 ∨ ix = 6 ∨ ix = 7 ∨ ix = 8 ∨ ix = 9 ∨ ix = 10 ∨ ix = 11 ∨ ix = 12 ∨ ix = 13 ∨ ix = 14 ∨ ix = 15 ∨ ix = 16 ∨ ix = 17 ∨ ix = 18 ∨ ix = 19 := by omega
            · refine FrontStep.of [] _ rfl (by kernel_rfl) ?_
              intro vs LL wq hLL hC hf
              simp only [putL, List.foldl_nil]
              go_wp2_with fail
              first | exact Below.refl _ _ | exact ⟨Below.refl _ _, by omega⟩
            · refine FrontStep.of [] _ rfl (by kernel_rfl) ?_
              intro vs LL wq hLL hC hf
              simp only [putL, List.foldl_nil]
              go_wp2_with fail
              first | exact Below.refl _ _ | exact ⟨Below.refl _ _, by omega⟩
            · refine FrontStep.of [0, 1] _ rfl (by kernel_rfl) ?_
              intro vs LL wq hLL hC hf
              simp only [putL, List.foldl_nil, List.foldl_cons, List.getElem?_cons_zero, List.getElem?_cons_succ]
              have e0 : vs 0 = _ := hf 0 (by simp)
              rw [e0]
              have e1 : vs 1 = _ := hf 1 (by simp)
              rw [e1]
              go_wp2_with fail
              first | exact Below.refl _ _ | exact ⟨Below.refl _ _, by omega⟩
            · refine FrontStep.of [2] _ rfl (by kernel_rfl) ?_
              intro vs LL wq hLL hC hf
              simp only [putL, List.foldl_nil, List.foldl_cons, List.getElem?_cons_zero, List.getElem?_cons_succ]
              have e2 : vs 2 = _ := hf 2 (by simp)
              rw [e2]
              go_wp2_with fail
              first | exact Below.refl _ _ | exact ⟨Below.refl _ _, by omega⟩
            · refine FrontStep.of [3] _ rfl (by kernel_rfl) ?_
              intro vs LL wq hLL hC hf
              simp only [putL, List.foldl_nil, List.foldl_cons, List.getElem?_cons_zero, List.getElem?_cons_succ]
              have e3 : vs 3 = _ := hf 3 (by simp)
              rw [e3]
              have hcq := cell_under g0 hC
              go_wp2_with fail
              first | exact Below.refl _ _ | exact ⟨Below.refl _ _, by omega⟩
            · refine FrontStep.of [] _ rfl (by kernel_rfl) ?_
              intro vs LL wq hLL hC hf
              simp only [putL, List.foldl_nil]
              go_wp2_with fail
              first | exact Below.refl _ _ | exact ⟨Below.refl _ _, by omega⟩
            · refine FrontStep.of [5] _ rfl (by kernel_rfl) ?_
              intro vs LL wq hLL hC hf
              simp only [putL, List.foldl_nil, List.foldl_cons, List.getElem?_cons_zero, List.getElem?_cons_succ]
              have e5 : vs 5 = _ := hf 5 (by simp)
              rw [e5]
              go_wp2_with fail
              first | exact Below.refl _ _ | exact ⟨Below.refl _ _, by omega⟩
            · refine FrontStep.of [4, 6] _ rfl (by kernel_rfl) ?_
              intro vs LL wq hLL hC hf
              simp only [putL, List.foldl_nil, List.foldl_cons, List.getElem?_cons_zero, List.getElem?_cons_succ]
              have e4 : vs 4 = _ := hf 4 (by simp)
              rw [e4]
              have e6 : vs 6 = _ := hf 6 (by simp)
              rw [e6]
              have hcq := unhide kF wq hC
              replace hcq := hide hcq
              go_wp2_with fail
              refine (unhide hcq).mono ?_
              rintro e wz ⟨rfl, hbz⟩
              clear hcq
              go_wp2_with fail
              first | exact hC.trans (hbz.mono hC.size) | exact ⟨hC.trans (hbz.mono hC.size), hbz⟩ | exact ⟨hbz, hC.trans (hbz.mono hC.size)⟩
            · refine FrontStep.of [7] _ rfl (by kernel_rfl) ?_
              intro vs LL wq hLL hC hf
              simp only [putL, List.foldl_nil, List.foldl_cons, List.getElem?_cons_zero, List.getElem?_cons_succ]
              have e7 : vs 7 = _ := hf 7 (by simp)
              rw [e7]
              go_wp2_with fail
              first | exact Below.refl _ _ | exact ⟨Below.refl _ _, by omega⟩
            · refine FrontStep.of [7, 8] _ rfl (by kernel_rfl) ?_
              intro vs LL wq hLL hC hf
              simp only [putL, List.foldl_nil, List.foldl_cons, List.getElem?_cons_zero, List.getElem?_cons_succ]
              have e7 : vs 7 = _ := hf 7 (by simp)
              rw [e7]
              have e8 : vs 8 = _ := hf 8 (by simp)
              rw [e8]
              go_wp2_with fail
              first | exact Below.refl _ _ | exact ⟨Below.refl _ _, by omega⟩
            · refine FrontStep.of [9] _ rfl (by kernel_rfl) ?_
              intro vs LL wq hLL hC hf
              simp only [putL, List.foldl_nil, List.foldl_cons, List.getElem?_cons_zero, List.getElem?_cons_succ]
              have e9 : vs 9 = _ := hf 9 (by simp)
              rw [e9]
              go_wp2_with fail
              first | exact Below.refl _ _ | exact ⟨Below.refl _ _, by omega⟩
            · refine FrontStep.of [9] _ rfl (by kernel_rfl) ?_
              intro vs LL wq hLL hC hf
              simp only [putL, List.foldl_nil, List.foldl_cons, List.getElem?_cons_zero, List.getElem?_cons_succ]
              have e9 : vs 9 = _ := hf 9 (by simp)
              rw [e9]
              go_wp2_with fail
              first | exact Below.refl _ _ | exact ⟨Below.refl _ _, by omega⟩
            · refine FrontStep.of [9, 10, 11] _ rfl (by kernel_rfl) ?_
              intro vs LL wq hLL hC hf
              simp only [putL, List.foldl_nil, List.foldl_cons, List.getElem?_cons_zero, List.getElem?_cons_succ]
              have e9 : vs 9 = _ := hf 9 (by simp)
              rw [e9]
              have e10 : vs 10 = _ := hf 10 (by simp)
              rw [e10]
              have e11 : vs 11 = _ := hf 11 (by simp)
              rw [e11]
              go_wp2_with fail
              first | exact Below.refl _ _ | exact ⟨Below.refl _ _, by omega⟩
            · refine FrontStep.of [9, 12] _ rfl (by kernel_rfl) ?_
              intro vs LL wq hLL hC hf
              simp only [putL, List.foldl_nil, List.foldl_cons, List.getElem?_cons_zero, List.getElem?_cons_succ]
              have e9 : vs 9 = _ := hf 9 (by simp)
              rw [e9]
              have e12 : vs 12 = _ := hf 12 (by simp)
              rw [e12]
              go_wp2_with fail
              first | exact Below.refl _ _ | exact ⟨Below.refl _ _, by omega⟩
            · refine FrontStep.of [9, 13] _ rfl (by kernel_rfl) ?_
              intro vs LL wq hLL hC hf
              simp only [putL, List.foldl_nil, List.foldl_cons, List.getElem?_cons_zero, List.getElem?_cons_succ]
              have e9 : vs 9 = _ := hf 9 (by simp)
              rw [e9]
              have e13 : vs 13 = _ := hf 13 (by simp)
              rw [e13]
              have hcq := cell_under g1 hC
              go_wp2_with fail
              first | exact Below.refl _ _ | exact ⟨Below.refl _ _, by omega⟩
            · refine FrontStep.of [9, 14] _ rfl (by kernel_rfl) ?_
              intro vs LL wq hLL hC hf
              simp only [putL, List.foldl_nil, List.foldl_cons, List.getElem?_cons_zero, List.getElem?_cons_succ]
              have e9 : vs 9 = _ := hf 9 (by simp)
              rw [e9]
              have e14 : vs 14 = _ := hf 14 (by simp)
              rw [e14]
              go_wp2_with fail
              first | exact Below.refl _ _ | exact ⟨Below.refl _ _, by omega⟩
            · refine FrontStep.of [9] _ rfl (by kernel_rfl) ?_
              intro vs LL wq hLL hC hf
              simp only [putL, List.foldl_nil, List.foldl_cons, List.getElem?_cons_zero, List.getElem?_cons_succ]
              have e9 : vs 9 = _ := hf 9 (by simp)
              rw [e9]
              go_wp2_with fail
              first | exact Below.refl _ _ | exact ⟨Below.refl _ _, by omega⟩
            · refine FrontStep.of [9, 16] _ rfl (by kernel_rfl) ?_
              intro vs LL wq hLL hC hf
              simp only [putL, List.foldl_nil, List.foldl_cons, List.getElem?_cons_zero, List.getElem?_cons_succ]
              have e9 : vs 9 = _ := hf 9 (by simp)
              rw [e9]
              have e16 : vs 16 = _ := hf 16 (by simp)
              rw [e16]
              have hcq := unhide kC wq hC
              replace hcq := hide hcq
              go_wp2_with fail
              refine (unhide hcq).mono ?_
              rintro e wz ⟨rfl, rfl⟩
              clear hcq
              go_wp2_with fail
              first | exact hC | exact ⟨hC, Below.refl _ _⟩ | exact Below.refl _ _
            · refine FrontStep.of [9, 15, 17] _ rfl (by kernel_rfl) ?_
              intro vs LL wq hLL hC hf
              simp only [putL, List.foldl_nil, List.foldl_cons, List.getElem?_cons_zero, List.getElem?_cons_succ]
              have e9 : vs 9 = _ := hf 9 (by simp)
              rw [e9]
              have e15 : vs 15 = _ := hf 15 (by simp)
              rw [e15]
              have e17 : vs 17 = _ := hf 17 (by simp)
              rw [e17]
              go_wp2_with fail
              first | exact Below.refl _ _ | exact ⟨Below.refl _ _, by omega⟩
            · refine FrontStep.of [9, 18] _ rfl (by kernel_rfl) ?_
              intro vs LL wq hLL hC hf
              simp only [putL, List.foldl_nil, List.foldl_cons, List.getElem?_cons_zero, List.getElem?_cons_succ]
              have e9 : vs 9 = _ := hf 9 (by simp)
              rw [e9]
              have e18 : vs 18 = _ := hf 18 (by simp)
              rw [e18]
              go_wp2_with fail
              first | exact Below.refl _ _ | exact ⟨Below.refl _ _, by omega⟩
          · intro vs LL wq hLL hC hf
            have e19 : vs 19 = _ := hf 19 (by omega)
            rw [putSome_all]
            simp only [putL, List.range, List.range.loop, List.foldl_nil, List.foldl_cons, List.getElem?_cons_zero, List.getElem?_cons_succ, List.drop_succ_cons, List.drop_zero]
            rw [e19]
            clear e19 hf hLL
            have hbz := hide ((unhide hbw).trans (hC.mono (unhide hbw).size))
            clear hC hbw
            go_simp
            go_wp2_with fail
            go_roundw
            case rel => exact ⟨k + 1, by omega, by go_num, unhide hbz, unhide hfit2⟩
            case measure => simp [intOf]; omega
        · have hfd : fitD o u (ts, ms) = false := by unfold fitD; rw [unhide hN]; simp; intro _; omega
          have tne : ((mn : Int) != (N : Int)) = true := by rw [bne_iff_ne]; omega
          have hbad := inst_bad (by have := unhide hlm; omega) hdk hfd
          clear hfit hdk hsz htl hmll hfb hfd
          replace hbw := hide hbw; replace hbad := hide hbad; replace hf2 := hide hf2
          go_wp2_with fail
          refine wp_region_frontG 20 (fun _ _ w' => Below V.heap.size V w') (fun wa wb => Below wa.heap.size wa wb)
            (fun ix v w' => match ix with
              | 0 => v = .slice (some ⟨bl, ol, none⟩) m lc
              | 1 => v = .int .i64 (k : Int)
              | 2 => v = .pointer (some ⟨bl, ol + k * 2, none⟩)
              | 3 => v = .pointer (some ⟨bl, ol + k * 2, none⟩)
              | 4 => v = .slice ta tn tc
              | 5 => v = .slice ua un uc
              | 6 => v = .int .i64 (un : Int)
              | 7 => v = .bool true
              | 8 => v = .bool false
              | 9 => v = .bool false
              | 10 => v = .slice (some ⟨bl, ol, none⟩) m lc
              | 11 => v = .int .i64 (k : Int)
              | 12 => v = .pointer (some ⟨bl, ol + k * 2, none⟩)
              | 13 => v = .pointer (some ⟨bl, ol + k * 2 + 1, none⟩)
              | 14 => v = .slice ma mn mc
              | 15 => v = .int .i64 (mn : Int)
              | 16 => v = .slice a n c
              | 17 => v = .int .i64 (N : Int)
              | 18 => v = .bool true
              | 19 => v = .bool true
              | _ => True) (by rfl) (by kernel_rfl) ?_ ?_ ?_ ?_
          · exact (Below.refl _ _).drew
          · intro wa wb hR ix v hv
            match ix, hv with
            | 0, h => exact h
            | 1, h => exact h
            | 2, h => exact h
            | 3, h => exact h
            | 4, h => exact h
            | 5, h => exact h
            | 6, h => exact h
            | 7, h => exact h
            | 8, h => exact h
            | 9, h => exact h
            | 10, h => exact h
            | 11, h => exact h
            | 12, h => exact h
            | 13, h => exact h
            | 14, h => exact h
            | 15, h => exact h
            | 16, h => exact h
            | 17, h => exact h
            | 18, h => exact h
            | 19, h => exact h
            | _ + 20, _ => trivial
          · intro ix hix
            obtain rfl | rfl | rfl | rfl | rfl | rfl | rfl | rfl | rfl | rfl | rfl | rfl | rfl | rfl | rfl | rfl | rfl | rfl | rfl | rfl : ix = 0 ∨ ix = 1 ∨ ix = 2 ∨ ix = 3 ∨ ix = 4 ∨ ix = 5 ∨ ix = 6 ∨ ix = 7 ∨ ix = 8 ∨ ix = 9 ∨ ix = 10 ∨ ix = 11 ∨ ix = 12 ∨ ix = 13 ∨ ix = 14 ∨ ix = 15 ∨ ix = 16 ∨ ix = 17 ∨ ix = 18 ∨ ix = 19 := by omega
            · refine FrontStep.of [] _ rfl (by kernel_rfl) ?_
              intro vs LL wq hLL hC hf
              simp only [putL, List.foldl_nil]
              go_wp2_with fail
              first | exact Below.refl _ _ | exact ⟨Below.refl _ _, by omega⟩
            · refine FrontStep.of [] _ rfl (by kernel_rfl) ?_
              intro vs LL wq hLL hC hf
              simp only [putL, List.foldl_nil]
              go_wp2_with fail
              first | exact Below.refl _ _ | exact ⟨Below.refl _ _, by omega⟩
            · refine FrontStep.of [0, 1] _ rfl (by kernel_rfl) ?_
              intro vs LL wq hLL hC hf
              simp only [putL, List.foldl_nil, List.foldl_cons, List.getElem?_cons_zero, List.getElem?_cons_succ]
              have e0 : vs 0 = _ := hf 0 (by simp)
              rw [e0]
              have e1 : vs 1 = _ := hf 1 (by simp)
              rw [e1]
              go_wp2_with fail
              first | exact Below.refl _ _ | exact ⟨Below.refl _ _, by omega⟩
            · refine FrontStep.of [2] _ rfl (by kernel_rfl) ?_
              intro vs LL wq hLL hC hf
              simp only [putL, List.foldl_nil, List.foldl_cons, List.getElem?_cons_zero, List.getElem?_cons_succ]
              have e2 : vs 2 = _ := hf 2 (by simp)
              rw [e2]
              go_wp2_with fail
              first | exact Below.refl _ _ | exact ⟨Below.refl _ _, by omega⟩
            · refine FrontStep.of [3] _ rfl (by kernel_rfl) ?_
              intro vs LL wq hLL hC hf
              simp only [putL, List.foldl_nil, List.foldl_cons, List.getElem?_cons_zero, List.getElem?_cons_succ]
              have e3 : vs 3 = _ := hf 3 (by simp)
              rw [e3]
              have hcq := cell_under g0 hC
              go_wp2_with fail
              first | exact Below.refl _ _ | exact ⟨Below.refl _ _, by omega⟩
            · refine FrontStep.of [] _ rfl (by kernel_rfl) ?_
              intro vs LL wq hLL hC hf
              simp only [putL, List.foldl_nil]
              go_wp2_with fail
              first | exact Below.refl _ _ | exact ⟨Below.refl _ _, by omega⟩
            · refine FrontStep.of [5] _ rfl (by kernel_rfl) ?_
              intro vs LL wq hLL hC hf
              simp only [putL, List.foldl_nil, List.foldl_cons, List.getElem?_cons_zero, List.getElem?_cons_succ]
              have e5 : vs 5 = _ := hf 5 (by simp)
              rw [e5]
              go_wp2_with fail
              first | exact Below.refl _ _ | exact ⟨Below.refl _ _, by omega⟩
            · refine FrontStep.of [4, 6] _ rfl (by kernel_rfl) ?_
              intro vs LL wq hLL hC hf
              simp only [putL, List.foldl_nil, List.foldl_cons, List.getElem?_cons_zero, List.getElem?_cons_succ]
              have e4 : vs 4 = _ := hf 4 (by simp)
              rw [e4]
              have e6 : vs 6 = _ := hf 6 (by simp)
              rw [e6]
              have hcq := unhide kF wq hC
              replace hcq := hide hcq
              go_wp2_with fail
              refine (unhide hcq).mono ?_
              rintro e wz ⟨rfl, hbz⟩
              clear hcq
              go_wp2_with fail
              first | exact hC.trans (hbz.mono hC.size) | exact ⟨hC.trans (hbz.mono hC.size), hbz⟩ | exact ⟨hbz, hC.trans (hbz.mono hC.size)⟩
            · refine FrontStep.of [7] _ rfl (by kernel_rfl) ?_
              intro vs LL wq hLL hC hf
              simp only [putL, List.foldl_nil, List.foldl_cons, List.getElem?_cons_zero, List.getElem?_cons_succ]
              have e7 : vs 7 = _ := hf 7 (by simp)
              rw [e7]
              go_wp2_with fail
              first | exact Below.refl _ _ | exact ⟨Below.refl _ _, by omega⟩
            · refine FrontStep.of [7, 8] _ rfl (by kernel_rfl) ?_
              intro vs LL wq hLL hC hf
              simp only [putL, List.foldl_nil, List.foldl_cons, List.getElem?_cons_zero, List.getElem?_cons_succ]
              have e7 : vs 7 = _ := hf 7 (by simp)
              rw [e7]
              have e8 : vs 8 = _ := hf 8 (by simp)
              rw [e8]
              go_wp2_with fail
              first | exact Below.refl _ _ | exact ⟨Below.refl _ _, by omega⟩
            · refine FrontStep.of [9] _ rfl (by kernel_rfl) ?_
              intro vs LL wq hLL hC hf
              simp only [putL, List.foldl_nil, List.foldl_cons, List.getElem?_cons_zero, List.getElem?_cons_succ]
              have e9 : vs 9 = _ := hf 9 (by simp)
              rw [e9]
              go_wp2_with fail
              first | exact Below.refl _ _ | exact ⟨Below.refl _ _, by omega⟩
            · refine FrontStep.of [9] _ rfl (by kernel_rfl) ?_
              intro vs LL wq hLL hC hf
              simp only [putL, List.foldl_nil, List.foldl_cons, List.getElem?_cons_zero, List.getElem?_cons_succ]
              have e9 : vs 9 = _ := hf 9 (by simp)
              rw [e9]
              go_wp2_with fail
              first | exact Below.refl _ _ | exact ⟨Below.refl _ _, by omega⟩
            · refine FrontStep.of [9, 10, 11] _ rfl (by kernel_rfl) ?_
              intro vs LL wq hLL hC hf
              simp only [putL, List.foldl_nil, List.foldl_cons, List.getElem?_cons_zero, List.getElem?_cons_succ]
              have e9 : vs 9 = _ := hf 9 (by simp)
              rw [e9]
              have e10 : vs 10 = _ := hf 10 (by simp)
              rw [e10]
              have e11 : vs 11 = _ := hf 11 (by simp)
              rw [e11]
              go_wp2_with fail
              first | exact Below.refl _ _ | exact ⟨Below.refl _ _, by omega⟩
            · refine FrontStep.of [9, 12] _ rfl (by kernel_rfl) ?_
              intro vs LL wq hLL hC hf
              simp only [putL, List.foldl_nil, List.foldl_cons, List.getElem?_cons_zero, List.getElem?_cons_succ]
              have e9 : vs 9 = _ := hf 9 (by simp)
              rw [e9]
              have e12 : vs 12 = _ := hf 12 (by simp)
              rw [e12]
              go_wp2_with fail
              first | exact Below.refl _ _ | exact ⟨Below.refl _ _, by omega⟩
            · refine FrontStep.of [9, 13] _ rfl (by kernel_rfl) ?_
              intro vs LL wq hLL hC hf
              simp only [putL, List.foldl_nil, List.foldl_cons, List.getElem?_cons_zero, List.getElem?_cons_succ]
              have e9 : vs 9 = _ := hf 9 (by simp)
              rw [e9]
              have e13 : vs 13 = _ := hf 13 (by simp)
              rw [e13]
              have hcq := cell_under g1 hC
              go_wp2_with fail
              first | exact Below.refl _ _ | exact ⟨Below.refl _ _, by omega⟩
            · refine FrontStep.of [9, 14] _ rfl (by kernel_rfl) ?_
              intro vs LL wq hLL hC hf
              simp only [putL, List.foldl_nil, List.foldl_cons, List.getElem?_cons_zero, List.getElem?_cons_succ]
              have e9 : vs 9 = _ := hf 9 (by simp)
              rw [e9]
              have e14 : vs 14 = _ := hf 14 (by simp)
              rw [e14]
              go_wp2_with fail
              first | exact Below.refl _ _ | exact ⟨Below.refl _ _, by omega⟩
            · refine FrontStep.of [9] _ rfl (by kernel_rfl) ?_
              intro vs LL wq hLL hC hf
              simp only [putL, List.foldl_nil, List.foldl_cons, List.getElem?_cons_zero, List.getElem?_cons_succ]
              have e9 : vs 9 = _ := hf 9 (by simp)
              rw [e9]
              go_wp2_with fail
              first | exact Below.refl _ _ | exact ⟨Below.refl _ _, by omega⟩
            · refine FrontStep.of [9, 16] _ rfl (by kernel_rfl) ?_
              intro vs LL wq hLL hC hf
              simp only [putL, List.foldl_nil, List.foldl_cons, List.getElem?_cons_zero, List.getElem?_cons_succ]
              have e9 : vs 9 = _ := hf 9 (by simp)
              rw [e9]
              have e16 : vs 16 = _ := hf 16 (by simp)
              rw [e16]
              have hcq := unhide kC wq hC
              replace hcq := hide hcq
              go_wp2_with fail
              refine (unhide hcq).mono ?_
              rintro e wz ⟨rfl, rfl⟩
              clear hcq
              go_wp2_with fail
              first | exact hC | exact ⟨hC, Below.refl _ _⟩ | exact Below.refl _ _
            · refine FrontStep.of [9, 15, 17] _ rfl (by kernel_rfl) ?_
              intro vs LL wq hLL hC hf
              simp only [putL, List.foldl_nil, List.foldl_cons, List.getElem?_cons_zero, List.getElem?_cons_succ]
              have e9 : vs 9 = _ := hf 9 (by simp)
              rw [e9]
              have e15 : vs 15 = _ := hf 15 (by simp)
              rw [e15]
              have e17 : vs 17 = _ := hf 17 (by simp)
              rw [e17]
              go_wp2_with fail
              first | exact Below.refl _ _ | exact ⟨Below.refl _ _, by omega⟩
            · refine FrontStep.of [9, 18] _ rfl (by kernel_rfl) ?_
              intro vs LL wq hLL hC hf
              simp only [putL, List.foldl_nil, List.foldl_cons, List.getElem?_cons_zero, List.getElem?_cons_succ]
              have e9 : vs 9 = _ := hf 9 (by simp)
              rw [e9]
              have e18 : vs 18 = _ := hf 18 (by simp)
              rw [e18]
              go_wp2_with fail
              first | exact Below.refl _ _ | exact ⟨Below.refl _ _, by omega⟩
          · intro vs LL wq hLL hC hf
            have e19 : vs 19 = _ := hf 19 (by omega)
            rw [putSome_all]
            simp only [putL, List.range, List.range.loop, List.foldl_nil, List.foldl_cons, List.getElem?_cons_zero, List.getElem?_cons_succ, List.drop_succ_cons, List.drop_zero]
            rw [e19]
            clear e19 hf hLL
            have hbz := hide ((unhide hbw).trans (hC.mono (unhide hbw).size))
            clear hC hbw
            go_simp
            go_wp2_with fail
            go_ret2
            exact ⟨_, by rw [unhide hbad]; rfl, by rw [unhide hbad]; exact OO.nil _ _, unhide hbz⟩
      | false =>
        have hfd : fitD o u (ts, ms) = false := by unfold fitD; rw [unhide hul, hfb]; rfl
        have hbad := inst_bad (by have := unhide hlm; omega) hdk hfd
        clear hfit hdk hsz htl hmll hfb hfd
        replace hbw := hide hbw; replace hbad := hide hbad
        go_wp2_with fail
        refine wp_region_frontG 20 (fun _ _ w' => Below V.heap.size V w') (fun wa wb => Below wa.heap.size wa wb)
          (fun ix v w' => match ix with
            | 0 => v = .slice (some ⟨bl, ol, none⟩) m lc
            | 1 => v = .int .i64 (k : Int)
            | 2 => v = .pointer (some ⟨bl, ol + k * 2, none⟩)
            | 3 => v = .pointer (some ⟨bl, ol + k * 2, none⟩)
            | 4 => v = .slice ta tn tc
            | 5 => v = .slice ua un uc
            | 6 => v = .int .i64 (un : Int)
            | 7 => v = .bool false
            | 8 => v = .bool true
            | 9 => v = .bool true
            | 10 => v = undef
            | 11 => v = undef
            | 12 => v = undef
            | 13 => v = undef
            | 14 => v = undef
            | 15 => v = undef
            | 16 => v = undef
            | 17 => v = undef
            | 18 => v = undef
            | 19 => v = .bool true
            | _ => True) (by rfl) (by kernel_rfl) ?_ ?_ ?_ ?_
        · exact (Below.refl _ _).drew
        · intro wa wb hR ix v hv
          match ix, hv with
          | 0, h => exact h
          | 1, h => exact h
          | 2, h => exact h
          | 3, h => exact h
          | 4, h => exact h
          | 5, h => exact h
          | 6, h => exact h
          | 7, h => exact h
          | 8, h => exact h
          | 9, h => exact h
          | 10, h => exact h
          | 11, h => exact h
          | 12, h => exact h
          | 13, h => exact h
          | 14, h => exact h
          | 15, h => exact h
          | 16, h => exact h
          | 17, h => exact h
          | 18, h => exact h
          | 19, h => exact h
          | _ + 20, _ => trivial
        · intro ix hix
          obtain rfl | rfl | rfl | rfl | rfl | rfl | rfl | rfl | rfl | rfl | rfl | rfl | rfl | rfl | rfl | rfl | rfl | rfl | rfl | rfl : ix = 0 ∨ ix = 1 ∨ ix = 2 ∨ ix = 3 ∨ ix = 4 ∨ ix = 5 ∨ ix = 6 ∨ ix = 7 ∨ ix = 8 ∨ ix = 9 ∨ ix = 10 ∨ ix = 11 ∨ ix = 12 ∨ ix = 13 ∨ ix = 14 ∨ ix = 15 ∨ ix = 16 ∨ ix = 17 ∨ ix = 18 ∨ ix = 19 := by omega
          · refine FrontStep.of [] _ rfl (by kernel_rfl) ?_
            intro vs LL wq hLL hC hf
            simp only [putL, List.foldl_nil]
            go_wp2_with fail
            first | exact Below.refl _ _ | exact ⟨Below.refl _ _, by omega⟩
          · refine FrontStep.of [] _ rfl (by kernel_rfl) ?_
            intro vs LL wq hLL hC hf
            simp only [putL, List.foldl_nil]
            go_wp2_with fail
            first | exact Below.refl _ _ | exact ⟨Below.refl _ _, by omega⟩
          · refine FrontStep.of [0, 1] _ rfl (by kernel_rfl) ?_
            intro vs LL wq hLL hC hf
            simp only [putL, List.foldl_nil, List.foldl_cons, List.getElem?_cons_zero, List.getElem?_cons_succ]
            have e0 : vs 0 = _ := hf 0 (by simp)
            rw [e0]
            have e1 : vs 1 = _ := hf 1 (by simp)
            rw [e1]
            go_wp2_with fail
            first | exact Below.refl _ _ | exact ⟨Below.refl _ _, by omega⟩
          · refine FrontStep.of [2] _ rfl (by kernel_rfl) ?_
            intro vs LL wq hLL hC hf
            simp only [putL, List.foldl_nil, List.foldl_cons, List.getElem?_cons_zero, List.getElem?_cons_succ]
            have e2 : vs 2 = _ := hf 2 (by simp)
            rw [e2]
            go_wp2_with fail
            first | exact Below.refl _ _ | exact ⟨Below.refl _ _, by omega⟩
          · refine FrontStep.of [3] _ rfl (by kernel_rfl) ?_
            intro vs LL wq hLL hC hf
            simp only [putL, List.foldl_nil, List.foldl_cons, List.getElem?_cons_zero, List.getElem?_cons_succ]
            have e3 : vs 3 = _ := hf 3 (by simp)
            rw [e3]
            have hcq := cell_under g0 hC
            go_wp2_with fail
            first | exact Below.refl _ _ | exact ⟨Below.refl _ _, by omega⟩
          · refine FrontStep.of [] _ rfl (by kernel_rfl) ?_
            intro vs LL wq hLL hC hf
            simp only [putL, List.foldl_nil]
            go_wp2_with fail
            first | exact Below.refl _ _ | exact ⟨Below.refl _ _, by omega⟩
          · refine FrontStep.of [5] _ rfl (by kernel_rfl) ?_
            intro vs LL wq hLL hC hf
            simp only [putL, List.foldl_nil, List.foldl_cons, List.getElem?_cons_zero, List.getElem?_cons_succ]
            have e5 : vs 5 = _ := hf 5 (by simp)
            rw [e5]
            go_wp2_with fail
            first | exact Below.refl _ _ | exact ⟨Below.refl _ _, by omega⟩
          · refine FrontStep.of [4, 6] _ rfl (by kernel_rfl) ?_
            intro vs LL wq hLL hC hf
            simp only [putL, List.foldl_nil, List.foldl_cons, List.getElem?_cons_zero, List.getElem?_cons_succ]
            have e4 : vs 4 = _ := hf 4 (by simp)
            rw [e4]
            have e6 : vs 6 = _ := hf 6 (by simp)
            rw [e6]
            have hcq := unhide kF wq hC
            replace hcq := hide hcq
            go_wp2_with fail
            refine (unhide hcq).mono ?_
            rintro e wz ⟨rfl, hbz⟩
            clear hcq
            go_wp2_with fail
            first | exact hC.trans (hbz.mono hC.size) | exact ⟨hC.trans (hbz.mono hC.size), hbz⟩ | exact ⟨hbz, hC.trans (hbz.mono hC.size)⟩
          · refine FrontStep.of [7] _ rfl (by kernel_rfl) ?_
            intro vs LL wq hLL hC hf
            simp only [putL, List.foldl_nil, List.foldl_cons, List.getElem?_cons_zero, List.getElem?_cons_succ]
            have e7 : vs 7 = _ := hf 7 (by simp)
            rw [e7]
            go_wp2_with fail
            first | exact Below.refl _ _ | exact ⟨Below.refl _ _, by omega⟩
          · refine FrontStep.of [7, 8] _ rfl (by kernel_rfl) ?_
            intro vs LL wq hLL hC hf
            simp only [putL, List.foldl_nil, List.foldl_cons, List.getElem?_cons_zero, List.getElem?_cons_succ]
            have e7 : vs 7 = _ := hf 7 (by simp)
            rw [e7]
            have e8 : vs 8 = _ := hf 8 (by simp)
            rw [e8]
            go_wp2_with fail
            first | exact Below.refl _ _ | exact ⟨Below.refl _ _, by omega⟩
          · refine FrontStep.of [9] _ rfl (by kernel_rfl) ?_
            intro vs LL wq hLL hC hf
            simp only [putL, List.foldl_nil, List.foldl_cons, List.getElem?_cons_zero, List.getElem?_cons_succ]
            have e9 : vs 9 = _ := hf 9 (by simp)
            rw [e9]
            go_wp2_with fail
            first | exact Below.refl _ _ | exact ⟨Below.refl _ _, by omega⟩
          · refine FrontStep.of [9] _ rfl (by kernel_rfl) ?_
            intro vs LL wq hLL hC hf
            simp only [putL, List.foldl_nil, List.foldl_cons, List.getElem?_cons_zero, List.getElem?_cons_succ]
            have e9 : vs 9 = _ := hf 9 (by simp)
            rw [e9]
            go_wp2_with fail
            first | exact Below.refl _ _ | exact ⟨Below.refl _ _, by omega⟩
          · refine FrontStep.of [9, 10, 11] _ rfl (by kernel_rfl) ?_
            intro vs LL wq hLL hC hf
            simp only [putL, List.foldl_nil, List.foldl_cons, List.getElem?_cons_zero, List.getElem?_cons_succ]
            have e9 : vs 9 = _ := hf 9 (by simp)
            rw [e9]
            have e10 : vs 10 = _ := hf 10 (by simp)
            rw [e10]
            have e11 : vs 11 = _ := hf 11 (by simp)
            rw [e11]
            go_wp2_with fail
            first | exact Below.refl _ _ | exact ⟨Below.refl _ _, by omega⟩
          · refine FrontStep.of [9, 12] _ rfl (by kernel_rfl) ?_
            intro vs LL wq hLL hC hf
            simp only [putL, List.foldl_nil, List.foldl_cons, List.getElem?_cons_zero, List.getElem?_cons_succ]
            have e9 : vs 9 = _ := hf 9 (by simp)
            rw [e9]
            have e12 : vs 12 = _ := hf 12 (by simp)
            rw [e12]
            go_wp2_with fail
            first | exact Below.refl _ _ | exact ⟨Below.refl _ _, by omega⟩
          · refine FrontStep.of [9, 13] _ rfl (by kernel_rfl) ?_
            intro vs LL wq hLL hC hf
            simp only [putL, List.foldl_nil, List.foldl_cons, List.getElem?_cons_zero, List.getElem?_cons_succ]
            have e9 : vs 9 = _ := hf 9 (by simp)
            rw [e9]
            have e13 : vs 13 = _ := hf 13 (by simp)
            rw [e13]
            go_wp2_with fail
            first | exact Below.refl _ _ | exact ⟨Below.refl _ _, by omega⟩
          · refine FrontStep.of [9, 14] _ rfl (by kernel_rfl) ?_
            intro vs LL wq hLL hC hf
            simp only [putL, List.foldl_nil, List.foldl_cons, List.getElem?_cons_zero, List.getElem?_cons_succ]
            have e9 : vs 9 = _ := hf 9 (by simp)
            rw [e9]
            have e14 : vs 14 = _ := hf 14 (by simp)
            rw [e14]
            go_wp2_with fail
            first | exact Below.refl _ _ | exact ⟨Below.refl _ _, by omega⟩
          · refine FrontStep.of [9] _ rfl (by kernel_rfl) ?_
            intro vs LL wq hLL hC hf
            simp only [putL, List.foldl_nil, List.foldl_cons, List.getElem?_cons_zero, List.getElem?_cons_succ]
            have e9 : vs 9 = _ := hf 9 (by simp)
            rw [e9]
            go_wp2_with fail
            first | exact Below.refl _ _ | exact ⟨Below.refl _ _, by omega⟩
          · refine FrontStep.of [9, 16] _ rfl (by kernel_rfl) ?_
            intro vs LL wq hLL hC hf
            simp only [putL, List.foldl_nil, List.foldl_cons, List.getElem?_cons_zero, List.getElem?_cons_succ]
            have e9 : vs 9 = _ := hf 9 (by simp)
            rw [e9]
            have e16 : vs 16 = _ := hf 16 (by simp)
            rw [e16]
            go_wp2_with fail
            first | exact Below.refl _ _ | exact ⟨Below.refl _ _, by omega⟩
          · refine FrontStep.of [9, 15, 17] _ rfl (by kernel_rfl) ?_
            intro vs LL wq hLL hC hf
            simp only [putL, List.foldl_nil, List.foldl_cons, List.getElem?_cons_zero, List.getElem?_cons_succ]
            have e9 : vs 9 = _ := hf 9 (by simp)
            rw [e9]
            have e15 : vs 15 = _ := hf 15 (by simp)
            rw [e15]
            have e17 : vs 17 = _ := hf 17 (by simp)
            rw [e17]
            go_wp2_with fail
            first | exact Below.refl _ _ | exact ⟨Below.refl _ _, by omega⟩
          · refine FrontStep.of [9, 18] _ rfl (by kernel_rfl) ?_
            intro vs LL wq hLL hC hf
            simp only [putL, List.foldl_nil, List.foldl_cons, List.getElem?_cons_zero, List.getElem?_cons_succ]
            have e9 : vs 9 = _ := hf 9 (by simp)
            rw [e9]
            have e18 : vs 18 = _ := hf 18 (by simp)
            rw [e18]
            go_wp2_with fail
            first | exact Below.refl _ _ | exact ⟨Below.refl _ _, by omega⟩
        · intro vs LL wq hLL hC hf
          have e19 : vs 19 = _ := hf 19 (by omega)
          rw [putSome_all]
          simp only [putL, List.range, List.range.loop, List.foldl_nil, List.foldl_cons, List.getElem?_cons_zero, List.getElem?_cons_succ, List.drop_succ_cons, List.drop_zero]
          rw [e19]
          clear e19 hf hLL
          have hbz := hide ((unhide hbw).trans (hC.mono (unhide hbw).size))
          clear hC hbw
          go_simp
          go_wp2_with fail
          go_ret2
          exact ⟨_, by rw [unhide hbad]; rfl, by rw [unhide hbad]; exact OO.nil _ _, unhide hbz⟩
    · have hke : k = m := by omega
      have t1 : ¬ (k : Int) < (m : Int) := by omega
      have t2 : (m : Int) ≤ (k : Int) := by omega
      rw [hke] at hfit
      clear hk hlt hke
      rw [List.take_of_length_le (by rw [unhide hlm]; exact Nat.le_refl _)] at hfit
      have hok := hide (inst_ok (o := o) (by have := unhide hlm; omega) hfit)
      have hfa : ∀ d ∈ l, fitD o u d = true := by rw [List.all_eq_true] at hfit; exact hfit
      have hlV := (unhide hl).under hbw
      have hdV := (unhide hd).under hbw
      have huV := (unhide hu).under hbw
      have hon : o.length = n := hlV.1
      have hn2 : n ≤ 1000 := by have := (unhide hs).1; omega
      have hc := rcopy_any a n c o V hlV (unhide hs)
      clear hlV hfit
      replace hbw := hide hbw; replace hdV := hide hdV; replace huV := hide huV; replace hfa := hide hfa; replace hon := hide hon; replace hc := hide hc
      go_wp2_with fail
      refine (unhide hc).mono ?_
      rintro e w1 ⟨v, rfl, hoo0, hb0⟩
      obtain ⟨ao, co, ev, _⟩ := hoo0.lst
      rw [unhide hon] at ev
      subst ev
      obtain ⟨G, hG⟩ : ∃ G, imgO (instP l u) 0 o = G := ⟨_, rfl⟩
      have hlen : G.length = o.length := by rw [← hG, imgO_len]
      have hgk : ∀ k x, o[k]? = some x → G[k]? = some (rowN (instP l u) (o.take k).flatten.length x) := fun k x hx => by rw [← hG, imgO_get _ _ 0 k x hx, Nat.zero_add]
      rw [hG] at hok
      clear hc hG
      obtain ⟨B, hB⟩ : ∃ B, V.heap.size = B := ⟨_, rfl⟩
      replace hoo0 := hide hoo0; replace hb0 := hide hb0; replace hlen := hide hlen; replace hgk := hide hgk; replace hB := hide hB
      go_wp2_with fail
      go_loopw [10, 11] (fun v10 v11 wr => ∃ k : Nat, k ≤ n ∧ v11 = .int .i64 (k : Int) ∧ v10 = .int .i64 (((o.take k).flatten.length : Nat) : Int) ∧ OO wr V.heap.size (.slice ao n co) (mix G o k) ∧ Below V.heap.size V wr) (fun _ v _ => (n - intOf v).toNat)
      case atStart => exact ⟨0, by omega, rfl, rfl, by rw [mix_zero]; exact unhide hoo0, unhide hb0⟩
      case round =>
        clear hoo0 hb0
        obtain ⟨k, hk, rfl, rfl, hoo, hbw2⟩ := hrel
        obtain ⟨wo, rfl⟩ : ∃ wo : World, wo = wr := ⟨_, rfl⟩
        by_cases hlt : k < n
        · obtain ⟨x, hx⟩ : ∃ x, o[k]? = some x := ⟨_, List.getElem?_eq_getElem (by rw [unhide hon]; exact hlt)⟩
          obtain ⟨ob, hob⟩ : ∃ ob, ao = some ⟨ob, 0, none⟩ := by
            obtain ⟨ob, _, _, hv, _⟩ := hoo.ct (k := k) (c := x) (by rw [mix_get (unhide hlen), hx])
            exact ⟨ob, (Value.slice.inj hv).1⟩
          subst hob
          obtain ⟨nx, hnx⟩ : ∃ nx, x.length = nx := ⟨_, rfl⟩
          obtain ⟨F, hF⟩ : ∃ F, (o.take k).flatten.length = F := ⟨_, rfl⟩
          have mx : nx ≤ 1000 := by have := (unhide hs).ct hx; omega
          have hFx : F + nx ≤ o.flatten.length := by rw [← hF, ← hnx]; exact flat_split hx
          have hFn : F + nx = (o.take (k + 1)).flatten.length := by rw [take_flat_len hx, hF, hnx]
          have himg := unhide hgk k x hx
          rw [hF] at himg ⊢
          obtain ⟨R, hR⟩ : ∃ R, rowN (instP l u) F x = R := ⟨_, rfl⟩
          have hrl : R.length = x.length := by rw [← hR, rowN_len]
          have hRg : ∀ i p, x[i]? = some p → R[i]? = some (instP l u (F + i) p) := fun i p hp => by rw [← hR]; exact rowN_get hp
          rw [hR] at himg
          rw [← stO_start (r := R) (unhide hlen) hx] at hoo
          have hkl : k < o.length := by rw [unhide hon]; exact hlt
          have t1 : (k : Int) < (n : Int) := by omega
          have t2 : ¬ (n : Int) ≤ (k : Int) := by omega
          have hcb : o.flatten.length ≤ 1000000 := by have h := unhide hN; unfold countS at h; omega
          clear hR
          replace hoo := hide hoo; replace hbw2 := hide hbw2; replace hx := hide hx; replace himg := hide himg; replace hrl := hide hrl; replace hnx := hide hnx; replace hkl := hide hkl; replace hRg := hide hRg; replace hF := hide hF; replace hFn := hide hFn
          go_wp2_with fail
          go_loopw [10, 12] (fun v10 v12 wi => ∃ i : Nat, i ≤ nx ∧ v12 = .int .i64 (i : Int) ∧ v10 = .int .i64 ((F + i : Nat) : Int) ∧ OO wi V.heap.size (.slice (some ⟨ob, 0, none⟩) n co) (stO G o R x k i) ∧ Below V.heap.size V wi) (fun _ v _ => (nx - intOf v).toNat)
          case atStart => exact ⟨0, by omega, rfl, rfl, unhide hoo, unhide hbw2⟩
          case round =>
            clear hoo hbw2
            obtain ⟨i, hi, rfl, rfl, hoo, hbw2⟩ := hrel
            obtain ⟨wi, rfl⟩ : ∃ wi : World, wi = wr := ⟨_, rfl⟩
            have hgx := stO_get (r := R) (z := x) i (unhide hlen) (unhide hkl)
            have hml2 : (mix R x i).length = nx := by rw [mix_len (unhide hrl), unhide hnx]
            obtain ⟨N', hN'⟩ : ∃ N', F + i = N' := ⟨_, rfl⟩
            rw [hN']
            by_cases hlt2 : i < nx
            · obtain ⟨a9, d9, hc9⟩ : ∃ a9 d9, wi.cell? ⟨ob, k, none⟩ = some (.slice a9 nx d9) := by
                obtain ⟨g9, c9, u9, hv9, _, _, hc9, _, hrw9⟩ := hoo.ct hgx
                obtain ⟨e9, _⟩ := Value.slice.inj hv9
                injection e9 with e9
                injection e9 with e9
                obtain ⟨a9, d9, ev9, _⟩ := hrw9.lst
                rw [hml2] at ev9
                exact ⟨a9, d9, by rw [e9, hc9, ev9]⟩
              have t3 : (i : Int) < (nx : Int) := by omega
              have t4 : ¬ (nx : Int) ≤ (i : Int) := by omega
              have hNb : N' < o.flatten.length := by omega
              have hai := acc_i64 l u N'
              replace hgx := hide hgx; replace hml2 := hide hml2; replace hoo := hide hoo; replace hbw2 := hide hbw2; replace hN' := hide hN'; replace hai := hide hai
              go_wp2_with fail
              go_loopw [13, 14, 15] (fun v13 v14 v15 wj => ∃ j : Nat, j ≤ m ∧ v15 = .int .i64 (j : Int) ∧ v13 = .int .i64 (accS (l.take j) u N').1 ∧ v14 = .int .i64 (accS (l.take j) u N').2 ∧ Below wi.heap.size wi wj) (fun _ _ v _ => (m - intOf v).toNat)
              case atStart => exact ⟨0, by omega, rfl, rfl, rfl, Below.refl _ _⟩
              case round =>
                obtain ⟨j, hj, rfl, rfl, rfl, hbj⟩ := hrel
                obtain ⟨wj, rfl⟩ : ∃ wj : World, wj = wr := ⟨_, rfl⟩
                have hbVj := (unhide hbw2).trans (hbj.mono (unhide hbw2).size)
                by_cases hlt3 : j < m
                · obtain ⟨bl, ol, ⟨ts, ms⟩, ta, tn, tc, ma, mn, mc, rfl, _, hdj, _, _, _, _, hts, hms, g0, g1⟩ := lst_dl ((unhide hdV).under hbVj) hlt3
                  simp only at hts hms
                  have hfd := unhide hfa _ (List.mem_of_getElem? hdj)
                  obtain ⟨q1, q2, q3⟩ := fit_allV hfd
                  simp only at q1 q2 q3
                  have htn4 : tn ≤ 4 := by have h1 : ts.length = tn := hts.1; have h2 := unhide hul; omega
                  have hNm : N' < mn := by have h1 : ms.length = mn := hms.1; unfold countS at q3; omega
                  obtain ⟨bm, om, mx', my, rfl, _, hmm, _, _, y0, y1⟩ := lst_mv hms hNm
                  have hw := rweight_any ta tn tc ts (.slice (some ⟨bm, om, none⟩) mn mc) ua un uc u wj hts ((unhide huV).under hbVj) htn4 (by omega) q1 ⟨_, _, _, rfl⟩
                  obtain ⟨q, hq⟩ : ∃ q, weightS ts u = q := ⟨_, rfl⟩
                  rw [hq] at hw
                  obtain ⟨⟨sx, sy⟩, hsx⟩ : ∃ s, accS (l.take j) u N' = s := ⟨_, rfl⟩
                  have hnxt := acc_next u N' hdj
                  rw [hsx] at hnxt
                  unfold accStep at hnxt
                  rw [mvAt_some hmm, hq] at hnxt
                  rw [hsx]
                  simp only at hnxt ⊢
                  have s1 : (j : Int) < (m : Int) := by omega
                  have s2 : ¬ (m : Int) ≤ (j : Int) := by omega
                  have s3 : (N' : Int) < (mn : Int) := by omega
                  have s4 : ¬ (mn : Int) ≤ (N' : Int) := by omega
                  clear hts hms hfd q1 q2 q3 hdj hmm hq hsx hbVj
                  replace hnxt := hide hnxt; replace hw := hide hw; replace hbj := hide hbj
                  go_wp2_with fail
                  refine (unhide hw).mono ?_
                  rintro e w5 ⟨rfl, hb5⟩
                  have g15 := cell_under g1 hb5
                  have y05 := cell_under y0 hb5
                  have y15 := cell_under y1 hb5
                  have hbz := hide ((unhide hbj).trans (hb5.mono (unhide hbj).size))
                  clear hw hb5 hbj g0 g1 y0 y1
                  go_wp2_with fail
                  go_roundw
                  case rel => exact ⟨j + 1, by omega, by go_num, by rw [unhide hnxt], by rw [unhide hnxt], unhide hbz⟩
                  case measure => simp [intOf]; omega
                · have hje : j = m := by omega
                  rw [hje, List.take_of_length_le (by rw [unhide hlm]; exact Nat.le_refl _)]
                  have s1 : ¬ (m : Int) < (m : Int) := by omega
                  obtain ⟨⟨sx, sy⟩, hsx⟩ : ∃ s, accS l u N' = s := ⟨_, rfl⟩
                  have hai' := unhide hai
                  rw [hsx] at hai' ⊢
                  obtain ⟨dx, hdx⟩ : ∃ x, roundI sx 4096 = x := ⟨_, rfl⟩
                  obtain ⟨dy, hdy⟩ : ∃ x, roundI sy 4096 = x := ⟨_, rfl⟩
                  have c1 := rround_pos sx 4096 wj hai'.1 (by omega) (by omega)
                  have c2 := fun w => rround_pos sy 4096 w hai'.2 (by omega) (by omega)
                  rw [hdx] at c1
                  simp only [hdy] at c2
                  obtain ⟨⟨px, py, pz⟩, hp⟩ : ∃ p, x[i]? = some p := ⟨_, List.getElem?_eq_getElem (by rw [unhide hnx]; exact hlt2)⟩
                  obtain ⟨X, hX⟩ : ∃ X, wrap64 (px + dx) = X := ⟨_, rfl⟩
                  obtain ⟨Y, hY⟩ : ∃ Y, wrap64 (py + dy) = Y := ⟨_, rfl⟩
                  have hfp : R[i]? = some (X, Y, pz) := by
                    rw [unhide hRg i _ hp, unhide hN']
                    unfold instP
                    rw [hsx]
                    simp only
                    rw [hdx, hdy, hX, hY]
                  have hXi : I64 X := by rw [← hX]; exact wrap_i64 _
                  have hYi : I64 Y := by rw [← hY]; exact wrap_i64 _
                  have hgp : (mix R x i)[i]? = some (px, py, pz) := by rw [mix_get (unhide hrl), hp]
                  have hss := stO_set (a := G) (b := o) (k := k) (unhide hrl) hfp
                  have hl2 : ((mix R x i).set i (X, py, pz)).length = nx := by rw [List.length_set]; exact unhide hml2
                  have hg2 : ((stO G o R x k i).set k ((mix R x i).set i (X, py, pz)))[k]? = some ((mix R x i).set i (X, py, pz)) := List.getElem?_set_self (by have := (List.getElem?_eq_some_iff.1 (unhide hgx)).1; exact this)
                  have hp2 : ((mix R x i).set i (X, py, pz))[i]? = some (X, py, pz) := List.getElem?_set_self (by rw [unhide hml2]; exact hlt2)
                  have hN1 : F + (i + 1) = N' + 1 := by have := unhide hN'; omega
                  clear hbVj hsx hdx hdy hai' hfp hp hc9
                  replace hX := hide hX; replace hY := hide hY; replace hgp := hide hgp; replace hss := hide hss; replace hl2 := hide hl2; replace hg2 := hide hg2; replace hp2 := hide hp2; replace hN1 := hide hN1; replace c1 := hide c1; replace c2 := hide c2; replace hbj := hide hbj; replace hje := hide hje
                  go_wp2_with fail
                  refine (unhide c1).mono ?_
                  rintro e w6 ⟨rfl, hb6⟩
                  have c3 := hide (unhide c2 w6)
                  clear c1 c2
                  go_wp2_with fail
                  refine (unhide c3).mono ?_
                  rintro e V ⟨rfl, hb7⟩
                  have kb1 := (unhide hbj).trans (hb6.mono (unhide hbj).size)
                  have kb := kb1.trans (hb7.mono kb1.size)
                  have hooV := (unhide hoo).below kb
                  have hbw := hide ((unhide hbw2).trans (kb.mono (unhide hbw2).size))
                  obtain ⟨gk, capk, rc, hgkb, hgks, hobs, hgne, _, ⟨r0, r1, r2⟩, ⟨f0, f1, f2⟩, hset, _⟩ := hooV.ptS (unhide hgx) (unhide hgp)
                  have hpyi : I64 py := by
                    obtain ⟨uv, uc, u2, hv2, _, _, hc2, _, hrw2⟩ := hooV.ct (unhide hgx)
                    exact (hrw2.2 _ (List.mem_of_getElem? (unhide hgp))).2
                  rw [unhide hml2] at rc
                  have hr0' := unhide hX
                  have hr1' := unhide hY
                  clear c3 hb6 hb7 kb1 kb hooV hoo hbw2 hbj hgx hgp
                  have hrX := hide hr0'
                  have hrY := hide hr1'
                  clear hr0' hr1'
                  have hr0 := hrX
                  have hr1 := hrY
                  clear hrX hrY hX hY
                  replace hset := hide hset
                  go_wp2_with fail
                  refine wp_region_frontG 17 (fun _ _ w' => Below V.heap.size V w') (fun wa wb => Below wa.heap.size wa wb)
                    (fun ix v w' => match ix with
                      | 0 => v = .slice (some ⟨ob, 0, none⟩) n co
                      | 1 => v = .int .i64 (k : Int)
                      | 2 => v = .pointer (some ⟨ob, k, none⟩)
                      | 3 => v = .slice (some ⟨gk, 0, none⟩) nx capk
                      | 4 => v = .int .i64 (i : Int)
                      | 5 => v = .slice (some ⟨ob, 0, none⟩) n co
                      | 6 => v = .int .i64 (k : Int)
                      | 7 => v = .pointer (some ⟨ob, k, none⟩)
                      | 8 => v = .slice (some ⟨gk, 0, none⟩) nx capk
                      | 9 => v = .int .i64 (i : Int)
                      | 10 => v = .pointer (some ⟨gk, i * 3, none⟩)
                      | 11 => v = .pointer (some ⟨gk, i * 3, none⟩)
                      | 12 => v = .int .i64 px
                      | 13 => v = .int .i64 dx
                      | 14 => v = .int .i64 X
                      | 15 => v = .pointer (some ⟨gk, i * 3, none⟩)
                      | 16 => v = .pointer (some ⟨gk, i * 3, none⟩)
                      | _ => True) (by rfl) (by kernel_rfl) ?_ ?_ ?_ ?_
                  · exact (Below.refl _ _).drew
                  · intro wa wb hR ix v hv
                    match ix, hv with
                    | 0, h => exact h
                    | 1, h => exact h
                    | 2, h => exact h
                    | 3, h => exact h
                    | 4, h => exact h
                    | 5, h => exact h
                    | 6, h => exact h
                    | 7, h => exact h
                    | 8, h => exact h
                    | 9, h => exact h
                    | 10, h => exact h
                    | 11, h => exact h
                    | 12, h => exact h
                    | 13, h => exact h
                    | 14, h => exact h
                    | 15, h => exact h
                    | 16, h => exact h
                    | _ + 17, _ => trivial
                  · intro ix hix
                    obtain rfl | rfl | rfl | rfl | rfl | rfl | rfl | rfl | rfl | rfl | rfl | rfl | rfl | rfl | rfl | rfl | rfl : ix = 0 ∨ ix = 1 ∨ ix = 2 ∨ ix = 3 ∨ ix = 4 ∨ ix = 5 ∨ ix = 6 ∨ ix = 7 ∨ ix = 8 ∨ ix = 9 ∨ ix = 10 ∨ ix = 11 ∨ ix = 12 ∨ ix = 13 ∨ ix = 14 ∨ ix = 15 ∨ ix = 16 := by omega
                    · refine FrontStep.of [] _ rfl (by kernel_rfl) ?_
                      intro vs LL wq hLL hC hf
                      simp only [putL, List.foldl_nil]
                      go_wp2_with fail
                      first | exact Below.refl _ _ | exact ⟨Below.refl _ _, by omega⟩
                    · refine FrontStep.of [] _ rfl (by kernel_rfl) ?_
                      intro vs LL wq hLL hC hf
                      simp only [putL, List.foldl_nil]
                      go_wp2_with fail
                      first | exact Below.refl _ _ | exact ⟨Below.refl _ _, by omega⟩
                    · refine FrontStep.of [0, 1] _ rfl (by kernel_rfl) ?_
                      intro vs LL wq hLL hC hf
                      simp only [putL, List.foldl_nil, List.foldl_cons, List.getElem?_cons_zero, List.getElem?_cons_succ]
                      have e0 : vs 0 = _ := hf 0 (by simp)
                      rw [e0]
                      have e1 : vs 1 = _ := hf 1 (by simp)
                      rw [e1]
                      go_wp2_with fail
                      first | exact Below.refl _ _ | exact ⟨Below.refl _ _, by omega⟩
                    · refine FrontStep.of [2] _ rfl (by kernel_rfl) ?_
                      intro vs LL wq hLL hC hf
                      simp only [putL, List.foldl_nil, List.foldl_cons, List.getElem?_cons_zero, List.getElem?_cons_succ]
                      have e2 : vs 2 = _ := hf 2 (by simp)
                      rw [e2]
                      have hcq := cell_under rc hC
                      go_wp2_with fail
                      first | exact Below.refl _ _ | exact ⟨Below.refl _ _, by omega⟩
                    · refine FrontStep.of [] _ rfl (by kernel_rfl) ?_
                      intro vs LL wq hLL hC hf
                      simp only [putL, List.foldl_nil]
                      go_wp2_with fail
                      first | exact Below.refl _ _ | exact ⟨Below.refl _ _, by omega⟩
                    · refine FrontStep.of [] _ rfl (by kernel_rfl) ?_
                      intro vs LL wq hLL hC hf
                      simp only [putL, List.foldl_nil]
                      go_wp2_with fail
                      first | exact Below.refl _ _ | exact ⟨Below.refl _ _, by omega⟩
                    · refine FrontStep.of [] _ rfl (by kernel_rfl) ?_
                      intro vs LL wq hLL hC hf
                      simp only [putL, List.foldl_nil]
                      go_wp2_with fail
                      first | exact Below.refl _ _ | exact ⟨Below.refl _ _, by omega⟩
                    · refine FrontStep.of [5, 6] _ rfl (by kernel_rfl) ?_
                      intro vs LL wq hLL hC hf
                      simp only [putL, List.foldl_nil, List.foldl_cons, List.getElem?_cons_zero, List.getElem?_cons_succ]
                      have e5 : vs 5 = _ := hf 5 (by simp)
                      rw [e5]
                      have e6 : vs 6 = _ := hf 6 (by simp)
                      rw [e6]
                      go_wp2_with fail
                      first | exact Below.refl _ _ | exact ⟨Below.refl _ _, by omega⟩
                    · refine FrontStep.of [7] _ rfl (by kernel_rfl) ?_
                      intro vs LL wq hLL hC hf
                      simp only [putL, List.foldl_nil, List.foldl_cons, List.getElem?_cons_zero, List.getElem?_cons_succ]
                      have e7 : vs 7 = _ := hf 7 (by simp)
                      rw [e7]
                      have hcq := cell_under rc hC
                      go_wp2_with fail
                      first | exact Below.refl _ _ | exact ⟨Below.refl _ _, by omega⟩
                    · refine FrontStep.of [] _ rfl (by kernel_rfl) ?_
                      intro vs LL wq hLL hC hf
                      simp only [putL, List.foldl_nil]
                      go_wp2_with fail
                      first | exact Below.refl _ _ | exact ⟨Below.refl _ _, by omega⟩
                    · refine FrontStep.of [8, 9] _ rfl (by kernel_rfl) ?_
                      intro vs LL wq hLL hC hf
                      simp only [putL, List.foldl_nil, List.foldl_cons, List.getElem?_cons_zero, List.getElem?_cons_succ]
                      have e8 : vs 8 = _ := hf 8 (by simp)
                      rw [e8]
                      have e9 : vs 9 = _ := hf 9 (by simp)
                      rw [e9]
                      go_wp2_with fail
                      first | exact Below.refl _ _ | exact ⟨Below.refl _ _, by omega⟩
                    · refine FrontStep.of [10] _ rfl (by kernel_rfl) ?_
                      intro vs LL wq hLL hC hf
                      simp only [putL, List.foldl_nil, List.foldl_cons, List.getElem?_cons_zero, List.getElem?_cons_succ]
                      have e10 : vs 10 = _ := hf 10 (by simp)
                      rw [e10]
                      go_wp2_with fail
                      first | exact Below.refl _ _ | exact ⟨Below.refl _ _, by omega⟩
                    · refine FrontStep.of [11] _ rfl (by kernel_rfl) ?_
                      intro vs LL wq hLL hC hf
                      simp only [putL, List.foldl_nil, List.foldl_cons, List.getElem?_cons_zero, List.getElem?_cons_succ]
                      have e11 : vs 11 = _ := hf 11 (by simp)
                      rw [e11]
                      have hcq := cell_under r0 hC
                      go_wp2_with fail
                      first | exact Below.refl _ _ | exact ⟨Below.refl _ _, by omega⟩
                    · refine FrontStep.of [] _ rfl (by kernel_rfl) ?_
                      intro vs LL wq hLL hC hf
                      simp only [putL, List.foldl_nil]
                      go_wp2_with fail
                      first | exact Below.refl _ _ | exact ⟨Below.refl _ _, by omega⟩
                    · refine FrontStep.of [12, 13] _ rfl (by kernel_rfl) ?_
                      intro vs LL wq hLL hC hf
                      simp only [putL, List.foldl_nil, List.foldl_cons, List.getElem?_cons_zero, List.getElem?_cons_succ]
                      have e12 : vs 12 = _ := hf 12 (by simp)
                      rw [e12]
                      have e13 : vs 13 = _ := hf 13 (by simp)
                      rw [e13]
                      have hcr := unhide hr0
                      go_wp2_with fail
                      first | exact Below.refl _ _ | exact ⟨Below.refl _ _, by omega⟩
                    · refine FrontStep.of [0, 1, 2, 3, 4, 5, 6, 7, 8, 9, 10, 11, 12, 13, 14] _ rfl (by kernel_rfl) ?_
                      intro vs LL wq hLL hC hf
                      simp only [putL, List.foldl_nil, List.foldl_cons, List.getElem?_cons_zero, List.getElem?_cons_succ]
                      have e0 : vs 0 = _ := hf 0 (by simp)
                      rw [e0]
                      have e1 : vs 1 = _ := hf 1 (by simp)
                      rw [e1]
                      have e2 : vs 2 = _ := hf 2 (by simp)
                      rw [e2]
                      have e3 : vs 3 = _ := hf 3 (by simp)
                      rw [e3]
                      have e4 : vs 4 = _ := hf 4 (by simp)
                      rw [e4]
                      have e5 : vs 5 = _ := hf 5 (by simp)
                      rw [e5]
                      have e6 : vs 6 = _ := hf 6 (by simp)
                      rw [e6]
                      have e7 : vs 7 = _ := hf 7 (by simp)
                      rw [e7]
                      have e8 : vs 8 = _ := hf 8 (by simp)
                      rw [e8]
                      have e9 : vs 9 = _ := hf 9 (by simp)
                      rw [e9]
                      have e10 : vs 10 = _ := hf 10 (by simp)
                      rw [e10]
                      have e11 : vs 11 = _ := hf 11 (by simp)
                      rw [e11]
                      have e12 : vs 12 = _ := hf 12 (by simp)
                      rw [e12]
                      have e13 : vs 13 = _ := hf 13 (by simp)
                      rw [e13]
                      have e14 : vs 14 = _ := hf 14 (by simp)
                      rw [e14]
                      go_wp2_with fail
                      first | exact Below.refl _ _ | exact ⟨Below.refl _ _, by omega⟩
                    · refine FrontStep.of [0, 1, 2, 3, 4, 5, 6, 7, 8, 9, 10, 11, 12, 13, 14, 15] _ rfl (by kernel_rfl) ?_
                      intro vs LL wq hLL hC hf
                      simp only [putL, List.foldl_nil, List.foldl_cons, List.getElem?_cons_zero, List.getElem?_cons_succ]
                      have e0 : vs 0 = _ := hf 0 (by simp)
                      rw [e0]
                      have e1 : vs 1 = _ := hf 1 (by simp)
                      rw [e1]
                      have e2 : vs 2 = _ := hf 2 (by simp)
                      rw [e2]
                      have e3 : vs 3 = _ := hf 3 (by simp)
                      rw [e3]
                      have e4 : vs 4 = _ := hf 4 (by simp)
                      rw [e4]
                      have e5 : vs 5 = _ := hf 5 (by simp)
                      rw [e5]
                      have e6 : vs 6 = _ := hf 6 (by simp)
                      rw [e6]
                      have e7 : vs 7 = _ := hf 7 (by simp)
                      rw [e7]
                      have e8 : vs 8 = _ := hf 8 (by simp)
                      rw [e8]
                      have e9 : vs 9 = _ := hf 9 (by simp)
                      rw [e9]
                      have e10 : vs 10 = _ := hf 10 (by simp)
                      rw [e10]
                      have e11 : vs 11 = _ := hf 11 (by simp)
                      rw [e11]
                      have e12 : vs 12 = _ := hf 12 (by simp)
                      rw [e12]
                      have e13 : vs 13 = _ := hf 13 (by simp)
                      rw [e13]
                      have e14 : vs 14 = _ := hf 14 (by simp)
                      rw [e14]
                      have e15 : vs 15 = _ := hf 15 (by simp)
                      rw [e15]
                      go_wp2_with fail
                      first | exact Below.refl _ _ | exact ⟨Below.refl _ _, by omega⟩
                  · intro vs LL wq hLL hC hf
                    have e16 : vs 16 = _ := hf 16 (by omega)
                    have e14 : vs 14 = _ := hf 14 (by omega)
                    rw [putSome_all]
                    simp only [putL, List.range, List.range.loop, List.foldl_nil, List.foldl_cons, List.getElem?_cons_zero, List.getElem?_cons_succ, List.drop_succ_cons, List.drop_zero]
                    rw [e16, e14]
                    clear e16 e14 hf hLL
                    have hst := unhide hset wq hC 0 (.int .i64 X) (X, py, pz) (by decide) rfl hXi hpyi
                    have kk := cell_under r0 hC
                    have ff := frozen_under f0 r0 hC
                    have hbz := (((unhide hbw).trans (hC.mono (unhide hbw).size)).setCell (p := ⟨gk, i * 3, none⟩) hgkb (.int .i64 X))
                    obtain ⟨V9, hV9⟩ : ∃ V9, wq.setCell ⟨gk, i * 3, none⟩ (.int .i64 X) = V9 := ⟨_, rfl⟩
                    simp only [Nat.add_zero] at hst
                    rw [hV9] at hst hbz
                    clear hset hC hbw rc r0 r1 r2 f0 f1 f2
                    replace hst := hide hst; replace hbz := hide hbz
                    go_simp
                    go_wp2_with fail
                    clear hV9 kk ff
                    obtain ⟨V, rfl⟩ : ∃ V : World, V = V9 := ⟨_, rfl⟩
                    clear hgkb
                    obtain ⟨gk, capk, rc, hgkb, hgks, hobs, hgne, _, ⟨r0, r1, r2⟩, ⟨f0, f1, f2⟩, hset, _⟩ := (unhide hst).ptS (unhide hg2) (unhide hp2)
                    rw [unhide hl2] at rc
                    have hbw := hbz
                    clear hst hbz
                    replace hset := hide hset
                    go_wp2_with fail
                    refine wp_region_frontG 17 (fun _ _ w' => Below V.heap.size V w') (fun wa wb => Below wa.heap.size wa wb)
                      (fun ix v w' => match ix with
                        | 0 => v = .slice (some ⟨ob, 0, none⟩) n co
                        | 1 => v = .int .i64 (k : Int)
                        | 2 => v = .pointer (some ⟨ob, k, none⟩)
                        | 3 => v = .slice (some ⟨gk, 0, none⟩) nx capk
                        | 4 => v = .int .i64 (i : Int)
                        | 5 => v = .slice (some ⟨ob, 0, none⟩) n co
                        | 6 => v = .int .i64 (k : Int)
                        | 7 => v = .pointer (some ⟨ob, k, none⟩)
                        | 8 => v = .slice (some ⟨gk, 0, none⟩) nx capk
                        | 9 => v = .int .i64 (i : Int)
                        | 10 => v = .pointer (some ⟨gk, i * 3, none⟩)
                        | 11 => v = .pointer (some ⟨gk, i * 3 + 1, none⟩)
                        | 12 => v = .int .i64 py
                        | 13 => v = .int .i64 dy
                        | 14 => v = .int .i64 Y
                        | 15 => v = .pointer (some ⟨gk, i * 3, none⟩)
                        | 16 => v = .pointer (some ⟨gk, i * 3 + 1, none⟩)
                        | _ => True) (by rfl) (by kernel_rfl) ?_ ?_ ?_ ?_
                    · exact (Below.refl _ _).drew
                    · intro wa wb hR ix v hv
                      match ix, hv with
                      | 0, h => exact h
                      | 1, h => exact h
                      | 2, h => exact h
                      | 3, h => exact h
                      | 4, h => exact h
                      | 5, h => exact h
                      | 6, h => exact h
                      | 7, h => exact h
                      | 8, h => exact h
                      | 9, h => exact h
                      | 10, h => exact h
                      | 11, h => exact h
                      | 12, h => exact h
                      | 13, h => exact h
                      | 14, h => exact h
                      | 15, h => exact h
                      | 16, h => exact h
                      | _ + 17, _ => trivial
                    · intro ix hix
                      obtain rfl | rfl | rfl | rfl | rfl | rfl | rfl | rfl | rfl | rfl | rfl | rfl | rfl | rfl | rfl | rfl | rfl : ix = 0 ∨ ix = 1 ∨ ix = 2 ∨ ix = 3 ∨ ix = 4 ∨ ix = 5 ∨ ix = 6 ∨ ix = 7 ∨ ix = 8 ∨ ix = 9 ∨ ix = 10 ∨ ix = 11 ∨ ix = 12 ∨ ix = 13 ∨ ix = 14 ∨ ix = 15 ∨ ix = 16 := by omega
                      · refine FrontStep.of [] _ rfl (by kernel_rfl) ?_
                        intro vs LL wq hLL hC hf
                        simp only [putL, List.foldl_nil]
                        go_wp2_with fail
                        first | exact Below.refl _ _ | exact ⟨Below.refl _ _, by omega⟩
                      · refine FrontStep.of [] _ rfl (by kernel_rfl) ?_
                        intro vs LL wq hLL hC hf
                        simp only [putL, List.foldl_nil]
                        go_wp2_with fail
                        first | exact Below.refl _ _ | exact ⟨Below.refl _ _, by omega⟩
                      · refine FrontStep.of [0, 1] _ rfl (by kernel_rfl) ?_
                        intro vs LL wq hLL hC hf
                        simp only [putL, List.foldl_nil, List.foldl_cons, List.getElem?_cons_zero, List.getElem?_cons_succ]
                        have e0 : vs 0 = _ := hf 0 (by simp)
                        rw [e0]
                        have e1 : vs 1 = _ := hf 1 (by simp)
                        rw [e1]
                        go_wp2_with fail
                        first | exact Below.refl _ _ | exact ⟨Below.refl _ _, by omega⟩
                      · refine FrontStep.of [2] _ rfl (by kernel_rfl) ?_
                        intro vs LL wq hLL hC hf
                        simp only [putL, List.foldl_nil, List.foldl_cons, List.getElem?_cons_zero, List.getElem?_cons_succ]
                        have e2 : vs 2 = _ := hf 2 (by simp)
                        rw [e2]
                        have hcq := cell_under rc hC
                        go_wp2_with fail
                        first | exact Below.refl _ _ | exact ⟨Below.refl _ _, by omega⟩
                      · refine FrontStep.of [] _ rfl (by kernel_rfl) ?_
                        intro vs LL wq hLL hC hf
                        simp only [putL, List.foldl_nil]
                        go_wp2_with fail
                        first | exact Below.refl _ _ | exact ⟨Below.refl _ _, by omega⟩
                      · refine FrontStep.of [] _ rfl (by kernel_rfl) ?_
                        intro vs LL wq hLL hC hf
                        simp only [putL, List.foldl_nil]
                        go_wp2_with fail
                        first | exact Below.refl _ _ | exact ⟨Below.refl _ _, by omega⟩
                      · refine FrontStep.of [] _ rfl (by kernel_rfl) ?_
                        intro vs LL wq hLL hC hf
                        simp only [putL, List.foldl_nil]
                        go_wp2_with fail
                        first | exact Below.refl _ _ | exact ⟨Below.refl _ _, by omega⟩
                      · refine FrontStep.of [5, 6] _ rfl (by kernel_rfl) ?_
                        intro vs LL wq hLL hC hf
                        simp only [putL, List.foldl_nil, List.foldl_cons, List.getElem?_cons_zero, List.getElem?_cons_succ]
                        have e5 : vs 5 = _ := hf 5 (by simp)
                        rw [e5]
                        have e6 : vs 6 = _ := hf 6 (by simp)
                        rw [e6]
                        go_wp2_with fail
                        first | exact Below.refl _ _ | exact ⟨Below.refl _ _, by omega⟩
                      · refine FrontStep.of [7] _ rfl (by kernel_rfl) ?_
                        intro vs LL wq hLL hC hf
                        simp only [putL, List.foldl_nil, List.foldl_cons, List.getElem?_cons_zero, List.getElem?_cons_succ]
                        have e7 : vs 7 = _ := hf 7 (by simp)
                        rw [e7]
                        have hcq := cell_under rc hC
                        go_wp2_with fail
                        first | exact Below.refl _ _ | exact ⟨Below.refl _ _, by omega⟩
                      · refine FrontStep.of [] _ rfl (by kernel_rfl) ?_
                        intro vs LL wq hLL hC hf
                        simp only [putL, List.foldl_nil]
                        go_wp2_with fail
                        first | exact Below.refl _ _ | exact ⟨Below.refl _ _, by omega⟩
                      · refine FrontStep.of [8, 9] _ rfl (by kernel_rfl) ?_
                        intro vs LL wq hLL hC hf
                        simp only [putL, List.foldl_nil, List.foldl_cons, List.getElem?_cons_zero, List.getElem?_cons_succ]
                        have e8 : vs 8 = _ := hf 8 (by simp)
                        rw [e8]
                        have e9 : vs 9 = _ := hf 9 (by simp)
                        rw [e9]
                        go_wp2_with fail
                        first | exact Below.refl _ _ | exact ⟨Below.refl _ _, by omega⟩
                      · refine FrontStep.of [10] _ rfl (by kernel_rfl) ?_
                        intro vs LL wq hLL hC hf
                        simp only [putL, List.foldl_nil, List.foldl_cons, List.getElem?_cons_zero, List.getElem?_cons_succ]
                        have e10 : vs 10 = _ := hf 10 (by simp)
                        rw [e10]
                        go_wp2_with fail
                        first | exact Below.refl _ _ | exact ⟨Below.refl _ _, by omega⟩
                      · refine FrontStep.of [11] _ rfl (by kernel_rfl) ?_
                        intro vs LL wq hLL hC hf
                        simp only [putL, List.foldl_nil, List.foldl_cons, List.getElem?_cons_zero, List.getElem?_cons_succ]
                        have e11 : vs 11 = _ := hf 11 (by simp)
                        rw [e11]
                        have hcq := cell_under r1 hC
                        go_wp2_with fail
                        first | exact Below.refl _ _ | exact ⟨Below.refl _ _, by omega⟩
                      · refine FrontStep.of [] _ rfl (by kernel_rfl) ?_
                        intro vs LL wq hLL hC hf
                        simp only [putL, List.foldl_nil]
                        go_wp2_with fail
                        first | exact Below.refl _ _ | exact ⟨Below.refl _ _, by omega⟩
                      · refine FrontStep.of [12, 13] _ rfl (by kernel_rfl) ?_
                        intro vs LL wq hLL hC hf
                        simp only [putL, List.foldl_nil, List.foldl_cons, List.getElem?_cons_zero, List.getElem?_cons_succ]
                        have e12 : vs 12 = _ := hf 12 (by simp)
                        rw [e12]
                        have e13 : vs 13 = _ := hf 13 (by simp)
                        rw [e13]
                        have hcr := unhide hr1
                        go_wp2_with fail
                        first | exact Below.refl _ _ | exact ⟨Below.refl _ _, by omega⟩
                      · refine FrontStep.of [0, 1, 2, 3, 4, 5, 6, 7, 8, 9, 10, 11, 12, 13, 14] _ rfl (by kernel_rfl) ?_
                        intro vs LL wq hLL hC hf
                        simp only [putL, List.foldl_nil, List.foldl_cons, List.getElem?_cons_zero, List.getElem?_cons_succ]
                        have e0 : vs 0 = _ := hf 0 (by simp)
                        rw [e0]
                        have e1 : vs 1 = _ := hf 1 (by simp)
                        rw [e1]
                        have e2 : vs 2 = _ := hf 2 (by simp)
                        rw [e2]
                        have e3 : vs 3 = _ := hf 3 (by simp)
                        rw [e3]
                        have e4 : vs 4 = _ := hf 4 (by simp)
                        rw [e4]
                        have e5 : vs 5 = _ := hf 5 (by simp)
                        rw [e5]
                        have e6 : vs 6 = _ := hf 6 (by simp)
                        rw [e6]
                        have e7 : vs 7 = _ := hf 7 (by simp)
                        rw [e7]
                        have e8 : vs 8 = _ := hf 8 (by simp)
                        rw [e8]
                        have e9 : vs 9 = _ := hf 9 (by simp)
                        rw [e9]
                        have e10 : vs 10 = _ := hf 10 (by simp)
                        rw [e10]
                        have e11 : vs 11 = _ := hf 11 (by simp)
                        rw [e11]
                        have e12 : vs 12 = _ := hf 12 (by simp)
                        rw [e12]
                        have e13 : vs 13 = _ := hf 13 (by simp)
                        rw [e13]
                        have e14 : vs 14 = _ := hf 14 (by simp)
                        rw [e14]
                        go_wp2_with fail
                        first | exact Below.refl _ _ | exact ⟨Below.refl _ _, by omega⟩
                      · refine FrontStep.of [0, 1, 2, 3, 4, 5, 6, 7, 8, 9, 10, 11, 12, 13, 14, 15] _ rfl (by kernel_rfl) ?_
                        intro vs LL wq hLL hC hf
                        simp only [putL, List.foldl_nil, List.foldl_cons, List.getElem?_cons_zero, List.getElem?_cons_succ]
                        have e0 : vs 0 = _ := hf 0 (by simp)
                        rw [e0]
                        have e1 : vs 1 = _ := hf 1 (by simp)
                        rw [e1]
                        have e2 : vs 2 = _ := hf 2 (by simp)
                        rw [e2]
                        have e3 : vs 3 = _ := hf 3 (by simp)
                        rw [e3]
                        have e4 : vs 4 = _ := hf 4 (by simp)
                        rw [e4]
                        have e5 : vs 5 = _ := hf 5 (by simp)
                        rw [e5]
                        have e6 : vs 6 = _ := hf 6 (by simp)
                        rw [e6]
                        have e7 : vs 7 = _ := hf 7 (by simp)
                        rw [e7]
                        have e8 : vs 8 = _ := hf 8 (by simp)
                        rw [e8]
                        have e9 : vs 9 = _ := hf 9 (by simp)
                        rw [e9]
                        have e10 : vs 10 = _ := hf 10 (by simp)
                        rw [e10]
                        have e11 : vs 11 = _ := hf 11 (by simp)
                        rw [e11]
                        have e12 : vs 12 = _ := hf 12 (by simp)
                        rw [e12]
                        have e13 : vs 13 = _ := hf 13 (by simp)
                        rw [e13]
                        have e14 : vs 14 = _ := hf 14 (by simp)
                        rw [e14]
                        have e15 : vs 15 = _ := hf 15 (by simp)
                        rw [e15]
                        go_wp2_with fail
                        first | exact Below.refl _ _ | exact ⟨Below.refl _ _, by omega⟩
                    · intro vs LL wq hLL hC hf
                      have e16 : vs 16 = _ := hf 16 (by omega)
                      have e14 : vs 14 = _ := hf 14 (by omega)
                      rw [putSome_all]
                      simp only [putL, List.range, List.range.loop, List.foldl_nil, List.foldl_cons, List.getElem?_cons_zero, List.getElem?_cons_succ, List.drop_succ_cons, List.drop_zero]
                      rw [e16, e14]
                      clear e16 e14 hf hLL
                      have hst := unhide hset wq hC 1 (.int .i64 Y) (X, Y, pz) (by decide) rfl hXi hYi
                      have kk := cell_under r1 hC
                      have ff := frozen_under f1 r1 hC
                      have hbz := (((unhide hbw).trans (hC.mono (unhide hbw).size)).setCell (p := ⟨gk, i * 3 + 1, none⟩) hgkb (.int .i64 Y))
                      obtain ⟨V9, hV9⟩ : ∃ V9, wq.setCell ⟨gk, i * 3 + 1, none⟩ (.int .i64 Y) = V9 := ⟨_, rfl⟩
                      skip
                      rw [hV9] at hst hbz
                      clear hset hC hbw rc r0 r1 r2 f0 f1 f2
                      replace hst := hide hst; replace hbz := hide hbz
                      go_simp
                      go_wp2_with fail
                      clear hV9 kk ff
                      have hst2 := unhide hst
                      rw [List.set_set, List.set_set, unhide hss] at hst2
                      replace hst2 := hide hst2
                      clear hst
                      go_roundw
                      case rel => exact ⟨i + 1, by omega, by go_num, by rw [unhide hN1]; go_num, unhide hst2, unhide hbz⟩
                      case measure => simp [intOf]; omega
            · have hie : i = nx := by omega
              obtain ⟨a9, d9, hc9⟩ : ∃ a9 d9, wi.cell? ⟨ob, k, none⟩ = some (.slice a9 nx d9) := by
                obtain ⟨g9, c9, u9, hv9, _, _, hc9, _, hrw9⟩ := hoo.ct hgx
                obtain ⟨e9, _⟩ := Value.slice.inj hv9
                injection e9 with e9
                injection e9 with e9
                obtain ⟨a9, d9, ev9, _⟩ := hrw9.lst
                rw [hml2] at ev9
                exact ⟨a9, d9, by rw [e9, hc9, ev9]⟩
              have hdone := stO_done (a := G) (b := o) (z := x) (k := k) (i := i) (unhide hlen) (unhide hrl) (by rw [unhide hnx]; omega) (unhide himg)
              rw [hdone] at hoo
              have t3 : ¬ (i : Int) < (nx : Int) := by omega
              have t4 : (nx : Int) ≤ (i : Int) := by omega
              have hNe : N' = (o.take (k + 1)).flatten.length := by rw [← unhide hFn, ← hN', hie]
              clear hdone hgx hml2
              replace hie := hide hie; replace hoo := hide hoo; replace hbw2 := hide hbw2; replace hNe := hide hNe; replace hN' := hide hN'
              go_wp2_with fail
              go_roundw
              case rel => exact ⟨k + 1, by omega, by go_num, by rw [unhide hNe], unhide hoo, unhide hbw2⟩
              case measure => simp [intOf]; omega
        · have hke : k = n := by omega
          subst hke
          rw [mix_all (by rw [unhide hlen, unhide hon]; exact Nat.le_refl _) (by rw [unhide hon]; exact Nat.le_refl _)] at hoo
          have hbz := (unhide hbw).trans (hbw2.mono (unhide hbw).size)
          have hoo := hoo.mono (unhide hbw).size
          clear hbw2
          replace hbz := hide hbz; replace hoo := hide hoo
          go_wp2_with fail
          go_ret2
          exact ⟨_, by rw [unhide hok]; rfl, by rw [unhide hok]; exact unhide hoo, unhide hbz⟩
end Go.Proofs.Ytbodidhggdggmaa
