/- OutlineMoves, walked. -/
import Derived.Test.YtbodidhggdggmaaOlX
import Derived.Test.YtbodidhggdggmaaOlZ
import Derived.Test.YtbodidhggdggmaaOp1
import Derived.Test.YtbodidhggdggmaaOp4
import Derived.Test.YtbodidhggdggmaaOp5
namespace Go.Proofs.Ytbodidhggdggmaa
open Go.RowKit
/-- what a function hands back reads as an outline -/
def SoC (F : Nat) (args : Array Value) (w : World) (N : Nat) (X : Ot) : Prop := Calls Try.prog F args w fun e w' => ∃ a c, e = .returned (.slice a N c) ∧ Lst Enc.ct w' (· < w'.heap.size) a N X ∧ Below w.heap.size w w'
theorem SoC.of {F : Nat} {args : Array Value} {w : World} {X : Ot} {N : Nat} (hN : X.length = N) (h : Calls Try.prog F args w fun e w' => ∃ v, e = .returned v ∧ OO w' w.heap.size v X ∧ Below w.heap.size w w') : SoC F args w N X := by
  refine h.mono ?_
  rintro e w' ⟨v, rfl, hoo, hb⟩
  obtain ⟨a, c, rfl, _, _, hl⟩ := hoo.lst
  rw [hN] at hl ⊢
  exact ⟨a, c, rfl, hl.wide (fun b hb => hb.2), hb⟩
set_option maxHeartbeats 8000000 in
set_option maxRecDepth 100000 in
theorem outlineMoves_any (ra : Option Addr) (rn rc : Nat) (raw : Ot) (la : Option Addr) (ln lc : Nat) (l : List (List Int)) (m : Int) (mv : Array Value) (y : Int × Int) (w : World)
    (hraw : Lst Enc.ct w (fun b => b < w.heap.size) ra rn raw) (hr1 : rn ≤ rc) (hr2 : rc ≤ maxLen) (hll : Lst (Enc.list Enc.int) w (fun b => b < w.heap.size) la ln l) (hl1 : ln ≤ lc) (hl2 : lc ≤ maxLen) (_ : -9223372036854775808 ≤ m ∧ m ≤ 9223372036854775807) (hmv : (Enc.pair Enc.int Enc.int).rep w (fun b => b < w.heap.size) mv.toList y) :
    Calls Try.prog 7 #[.slice ra rn rc, .slice la ln lc, .int .i64 m, .agg mv] w fun e w' => e = .returned (.bool true) ∧ Below w.heap.size w w' := by
  obtain ⟨vx, vy⟩ := y
  obtain ⟨u1, v1, hmvl, ⟨rfl, ix⟩, rfl, iy⟩ := hmv
  obtain ⟨mv⟩ := mv
  simp only at hmvl ix iy
  subst hmvl
  obtain ⟨b7, V1, hb7, hV1, n7, kk1, s1⟩ := al1 w (.cells #[.int .i64 vx, .int .i64 vy] 65)
  have hsan := sanity6_any V1
  replace hraw := hide hraw; replace hll := hide hll; replace n7 := hide n7; replace kk1 := hide kk1; replace hsan := hide hsan
  clear s1 ix iy
  go_enter Try.func7, Try.ntmps7
  go_wp2_with fail
  refine (unhide hsan).mono ?_
  rintro e w2 ⟨rfl, hb2⟩
  clear hsan
  have kk2 := (unhide kk1).trans (hb2.mono (unhide kk1).size)
  have n72 := (hb2.block b7 (Array.getElem?_eq_some_iff.1 (unhide n7)).1).trans (unhide n7)
  have hfew := few6_any ra rn rc raw w2 ((unhide hraw).under kk2) (by omega)
  clear hb2 n7 kk1
  replace kk2 := hide kk2; replace n72 := hide n72; replace hfew := hide hfew
  go_wp2_with fail
  refine (unhide hfew).mono ?_
  rintro e w3 ⟨fa, fc, rfl, _, _, hfl, hb3⟩
  clear hfew hV1 hb7
  have kk3 := (unhide kk2).trans (hb3.mono (unhide kk2).size)
  have n73 := (hb3.block b7 (Array.getElem?_eq_some_iff.1 (unhide n72)).1).trans (unhide n72)
  have hmade := made6_any la ln lc l w3 ((unhide hll).under kk3) (by omega)
  obtain ⟨fn, hfn⟩ : ∃ fn, (fewO raw).length = fn := ⟨_, rfl⟩
  rw [hfn] at hfl ⊢
  clear hb3 n72 kk2
  replace kk3 := hide kk3; replace n73 := hide n73; replace hmade := hide hmade; replace hfl := hide hfl; replace hfn := hide hfn
  go_wp2_with fail
  refine (unhide hmade).mono ?_
  rintro e w4 ⟨v4, mo, rfl, hoo, hgo, hb4⟩
  obtain ⟨ma, mc, ev, _, _, hmo⟩ := hoo.lst
  obtain ⟨mn, hmn⟩ : ∃ mn, mo.length = mn := ⟨_, rfl⟩
  rw [hmn] at ev hmo
  subst ev
  obtain ⟨b10, V5, hb10, hV5, n10, k5, s5⟩ := al1 w4 (.cells #[.slice fa fn fc, .slice ma mn mc] 67)
  have k35 := hb4.trans (k5.mono hb4.size)
  have kk5 := (unhide kk3).trans (k35.mono (unhide kk3).size)
  have n75 := (k35.block b7 (Array.getElem?_eq_some_iff.1 (unhide n73)).1).trans (unhide n73)
  have hsel : ∀ k, k < 2 → ∃ a n c o, V5.cell? ⟨b10, k, none⟩ = some (.slice a n c) ∧ Lst Enc.ct V5 (· < V5.heap.size) a n o ∧ Sml o ∧ ∀ c ∈ o, c.length ≤ 250 := fun k hk => by
    have : k = 0 ∨ k = 1 := by omega
    rcases this with rfl | rfl
    · obtain ⟨q1, q2⟩ := few_sml raw
      exact ⟨fa, fn, fc, fewO raw, (cell_of_row _ _ 0 _ _ _ n10).trans rfl, (unhide hfl).under k35, q1, q2⟩
    · obtain ⟨q1, q2⟩ := hgo.sml
      exact ⟨ma, mn, mc, mo, (cell_of_row _ _ 1 _ _ _ n10).trans rfl, (hmo.wide (fun b hb => hb.2)).under k5, q1, q2⟩
  clear hmade hoo hgo hmo hmn hb4 k5 s5 k35 kk3 n73 hfl hfn n10
  replace kk5 := hide kk5; replace n75 := hide n75; replace hsel := hide hsel
  go_wp2_with fail
  clear hb10 hV5
  go_loopw [11] (fun v wr => ∃ k : Nat, k ≤ 2 ∧ v = .int .i64 (k : Int) ∧ Below V5.heap.size V5 wr) (fun v _ => (2 - intOf v).toNat)
  case atStart => exact ⟨0, by omega, rfl, Below.refl _ _⟩
  case round =>
    obtain ⟨k, hk, rfl, hbw⟩ := hrel
    obtain ⟨V, rfl⟩ : ∃ V : World, V = wr := ⟨_, rfl⟩
    by_cases hlt : k < 2
    · obtain ⟨a1, n1, c1, o1, hc1, hl1', hs1, h250⟩ := unhide hsel k hlt
      have hcV := cell_under hc1 hbw
      have hlV := hl1'.under hbw
      have n7V := (hbw.block b7 (Array.getElem?_eq_some_iff.1 (unhide n75)).1).trans (unhide n75)
      have d0 : V.cell? ⟨b7, 0, none⟩ = some (.int .i64 vx) := (cell_of_row _ _ 0 _ _ _ n7V).trans rfl
      have d1 : V.cell? ⟨b7, 1, none⟩ = some (.int .i64 vy) := (cell_of_row _ _ 1 _ _ _ n7V).trans rfl
      have hon1 : o1.length = n1 := hlV.1
      have hn1 : n1 ≤ 1000 := by have := hs1.1; omega
      obtain ⟨X1, hX1⟩ : ∃ X, o1.map (List.map (scP m)) = X := ⟨_, rfl⟩
      obtain ⟨X2, hX2⟩ : ∃ X, o1.map (List.map (shP vx vy)) = X := ⟨_, rfl⟩
      obtain ⟨X3, hX3⟩ : ∃ X, flatS o1 = X := ⟨_, rfl⟩
      obtain ⟨N1, hN1⟩ : ∃ N, X1.length = N := ⟨_, rfl⟩
      obtain ⟨N2, hN2⟩ : ∃ N, X2.length = N := ⟨_, rfl⟩
      obtain ⟨N3, hN3⟩ : ∃ N, X3.length = N := ⟨_, rfl⟩
      have hb1 : N1 ≤ 1000 := by rw [← hN1, ← hX1, List.length_map]; omega
      have hb2 : N2 ≤ 1000 := by rw [← hN2, ← hX2, List.length_map]; omega
      have hb3 : N3 ≤ 1000 := by rw [← hN3, ← hX3]; unfold flatS; rw [List.length_map]; omega
      have k1 : ∀ wq, Below V.heap.size V wq → SoC 28 #[.slice a1 n1 c1, .int .i64 m] wq N1 X1 := fun wq hb => SoC.of hN1 (by rw [← hX1]; exact scale_any a1 n1 c1 o1 m wq (hlV.under hb) hs1)
      have k2 : ∀ wq, Below V.heap.size V wq → SoC 29 #[.slice a1 n1 c1, .int .i64 m] wq N1 X1 := fun wq hb => SoC.of hN1 (by rw [← hX1]; exact rscale_any a1 n1 c1 o1 m wq (hlV.under hb) hs1)
      have k3 : ∀ wq, Below V.heap.size V wq → SoC 30 #[.slice a1 n1 c1, .int .i64 vx, .int .i64 vy] wq N2 X2 := fun wq hb => SoC.of hN2 (by rw [← hX2]; exact shift_any a1 n1 c1 o1 vx vy wq (hlV.under hb) hs1)
      have k4 : ∀ wq, Below V.heap.size V wq → SoC 31 #[.slice a1 n1 c1, .int .i64 vx, .int .i64 vy] wq N2 X2 := fun wq hb => SoC.of hN2 (by rw [← hX2]; exact rshift_any a1 n1 c1 o1 vx vy wq (hlV.under hb) hs1)
      have k5 : ∀ wq, Below V.heap.size V wq → SoC 25 #[.slice a1 n1 c1] wq N3 X3 := fun wq hb => SoC.of hN3 (by rw [← hX3]; exact flat_any a1 n1 c1 o1 wq (hlV.under hb) hs1 h250)
      have k6 : ∀ wq, Below V.heap.size V wq → SoC 32 #[.slice a1 n1 c1] wq N3 X3 := fun wq hb => SoC.of hN3 (by rw [← hX3]; exact rflat_any a1 n1 c1 o1 wq (hlV.under hb) hs1 h250)
      have hbw' := (unhide kk5).trans (hbw.mono (unhide kk5).size)
      have t1 : (k : Int) < 2 := by omega
      clear hc1 hl1' hs1 h250 hlV n7V hon1 hX1 hX2 hX3 hN1 hN2 hN3
      replace hbw := hide hbw; replace k1 := hide k1; replace k2 := hide k2; replace k3 := hide k3; replace k4 := hide k4; replace k5 := hide k5; replace k6 := hide k6
      clear hbw'
      go_wp2_with fail
      refine wp_region_frontG 32 (fun _ _ w' => Below V.heap.size V w') (fun wa wb => Below wa.heap.size wa wb)
        (fun ix v w' => match ix with
          | 0 => v = .slice a1 n1 c1
          | 1 => v = .int .i64 m
          | 2 => ∃ a c, v = .slice a N1 c ∧ Lst Enc.ct w' (· < w'.heap.size) a N1 X1
          | 3 => v = .slice a1 n1 c1
          | 4 => v = .int .i64 m
          | 5 => ∃ a c, v = .slice a N1 c ∧ Lst Enc.ct w' (· < w'.heap.size) a N1 X1
          | 6 => v = .bool true
          | 7 => v = .bool false
          | 8 => v = .bool false
          | 9 => v = .slice a1 n1 c1
          | 10 => v = .pointer (some ⟨b7, 0, none⟩)
          | 11 => v = .int .i64 vx
          | 12 => v = .pointer (some ⟨b7, 1, none⟩)
          | 13 => v = .int .i64 vy
          | 14 => ∃ a c, v = .slice a N2 c ∧ Lst Enc.ct w' (· < w'.heap.size) a N2 X2
          | 15 => v = .slice a1 n1 c1
          | 16 => v = .pointer (some ⟨b7, 0, none⟩)
          | 17 => v = .int .i64 vx
          | 18 => v = .pointer (some ⟨b7, 1, none⟩)
          | 19 => v = .int .i64 vy
          | 20 => ∃ a c, v = .slice a N2 c ∧ Lst Enc.ct w' (· < w'.heap.size) a N2 X2
          | 21 => v = .bool true
          | 22 => v = .bool false
          | 23 => v = .bool false
          | 24 => v = .bool false
          | 25 => v = .slice a1 n1 c1
          | 26 => ∃ a c, v = .slice a N3 c ∧ Lst Enc.ct w' (· < w'.heap.size) a N3 X3
          | 27 => v = .slice a1 n1 c1
          | 28 => ∃ a c, v = .slice a N3 c ∧ Lst Enc.ct w' (· < w'.heap.size) a N3 X3
          | 29 => v = .bool true
          | 30 => v = .bool false
          | 31 => v = .bool false
          | _ => True) (by rfl) (by kernel_rfl) ?_ ?_ ?_ ?_
      · exact (Below.refl _ _).drew
      · intro wa wb hR ix v hv
        match ix, hv with
        | 0, h => exact h
        | 1, h => exact h
        | 2, h => obtain ⟨a, c, h1, h2⟩ := h; exact ⟨a, c, h1, h2.under hR⟩
        | 3, h => exact h
        | 4, h => exact h
        | 5, h => obtain ⟨a, c, h1, h2⟩ := h; exact ⟨a, c, h1, h2.under hR⟩
        | 6, h => exact h
        | 7, h => exact h
        | 8, h => exact h
        | 9, h => exact h
        | 10, h => exact h
        | 11, h => exact h
        | 12, h => exact h
        | 13, h => exact h
        | 14, h => obtain ⟨a, c, h1, h2⟩ := h; exact ⟨a, c, h1, h2.under hR⟩
        | 15, h => exact h
        | 16, h => exact h
        | 17, h => exact h
        | 18, h => exact h
        | 19, h => exact h
        | 20, h => obtain ⟨a, c, h1, h2⟩ := h; exact ⟨a, c, h1, h2.under hR⟩
        | 21, h => exact h
        | 22, h => exact h
        | 23, h => exact h
        | 24, h => exact h
        | 25, h => exact h
        | 26, h => obtain ⟨a, c, h1, h2⟩ := h; exact ⟨a, c, h1, h2.under hR⟩
        | 27, h => exact h
        | 28, h => obtain ⟨a, c, h1, h2⟩ := h; exact ⟨a, c, h1, h2.under hR⟩
        | 29, h => exact h
        | 30, h => exact h
        | 31, h => exact h
        | _ + 32, _ => trivial
      --BEGIN1
      · intro ix hix
        obtain rfl | rfl | rfl | rfl | rfl | rfl | rfl | rfl | rfl | rfl | rfl | rfl | rfl | rfl | rfl | rfl | rfl | rfl | rfl | rfl | rfl | rfl | rfl | rfl | rfl | rfl | rfl | rfl | rfl | rfl | rfl | rfl : ix = 0 ∨ ix = 1 ∨ ix = 2 ∨ ix = 3 ∨ ix = 4 ∨ ix = 5 ∨ ix = 6 ∨ ix = 7 ∨ ix = 8 ∨ ix = 9 ∨ ix = 10 ∨ ix = 11 ∨ ix = 12 ∨ ix = 13 ∨ ix = 14 ∨ ix = 15 ∨ ix = 16 ∨ ix = 17 ∨ ix = 18 ∨ ix = 19 ∨ ix = 20 ∨ ix = 21 ∨ ix = 22 ∨ ix = 23 ∨ ix = 24 ∨ ix = 25 ∨ ix = 26 ∨ ix = 27 ∨ ix = 28 ∨ ix = 29 ∨ ix = 30 ∨ ix = 31 := by omega
        · refine FrontStep.of [] _ rfl (by kernel_rfl) ?_
          intro vs LL wq hLL hC hf
          simp only [putL, List.foldl_nil]
          go_wp2_with fail
          first | exact Below.refl _ _ | exact ⟨Below.refl _ _, by omega⟩
        · refine FrontStep.of [] _ rfl (by kernel_rfl) ?_
          intro vs LL wq hLL hC hf
          simp only [putL, List.foldl_nil]
          go_wp2_with fail
          first | exact Below.refl _ _ | exact ⟨Below.refl _ _, by omega⟩
        · refine FrontStep.of [0, 1] _ rfl (by kernel_rfl) ?_
          intro vs LL wq hLL hC hf
          simp only [putL, List.foldl_nil, List.foldl_cons, List.getElem?_cons_zero, List.getElem?_cons_succ]
          have e0 : vs 0 = _ := hf 0 (by simp)
          rw [e0]
          have e1 : vs 1 = _ := hf 1 (by simp)
          rw [e1]
          have hcq := unhide k1 wq hC
          replace hcq := hide hcq
          go_wp2_with fail
          refine (unhide hcq).mono ?_
          rintro e wz ⟨a0, c0, rfl, hla, hbz⟩
          clear hcq
          go_wp2_with fail
          first | exact hC.trans (hbz.mono hC.size) | exact ⟨hC.trans (hbz.mono hC.size), hbz, a0, c0, ⟨rfl, rfl, rfl⟩, hla⟩ | exact ⟨hC.trans (hbz.mono hC.size), hbz, a0, c0, ⟨rfl, rfl⟩, hla⟩ | exact ⟨hC.trans (hbz.mono hC.size), hbz, a0, c0, rfl, hla⟩ | exact ⟨hC.trans (hbz.mono hC.size), a0, c0, ⟨rfl, rfl⟩, hla⟩ | exact ⟨hC.trans (hbz.mono hC.size), a0, ⟨rfl, rfl⟩, hla⟩ | (trace_state; fail)
        · refine FrontStep.of [] _ rfl (by kernel_rfl) ?_
          intro vs LL wq hLL hC hf
          simp only [putL, List.foldl_nil]
          go_wp2_with fail
          first | exact Below.refl _ _ | exact ⟨Below.refl _ _, by omega⟩
        · refine FrontStep.of [] _ rfl (by kernel_rfl) ?_
          intro vs LL wq hLL hC hf
          simp only [putL, List.foldl_nil]
          go_wp2_with fail
          first | exact Below.refl _ _ | exact ⟨Below.refl _ _, by omega⟩
        · refine FrontStep.of [2, 3, 4] _ rfl (by kernel_rfl) ?_
          intro vs LL wq hLL hC hf
          simp only [putL, List.foldl_nil, List.foldl_cons, List.getElem?_cons_zero, List.getElem?_cons_succ]
          obtain ⟨a28, c28, e28, h28⟩ := hf 2 (by simp)
          rw [e28]
          have e3 : vs 3 = _ := hf 3 (by simp)
          rw [e3]
          have e4 : vs 4 = _ := hf 4 (by simp)
          rw [e4]
          have hcq := unhide k2 wq hC
          replace hcq := hide hcq
          go_wp2_with fail
          refine (unhide hcq).mono ?_
          rintro e wz ⟨a0, c0, rfl, hla, hbz⟩
          clear hcq
          go_wp2_with fail
          first | exact hC.trans (hbz.mono hC.size) | exact ⟨hC.trans (hbz.mono hC.size), hbz, a0, c0, ⟨rfl, rfl, rfl⟩, hla⟩ | exact ⟨hC.trans (hbz.mono hC.size), hbz, a0, c0, ⟨rfl, rfl⟩, hla⟩ | exact ⟨hC.trans (hbz.mono hC.size), hbz, a0, c0, rfl, hla⟩ | exact ⟨hC.trans (hbz.mono hC.size), a0, c0, ⟨rfl, rfl⟩, hla⟩ | exact ⟨hC.trans (hbz.mono hC.size), a0, ⟨rfl, rfl⟩, hla⟩ | (trace_state; fail)
        · refine FrontStep.of [2, 5] _ rfl (by kernel_rfl) ?_
          intro vs LL wq hLL hC hf
          simp only [putL, List.foldl_nil, List.foldl_cons, List.getElem?_cons_zero, List.getElem?_cons_succ]
          obtain ⟨a28, c28, e28, h28⟩ := hf 2 (by simp)
          rw [e28]
          obtain ⟨a31, c31, e31, h31⟩ := hf 5 (by simp)
          rw [e31]
          have hcq := rsame_any a28 N1 c28 X1 a31 N1 c31 X1 wq h28 h31 (by omega) (by omega)
          rw [decide_eq_true rfl] at hcq
          clear h28 h31
          replace hcq := hide hcq
          go_wp2_with fail
          refine (unhide hcq).mono ?_
          rintro e wz ⟨rfl, q, hq⟩
          have hbz : Below wq.heap.size wq wz := by rw [hq]; exact blw_drewN (Below.refl _ _) _
          clear hcq hq
          go_wp2_with fail
          first | exact hC.trans (hbz.mono hC.size) | exact ⟨hC.trans (hbz.mono hC.size), hbz⟩ | (trace_state; fail)
        · refine FrontStep.of [6] _ rfl (by kernel_rfl) ?_
          intro vs LL wq hLL hC hf
          simp only [putL, List.foldl_nil, List.foldl_cons, List.getElem?_cons_zero, List.getElem?_cons_succ]
          have e6 : vs 6 = _ := hf 6 (by simp)
          rw [e6]
          go_wp2_with fail
          first | exact Below.refl _ _ | exact ⟨Below.refl _ _, by omega⟩
        · refine FrontStep.of [6, 7] _ rfl (by kernel_rfl) ?_
          intro vs LL wq hLL hC hf
          simp only [putL, List.foldl_nil, List.foldl_cons, List.getElem?_cons_zero, List.getElem?_cons_succ]
          have e6 : vs 6 = _ := hf 6 (by simp)
          rw [e6]
          have e7 : vs 7 = _ := hf 7 (by simp)
          rw [e7]
          go_wp2_with fail
          first | exact Below.refl _ _ | exact ⟨Below.refl _ _, by omega⟩
        · refine FrontStep.of [8] _ rfl (by kernel_rfl) ?_
          intro vs LL wq hLL hC hf
          simp only [putL, List.foldl_nil, List.foldl_cons, List.getElem?_cons_zero, List.getElem?_cons_succ]
          have e8 : vs 8 = _ := hf 8 (by simp)
          rw [e8]
          go_wp2_with fail
          first | exact Below.refl _ _ | exact ⟨Below.refl _ _, by omega⟩
        · refine FrontStep.of [8] _ rfl (by kernel_rfl) ?_
          intro vs LL wq hLL hC hf
          simp only [putL, List.foldl_nil, List.foldl_cons, List.getElem?_cons_zero, List.getElem?_cons_succ]
          have e8 : vs 8 = _ := hf 8 (by simp)
          rw [e8]
          go_wp2_with fail
          first | exact Below.refl _ _ | exact ⟨Below.refl _ _, by omega⟩
        · refine FrontStep.of [8, 10] _ rfl (by kernel_rfl) ?_
          intro vs LL wq hLL hC hf
          simp only [putL, List.foldl_nil, List.foldl_cons, List.getElem?_cons_zero, List.getElem?_cons_succ]
          have e8 : vs 8 = _ := hf 8 (by simp)
          rw [e8]
          have e10 : vs 10 = _ := hf 10 (by simp)
          rw [e10]
          have hcq := cell_under d0 hC
          go_wp2_with fail
          first | exact Below.refl _ _ | exact ⟨Below.refl _ _, by omega⟩
        · refine FrontStep.of [8] _ rfl (by kernel_rfl) ?_
          intro vs LL wq hLL hC hf
          simp only [putL, List.foldl_nil, List.foldl_cons, List.getElem?_cons_zero, List.getElem?_cons_succ]
          have e8 : vs 8 = _ := hf 8 (by simp)
          rw [e8]
          go_wp2_with fail
          first | exact Below.refl _ _ | exact ⟨Below.refl _ _, by omega⟩
        · refine FrontStep.of [8, 12] _ rfl (by kernel_rfl) ?_
          intro vs LL wq hLL hC hf
          simp only [putL, List.foldl_nil, List.foldl_cons, List.getElem?_cons_zero, List.getElem?_cons_succ]
          have e8 : vs 8 = _ := hf 8 (by simp)
          rw [e8]
          have e12 : vs 12 = _ := hf 12 (by simp)
          rw [e12]
          have hcq := cell_under d1 hC
          go_wp2_with fail
          first | exact Below.refl _ _ | exact ⟨Below.refl _ _, by omega⟩
        · refine FrontStep.of [8, 9, 11, 13] _ rfl (by kernel_rfl) ?_
          intro vs LL wq hLL hC hf
          simp only [putL, List.foldl_nil, List.foldl_cons, List.getElem?_cons_zero, List.getElem?_cons_succ]
          have e8 : vs 8 = _ := hf 8 (by simp)
          rw [e8]
          have e9 : vs 9 = _ := hf 9 (by simp)
          rw [e9]
          have e11 : vs 11 = _ := hf 11 (by simp)
          rw [e11]
          have e13 : vs 13 = _ := hf 13 (by simp)
          rw [e13]
          have hcq := unhide k3 wq hC
          replace hcq := hide hcq
          go_wp2_with fail
          refine (unhide hcq).mono ?_
          rintro e wz ⟨a0, c0, rfl, hla, hbz⟩
          clear hcq
          go_wp2_with fail
          first | exact hC.trans (hbz.mono hC.size) | exact ⟨hC.trans (hbz.mono hC.size), hbz, a0, c0, ⟨rfl, rfl, rfl⟩, hla⟩ | exact ⟨hC.trans (hbz.mono hC.size), hbz, a0, c0, ⟨rfl, rfl⟩, hla⟩ | exact ⟨hC.trans (hbz.mono hC.size), hbz, a0, c0, rfl, hla⟩ | exact ⟨hC.trans (hbz.mono hC.size), a0, c0, ⟨rfl, rfl⟩, hla⟩ | exact ⟨hC.trans (hbz.mono hC.size), a0, ⟨rfl, rfl⟩, hla⟩ | (trace_state; fail)
        · refine FrontStep.of [8] _ rfl (by kernel_rfl) ?_
          intro vs LL wq hLL hC hf
          simp only [putL, List.foldl_nil, List.foldl_cons, List.getElem?_cons_zero, List.getElem?_cons_succ]
          have e8 : vs 8 = _ := hf 8 (by simp)
          rw [e8]
          go_wp2_with fail
          first | exact Below.refl _ _ | exact ⟨Below.refl _ _, by omega⟩
        · refine FrontStep.of [8] _ rfl (by kernel_rfl) ?_
          intro vs LL wq hLL hC hf
          simp only [putL, List.foldl_nil, List.foldl_cons, List.getElem?_cons_zero, List.getElem?_cons_succ]
          have e8 : vs 8 = _ := hf 8 (by simp)
          rw [e8]
          go_wp2_with fail
          first | exact Below.refl _ _ | exact ⟨Below.refl _ _, by omega⟩
        · refine FrontStep.of [8, 16] _ rfl (by kernel_rfl) ?_
          intro vs LL wq hLL hC hf
          simp only [putL, List.foldl_nil, List.foldl_cons, List.getElem?_cons_zero, List.getElem?_cons_succ]
          have e8 : vs 8 = _ := hf 8 (by simp)
          rw [e8]
          have e16 : vs 16 = _ := hf 16 (by simp)
          rw [e16]
          have hcq := cell_under d0 hC
          go_wp2_with fail
          first | exact Below.refl _ _ | exact ⟨Below.refl _ _, by omega⟩
        · refine FrontStep.of [8] _ rfl (by kernel_rfl) ?_
          intro vs LL wq hLL hC hf
          simp only [putL, List.foldl_nil, List.foldl_cons, List.getElem?_cons_zero, List.getElem?_cons_succ]
          have e8 : vs 8 = _ := hf 8 (by simp)
          rw [e8]
          go_wp2_with fail
          first | exact Below.refl _ _ | exact ⟨Below.refl _ _, by omega⟩
        · refine FrontStep.of [8, 18] _ rfl (by kernel_rfl) ?_
          intro vs LL wq hLL hC hf
          simp only [putL, List.foldl_nil, List.foldl_cons, List.getElem?_cons_zero, List.getElem?_cons_succ]
          have e8 : vs 8 = _ := hf 8 (by simp)
          rw [e8]
          have e18 : vs 18 = _ := hf 18 (by simp)
          rw [e18]
          have hcq := cell_under d1 hC
          go_wp2_with fail
          first | exact Below.refl _ _ | exact ⟨Below.refl _ _, by omega⟩
        · refine FrontStep.of [8, 14, 15, 17, 19] _ rfl (by kernel_rfl) ?_
          intro vs LL wq hLL hC hf
          simp only [putL, List.foldl_nil, List.foldl_cons, List.getElem?_cons_zero, List.getElem?_cons_succ]
          have e8 : vs 8 = _ := hf 8 (by simp)
          rw [e8]
          obtain ⟨a40, c40, e40, h40⟩ := hf 14 (by simp)
          rw [e40]
          have e15 : vs 15 = _ := hf 15 (by simp)
          rw [e15]
          have e17 : vs 17 = _ := hf 17 (by simp)
          rw [e17]
          have e19 : vs 19 = _ := hf 19 (by simp)
          rw [e19]
          have hcq := unhide k4 wq hC
          replace hcq := hide hcq
          go_wp2_with fail
          refine (unhide hcq).mono ?_
          rintro e wz ⟨a0, c0, rfl, hla, hbz⟩
          clear hcq
          go_wp2_with fail
          first | exact hC.trans (hbz.mono hC.size) | exact ⟨hC.trans (hbz.mono hC.size), hbz, a0, c0, ⟨rfl, rfl, rfl⟩, hla⟩ | exact ⟨hC.trans (hbz.mono hC.size), hbz, a0, c0, ⟨rfl, rfl⟩, hla⟩ | exact ⟨hC.trans (hbz.mono hC.size), hbz, a0, c0, rfl, hla⟩ | exact ⟨hC.trans (hbz.mono hC.size), a0, c0, ⟨rfl, rfl⟩, hla⟩ | exact ⟨hC.trans (hbz.mono hC.size), a0, ⟨rfl, rfl⟩, hla⟩ | (trace_state; fail)
        · refine FrontStep.of [8, 14, 20] _ rfl (by kernel_rfl) ?_
          intro vs LL wq hLL hC hf
          simp only [putL, List.foldl_nil, List.foldl_cons, List.getElem?_cons_zero, List.getElem?_cons_succ]
          have e8 : vs 8 = _ := hf 8 (by simp)
          rw [e8]
          obtain ⟨a40, c40, e40, h40⟩ := hf 14 (by simp)
          rw [e40]
          obtain ⟨a46, c46, e46, h46⟩ := hf 20 (by simp)
          rw [e46]
          have hcq := rsame_any a40 N2 c40 X2 a46 N2 c46 X2 wq h40 h46 (by omega) (by omega)
          rw [decide_eq_true rfl] at hcq
          clear h40 h46
          replace hcq := hide hcq
          go_wp2_with fail
          refine (unhide hcq).mono ?_
          rintro e wz ⟨rfl, q, hq⟩
          have hbz : Below wq.heap.size wq wz := by rw [hq]; exact blw_drewN (Below.refl _ _) _
          clear hcq hq
          go_wp2_with fail
          first | exact hC.trans (hbz.mono hC.size) | exact ⟨hC.trans (hbz.mono hC.size), hbz⟩ | (trace_state; fail)
        · refine FrontStep.of [8, 21] _ rfl (by kernel_rfl) ?_
          intro vs LL wq hLL hC hf
          simp only [putL, List.foldl_nil, List.foldl_cons, List.getElem?_cons_zero, List.getElem?_cons_succ]
          have e8 : vs 8 = _ := hf 8 (by simp)
          rw [e8]
          have e21 : vs 21 = _ := hf 21 (by simp)
          rw [e21]
          go_wp2_with fail
          first | exact Below.refl _ _ | exact ⟨Below.refl _ _, by omega⟩
        · refine FrontStep.of [8, 22] _ rfl (by kernel_rfl) ?_
          intro vs LL wq hLL hC hf
          simp only [putL, List.foldl_nil, List.foldl_cons, List.getElem?_cons_zero, List.getElem?_cons_succ]
          have e8 : vs 8 = _ := hf 8 (by simp)
          rw [e8]
          have e22 : vs 22 = _ := hf 22 (by simp)
          rw [e22]
          go_wp2_with fail
          first | exact Below.refl _ _ | exact ⟨Below.refl _ _, by omega⟩
        · refine FrontStep.of [21, 23] _ rfl (by kernel_rfl) ?_
          intro vs LL wq hLL hC hf
          simp only [putL, List.foldl_nil, List.foldl_cons, List.getElem?_cons_zero, List.getElem?_cons_succ]
          have e21 : vs 21 = _ := hf 21 (by simp)
          rw [e21]
          have e23 : vs 23 = _ := hf 23 (by simp)
          rw [e23]
          go_wp2_with fail
          first | exact Below.refl _ _ | exact ⟨Below.refl _ _, by omega⟩
        · refine FrontStep.of [24] _ rfl (by kernel_rfl) ?_
          intro vs LL wq hLL hC hf
          simp only [putL, List.foldl_nil, List.foldl_cons, List.getElem?_cons_zero, List.getElem?_cons_succ]
          have e24 : vs 24 = _ := hf 24 (by simp)
          rw [e24]
          go_wp2_with fail
          first | exact Below.refl _ _ | exact ⟨Below.refl _ _, by omega⟩
        · refine FrontStep.of [24, 25] _ rfl (by kernel_rfl) ?_
          intro vs LL wq hLL hC hf
          simp only [putL, List.foldl_nil, List.foldl_cons, List.getElem?_cons_zero, List.getElem?_cons_succ]
          have e24 : vs 24 = _ := hf 24 (by simp)
          rw [e24]
          have e25 : vs 25 = _ := hf 25 (by simp)
          rw [e25]
          have hcq := unhide k5 wq hC
          replace hcq := hide hcq
          go_wp2_with fail
          refine (unhide hcq).mono ?_
          rintro e wz ⟨a0, c0, rfl, hla, hbz⟩
          clear hcq
          go_wp2_with fail
          first | exact hC.trans (hbz.mono hC.size) | exact ⟨hC.trans (hbz.mono hC.size), hbz, a0, c0, ⟨rfl, rfl, rfl⟩, hla⟩ | exact ⟨hC.trans (hbz.mono hC.size), hbz, a0, c0, ⟨rfl, rfl⟩, hla⟩ | exact ⟨hC.trans (hbz.mono hC.size), hbz, a0, c0, rfl, hla⟩ | exact ⟨hC.trans (hbz.mono hC.size), a0, c0, ⟨rfl, rfl⟩, hla⟩ | exact ⟨hC.trans (hbz.mono hC.size), a0, ⟨rfl, rfl⟩, hla⟩ | (trace_state; fail)
        · refine FrontStep.of [24] _ rfl (by kernel_rfl) ?_
          intro vs LL wq hLL hC hf
          simp only [putL, List.foldl_nil, List.foldl_cons, List.getElem?_cons_zero, List.getElem?_cons_succ]
          have e24 : vs 24 = _ := hf 24 (by simp)
          rw [e24]
          go_wp2_with fail
          first | exact Below.refl _ _ | exact ⟨Below.refl _ _, by omega⟩
        · refine FrontStep.of [24, 26, 27] _ rfl (by kernel_rfl) ?_
          intro vs LL wq hLL hC hf
          simp only [putL, List.foldl_nil, List.foldl_cons, List.getElem?_cons_zero, List.getElem?_cons_succ]
          have e24 : vs 24 = _ := hf 24 (by simp)
          rw [e24]
          obtain ⟨a52, c52, e52, h52⟩ := hf 26 (by simp)
          rw [e52]
          have e27 : vs 27 = _ := hf 27 (by simp)
          rw [e27]
          have hcq := unhide k6 wq hC
          replace hcq := hide hcq
          go_wp2_with fail
          refine (unhide hcq).mono ?_
          rintro e wz ⟨a0, c0, rfl, hla, hbz⟩
          clear hcq
          go_wp2_with fail
          first | exact hC.trans (hbz.mono hC.size) | exact ⟨hC.trans (hbz.mono hC.size), hbz, a0, c0, ⟨rfl, rfl, rfl⟩, hla⟩ | exact ⟨hC.trans (hbz.mono hC.size), hbz, a0, c0, ⟨rfl, rfl⟩, hla⟩ | exact ⟨hC.trans (hbz.mono hC.size), hbz, a0, c0, rfl, hla⟩ | exact ⟨hC.trans (hbz.mono hC.size), a0, c0, ⟨rfl, rfl⟩, hla⟩ | exact ⟨hC.trans (hbz.mono hC.size), a0, ⟨rfl, rfl⟩, hla⟩ | (trace_state; fail)
        · refine FrontStep.of [24, 26, 28] _ rfl (by kernel_rfl) ?_
          intro vs LL wq hLL hC hf
          simp only [putL, List.foldl_nil, List.foldl_cons, List.getElem?_cons_zero, List.getElem?_cons_succ]
          have e24 : vs 24 = _ := hf 24 (by simp)
          rw [e24]
          obtain ⟨a52, c52, e52, h52⟩ := hf 26 (by simp)
          rw [e52]
          obtain ⟨a54, c54, e54, h54⟩ := hf 28 (by simp)
          rw [e54]
          have hcq := rsame_any a52 N3 c52 X3 a54 N3 c54 X3 wq h52 h54 (by omega) (by omega)
          rw [decide_eq_true rfl] at hcq
          clear h52 h54
          replace hcq := hide hcq
          go_wp2_with fail
          refine (unhide hcq).mono ?_
          rintro e wz ⟨rfl, q, hq⟩
          have hbz : Below wq.heap.size wq wz := by rw [hq]; exact blw_drewN (Below.refl _ _) _
          clear hcq hq
          go_wp2_with fail
          first | exact hC.trans (hbz.mono hC.size) | exact ⟨hC.trans (hbz.mono hC.size), hbz⟩ | (trace_state; fail)
        · refine FrontStep.of [24, 29] _ rfl (by kernel_rfl) ?_
          intro vs LL wq hLL hC hf
          simp only [putL, List.foldl_nil, List.foldl_cons, List.getElem?_cons_zero, List.getElem?_cons_succ]
          have e24 : vs 24 = _ := hf 24 (by simp)
          rw [e24]
          have e29 : vs 29 = _ := hf 29 (by simp)
          rw [e29]
          go_wp2_with fail
          first | exact Below.refl _ _ | exact ⟨Below.refl _ _, by omega⟩
        · refine FrontStep.of [24, 30] _ rfl (by kernel_rfl) ?_
          intro vs LL wq hLL hC hf
          simp only [putL, List.foldl_nil, List.foldl_cons, List.getElem?_cons_zero, List.getElem?_cons_succ]
          have e24 : vs 24 = _ := hf 24 (by simp)
          rw [e24]
          have e30 : vs 30 = _ := hf 30 (by simp)
          rw [e30]
          go_wp2_with fail
          first | exact Below.refl _ _ | exact ⟨Below.refl _ _, by omega⟩
      --END1
      · intro vs LL wq hLL hC hf
        have e31 : vs 31 = _ := hf 31 (by omega)
        rw [putSome_all]
        simp only [putL, List.range, List.range.loop, List.foldl_nil, List.foldl_cons, List.getElem?_cons_zero, List.getElem?_cons_succ, List.drop_succ_cons, List.drop_zero]
        rw [e31]
        clear e31 hf hLL
        have hbz := hide ((unhide hbw).trans (hC.mono (unhide hbw).size))
        clear hC
        go_simp
        go_wp2_with fail
        go_roundw
        case rel => exact ⟨k + 1, by omega, by go_num, unhide hbz⟩
        case measure => simp [intOf]; omega
    · have hke : k = 2 := by omega
      have t1 : ¬ (k : Int) < 2 := by omega
      have hbz := hide ((unhide kk5).trans (hbw.mono (unhide kk5).size))
      clear hbw
      go_wp2_with fail
      go_ret
      exact ⟨rfl, unhide hbz⟩
end Go.Proofs.Ytbodidhggdggmaa
