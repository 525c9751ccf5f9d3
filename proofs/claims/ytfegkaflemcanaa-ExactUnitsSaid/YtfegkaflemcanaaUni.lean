/- The law ExactUnits: 0 and 1 are neutral, order plays no part, integers are added and multiplied. It holds for every input. -/
import Derived.Test.YtfegkaflemcanaaUni0
import Derived.Test.YtfegkaflemcanaaWrap
import Derived.Test.YtfegkaflemcanaaUniP
import Derived.Test.YtfegkaflemcanaaSt
import Derived.Test.YtfegkaflemcanaaFas
namespace Go.Proofs.Ytfegkaflemcanaa
open Go.ChangeShapes Go.WideShapes Go.ChangeAt Go.RowKit

set_option maxRecDepth 100000 in
set_option maxHeartbeats 8000000 in
theorem units_any (xn xd yn yd n m : Int) (w : World) (h1 : I64 xn) (h2 : I64 xd) (h3 : I64 yn) (h4 : I64 yd) (hn : I64 n) (hm : I64 m) :
    Calls Try.prog 8 #[.agg #[.int .i64 xn, .int .i64 xd], .agg #[.int .i64 yn, .int .i64 yd], .agg #[.int .i64 n, .int .i64 m]] w fun e w' => e = .returned (.bool true) ∧ Below w.heap.size w w' := by
  have cl := fun w => elow_all xn xd w h1 h2
  have ca := fun w => esum_any xn xd 0 5 w h1 h2 ⟨by omega, by omega⟩ ⟨by omega, by omega⟩
  have cb := fun w => emul_any 3 3 xn xd w ⟨by omega, by omega⟩ ⟨by omega, by omega⟩ h1 h2
  rw [Ex.sum_zero h1 h2.2] at ca
  rw [Ex.mul_one h1 h2.2] at cb
  rw [Ex.low_ok] at cl ca cb
  have cc := fun w => esum_any xn xd yn yd w h1 h2 h3 h4
  have cd := fun w => esum_any yn yd xn xd w h3 h4 h1 h2
  have ce := fun w => emul_any xn xd yn yd w h1 h2 h3 h4
  have cf := fun w => emul_any yn yd xn xd w h3 h4 h1 h2
  rw [Ex.sum_comm yn yd xn xd] at cd
  rw [Ex.mul_comm yn yd xn xd] at cf
  have sok := @Ex.sum_ok xn xd yn yd
  have cs := fun w => esum_any n 1 m 1 w hn ⟨by omega, by omega⟩ hm ⟨by omega, by omega⟩
  have cp := fun w => emul_any n 1 m 1 w hn ⟨by omega, by omega⟩ hm ⟨by omega, by omega⟩
  have cq := fun w => emd_any n m 1 w hn hm ⟨by omega, by omega⟩
  have es := Ex.sum_int n m
  have ep := Ex.mul_int n m
  have eq := Ex.md_int n m
  have fS : ∃ (sn sd : Int) (fits : Bool), fits = decide (-9223372036854775808 ≤ n + m ∧ n + m ≤ 9223372036854775807) ∧ Ex.numR (Ex.sumS n 1 m 1) = sn ∧ Ex.denR (Ex.sumS n 1 m 1) = sd ∧ Ex.okR (Ex.sumS n 1 m 1) = fits ∧ (fits = true → sn = n + m ∧ sd = 1) ∧ (fits = false → sn = 0 ∧ sd = 0) := by
    by_cases h : -9223372036854775808 ≤ n + m ∧ n + m ≤ 9223372036854775807
    · rw [es, if_pos h]; exact ⟨_, _, true, by simpa using h, rfl, rfl, rfl, fun _ => ⟨rfl, rfl⟩, fun h => by cases h⟩
    · rw [es, if_neg h]; exact ⟨_, _, false, by simpa using h, rfl, rfl, rfl, fun h => (by cases h), fun _ => ⟨rfl, rfl⟩⟩
  have fP : ∃ (pn pd qn : Int) (fit : Bool), Ex.numR (Ex.mulS n 1 m 1) = pn ∧ Ex.denR (Ex.mulS n 1 m 1) = pd ∧ Ex.okR (Ex.mulS n 1 m 1) = fit ∧ valI (Ex.mdS n m 1) = qn ∧ okI (Ex.mdS n m 1) = fit ∧ (fit = true → pn = qn ∧ pd = 1) ∧ (fit = false → pn = 0 ∧ pd = 0) := by
    by_cases h : -9223372036854775808 ≤ n * m ∧ n * m ≤ 9223372036854775807
    · rw [ep, eq, if_pos h, if_pos h]; exact ⟨_, _, _, true, rfl, rfl, rfl, rfl, rfl, fun _ => ⟨rfl, rfl⟩, fun h => by cases h⟩
    · rw [ep, eq, if_neg h, if_neg h]; exact ⟨_, _, _, false, rfl, rfl, rfl, rfl, rfl, fun h => (by cases h), fun _ => ⟨rfl, rfl⟩⟩
  clear es ep eq
  obtain ⟨sn, sd, fits, hfits, a1, a2, a3, fS1, fS0⟩ := fS
  obtain ⟨pn, pd, qn, fit, b1, b2, b3, b4, b5, fP1, fP0⟩ := fP
  rw [a1, a2, a3] at cs
  rw [b1, b2, b3] at cp
  rw [b4, b5] at cq
  clear a1 a2 a3 b1 b2 b3 b4 b5
  generalize Ex.numR (Ex.lowS xn xd) = ln at *
  generalize Ex.denR (Ex.lowS xn xd) = ld at *
  generalize Ex.numR (Ex.sumS xn xd yn yd) = cn at *
  generalize Ex.denR (Ex.sumS xn xd yn yd) = cdn at *
  generalize Ex.okR (Ex.sumS xn xd yn yd) = ck at *
  generalize Ex.numR (Ex.mulS xn xd yn yd) = en at *
  generalize Ex.denR (Ex.mulS xn xd yn yd) = ed at *
  generalize Ex.okR (Ex.mulS xn xd yn yd) = ek at *
  replace cl := hide cl; replace ca := hide ca; replace cb := hide cb; replace cc := hide cc; replace cd := hide cd; replace ce := hide ce; replace cf := hide cf; replace cs := hide cs; replace cp := hide cp; replace cq := hide cq
  replace hfits := hide hfits; replace fS1 := hide fS1; replace fS0 := hide fS0; replace fP1 := hide fP1; replace fP0 := hide fP0; replace sok := hide sok
  obtain ⟨bx, by_, bl, v0, ex, ey, el, ev, st⟩ := St.new3 w (Obj.cells #[.int .i64 xn, .int .i64 xd] 33) (Obj.cells #[.int .i64 yn, .int .i64 yd] 33) (Obj.cells #[.int .i64 n, .int .i64 m] 47)
  replace ex := hide ex; replace ey := hide ey; replace el := hide el; replace ev := hide ev
  go_enter Try.func8, Try.ntmps8
  go_wp2_with fail
  rw [unhide ev, unhide el, unhide ey, unhide ex]
  clear ev el ey
  refine (sanity_any _).mono ?_
  rintro e w1 ⟨rfl, hb1⟩
  replace st := st.call hb1
  clear hb1
  have y0 := st.cell 0 rfl 0 rfl
  have y1 := st.cell 0 rfl 1 rfl
  go_wp2_with fail
  go_quiet (fail)
  clear y0 y1
  replace st := st.drewN nq
  have x0 := st.cell 2 rfl 0 rfl
  have x1 := st.cell 2 rfl 1 rfl
  go_wp2_with fail
  refine (unhide cl _).mono ?_
  rintro e w2 ⟨rfl, hb2⟩
  replace st := st.call hb2
  clear hb2 cl x0 x1
  go_upto_region 4 with fail
  obtain ⟨b1, v1, eb, ew, st⟩ := st.new (Obj.cells #[.int .i64 ln, .int .i64 ld] 33)
  rw [ew, eb]
  clear ew eb
  refine wp_region_front 8 (FaC v1 33 (.int .i64 ln) (.int .i64 ld) 6 7) (FaR v1 33)
    (fun i v w' => match i with
      | 0 => v = .agg #[.int .i64 xn, .int .i64 xd]
      | 1 => v = .agg #[.int .i64 0, .int .i64 5]
      | 2 => v = (.tuple #[.agg #[.int .i64 ln, .int .i64 ld], .bool (decide (1 ≤ xd))])
      | 3 => v = (.tuple #[.agg #[.int .i64 ln, .int .i64 ld], .bool (decide (1 ≤ xd))])
      | 4 => v = .agg #[.int .i64 ln, .int .i64 ld]
      | 5 => v = .bool (decide (1 ≤ xd))
      | 6 => FaP v1 33 v w'
      | _ => True) (by rfl) (by kernel_rfl) ?_ ?_ ?_ ?_
  · exact FaC.start (by omega)
  · intro wa wb hR i v hv
    match i, hv with
    | 0, h => exact h
    | 1, h => exact h
    | 2, h => exact h
    | 3, h => exact h
    | 4, h => exact h
    | 5, h => exact h
    | 6, h => exact FaP.keep h hR
    | 7, _ => trivial
    | _ + 8, _ => trivial
  · as_aux_lemma =>
      intro i hi
      obtain rfl | rfl | rfl | rfl | rfl | rfl | rfl | rfl : i = 0 ∨ i = 1 ∨ i = 2 ∨ i = 3 ∨ i = 4 ∨ i = 5 ∨ i = 6 ∨ i = 7 := by omega
      · refine FrontStep.of [] _ rfl (by kernel_rfl) ?_
        intro vs L wq hL hC hf
        simp only [putL, List.foldl_nil]
        have sq := st.call hC.1
        have y0 := sq.cell 3 rfl 0 rfl
        have y1 := sq.cell 3 rfl 1 rfl
        clear sq
        go_wp2_with fail
        first | exact ⟨hC.keep (Below.refl _ _) 0 _ (by omega) (by omega), FaR.of_below (Below.refl _ _)⟩ | exact ⟨hC.keep (Below.refl _ _) 0 _ (by omega) (by omega), FaR.of_below (Below.refl _ _), rfl⟩
      · refine FrontStep.of [] _ rfl (by kernel_rfl) ?_
        intro vs L wq hL hC hf
        simp only [putL, List.foldl_nil]
        go_wp2_with fail
        refine (of_any _ _ _).mono ?_
        rintro e wc ⟨rfl, hbc⟩
        go_wp2_with fail
        first | exact ⟨hC.keep hbc 1 _ (by omega) (by omega), FaR.of_below hbc⟩ | exact ⟨hC.keep hbc 1 _ (by omega) (by omega), FaR.of_below hbc, rfl⟩
      · refine FrontStep.of [0, 1] _ rfl (by kernel_rfl) ?_
        intro vs L wq hL hC hf
        simp only [putL, List.foldl_nil, List.foldl_cons, List.getElem?_cons_zero, List.getElem?_cons_succ]
        have g0 : vs 0 = _ := hf 0 (by simp)
        rw [g0]
        clear g0
        have g1 : vs 1 = _ := hf 1 (by simp)
        rw [g1]
        clear g1
        go_wp2_with fail
        refine (unhide ca _).mono ?_
        rintro e wc ⟨rfl, hbc⟩
        go_wp2_with fail
        first | exact ⟨hC.keep hbc 2 _ (by omega) (by omega), FaR.of_below hbc⟩ | exact ⟨hC.keep hbc 2 _ (by omega) (by omega), FaR.of_below hbc, rfl⟩
      · refine FrontStep.of [2] _ rfl (by kernel_rfl) ?_
        intro vs L wq hL hC hf
        simp only [putL, List.foldl_nil, List.foldl_cons, List.getElem?_cons_zero, List.getElem?_cons_succ]
        have g2 : vs 2 = _ := hf 2 (by simp)
        rw [g2]
        clear g2
        go_wp2_with fail
        first | exact ⟨hC.keep (Below.refl _ _) 3 _ (by omega) (by omega), FaR.of_below (Below.refl _ _)⟩ | exact ⟨hC.keep (Below.refl _ _) 3 _ (by omega) (by omega), FaR.of_below (Below.refl _ _), rfl⟩
      · refine FrontStep.of [3] _ rfl (by kernel_rfl) ?_
        intro vs L wq hL hC hf
        simp only [putL, List.foldl_nil, List.foldl_cons, List.getElem?_cons_zero, List.getElem?_cons_succ]
        have g3 : vs 3 = _ := hf 3 (by simp)
        rw [g3]
        clear g3
        go_wp2_with fail
        first | exact ⟨hC.keep (Below.refl _ _) 4 _ (by omega) (by omega), FaR.of_below (Below.refl _ _)⟩ | exact ⟨hC.keep (Below.refl _ _) 4 _ (by omega) (by omega), FaR.of_below (Below.refl _ _), rfl⟩
      · refine FrontStep.of [3] _ rfl (by kernel_rfl) ?_
        intro vs L wq hL hC hf
        simp only [putL, List.foldl_nil, List.foldl_cons, List.getElem?_cons_zero, List.getElem?_cons_succ]
        have g3 : vs 3 = _ := hf 3 (by simp)
        rw [g3]
        clear g3
        go_wp2_with fail
        first | exact ⟨hC.keep (Below.refl _ _) 5 _ (by omega) (by omega), FaR.of_below (Below.refl _ _)⟩ | exact ⟨hC.keep (Below.refl _ _) 5 _ (by omega) (by omega), FaR.of_below (Below.refl _ _), rfl⟩
      · refine FrontStep.of [] _ rfl (by kernel_rfl) ?_
        intro vs L wq hL hC hf
        simp only [putL, List.foldl_nil]
        go_wp2_with fail
        exact ⟨hC.alloc hL (by omega) _, FaR.alloc _, FaP.alloc hC.1.size _ _⟩
      · refine FrontStep.of [0, 1, 2, 3, 4, 6] _ rfl (by kernel_rfl) ?_
        intro vs L wq hL hC hf
        simp only [putL, List.foldl_nil, List.foldl_cons, List.getElem?_cons_zero, List.getElem?_cons_succ]
        have g0 : vs 0 = _ := hf 0 (by simp)
        rw [g0]
        clear g0
        have g1 : vs 1 = _ := hf 1 (by simp)
        rw [g1]
        clear g1
        have g2 : vs 2 = _ := hf 2 (by simp)
        rw [g2]
        clear g2
        have g3 : vs 3 = _ := hf 3 (by simp)
        rw [g3]
        clear g3
        have g4 : vs 4 = _ := hf 4 (by simp)
        rw [g4]
        clear g4
        obtain ⟨bq, g6, hbq, xq, yq, hcq⟩ := hf 6 (by simp)
        rw [g6]
        have d0 : wq.cell? ⟨bq, 0, none⟩ = some xq := by simp [World.cell?, hcq]
        have d1 : wq.cell? ⟨bq, 1, none⟩ = some yq := by simp [World.cell?, hcq]
        have d2 : wq.frozen? ⟨bq, 0, none⟩ = false := by simp [World.frozen?, hcq]
        have d3 : wq.frozen? ⟨bq, 1, none⟩ = false := by simp [World.frozen?, hcq]
        replace g6 := hide g6; replace hcq := hide hcq
        go_wp2_with fail
        first | exact ⟨⟨undef, hC.store (unhide g6) hbq (unhide hcq) (by omega) _⟩, FaR.set _ _ _⟩ | exact ⟨hC.store (unhide g6) hbq (unhide hcq) (by omega) _, FaR.set _ _ _⟩
  intro vs L wq hL hC hf
  rw [putSome_all]
  simp only [putL, List.range, List.range.loop, List.foldl_nil, List.foldl_cons, List.getElem?_cons_zero, List.getElem?_cons_succ, List.drop_succ_cons, List.drop_zero]
  obtain ⟨bq, gq, hbq, hcq, hbb⟩ := hC.fin (hL 7 (by omega))
  rw [gq]
  have g0 : vs 0 = _ := hf 0 (by omega)
  rw [g0]
  clear g0
  have g1 : vs 1 = _ := hf 1 (by omega)
  rw [g1]
  clear g1
  have g2 : vs 2 = _ := hf 2 (by omega)
  rw [g2]
  clear g2
  have g3 : vs 3 = _ := hf 3 (by omega)
  rw [g3]
  clear g3
  have g4 : vs 4 = _ := hf 4 (by omega)
  rw [g4]
  clear g4
  have g5 : vs 5 = _ := hf 5 (by omega)
  rw [g5]
  clear g5
  have lt := st.all_lt
  have sz := st.size
  replace st := (st.call hbb).add (Nat.le_trans sz hbq) hcq (fun p hp => Nat.ne_of_lt (Nat.lt_of_lt_of_le (lt p hp) hbq))
  clear hbb hcq hbq gq hC hL hf lt sz
  clear ca
  obtain ⟨b2, hb2⟩ : ∃ b, bq = b := ⟨_, rfl⟩
  rw [hb2] at st ⊢
  clear hb2
  obtain ⟨v2, hv2⟩ : ∃ v, wq = v := ⟨_, rfl⟩
  rw [hv2] at st ⊢
  clear hv2
  go_upto_region 5 with fail
  refine wp_region_front 8 (FaC v2 33 (.int .i64 ln) (.int .i64 ld) 6 7) (FaR v2 33)
    (fun i v w' => match i with
      | 0 => v = .agg #[.int .i64 3, .int .i64 3]
      | 1 => v = .agg #[.int .i64 xn, .int .i64 xd]
      | 2 => v = (.tuple #[.agg #[.int .i64 ln, .int .i64 ld], .bool (decide (1 ≤ xd))])
      | 3 => v = (.tuple #[.agg #[.int .i64 ln, .int .i64 ld], .bool (decide (1 ≤ xd))])
      | 4 => v = .agg #[.int .i64 ln, .int .i64 ld]
      | 5 => v = .bool (decide (1 ≤ xd))
      | 6 => FaP v2 33 v w'
      | _ => True) (by rfl) (by kernel_rfl) ?_ ?_ ?_ ?_
  · exact FaC.start (by omega)
  · intro wa wb hR i v hv
    match i, hv with
    | 0, h => exact h
    | 1, h => exact h
    | 2, h => exact h
    | 3, h => exact h
    | 4, h => exact h
    | 5, h => exact h
    | 6, h => exact FaP.keep h hR
    | 7, _ => trivial
    | _ + 8, _ => trivial
  · as_aux_lemma =>
      intro i hi
      obtain rfl | rfl | rfl | rfl | rfl | rfl | rfl | rfl : i = 0 ∨ i = 1 ∨ i = 2 ∨ i = 3 ∨ i = 4 ∨ i = 5 ∨ i = 6 ∨ i = 7 := by omega
      · refine FrontStep.of [] _ rfl (by kernel_rfl) ?_
        intro vs L wq hL hC hf
        simp only [putL, List.foldl_nil]
        go_wp2_with fail
        refine (of_any _ _ _).mono ?_
        rintro e wc ⟨rfl, hbc⟩
        go_wp2_with fail
        first | exact ⟨hC.keep hbc 0 _ (by omega) (by omega), FaR.of_below hbc⟩ | exact ⟨hC.keep hbc 0 _ (by omega) (by omega), FaR.of_below hbc, rfl⟩
      · refine FrontStep.of [] _ rfl (by kernel_rfl) ?_
        intro vs L wq hL hC hf
        simp only [putL, List.foldl_nil]
        have sq := st.call hC.1
        have y0 := sq.cell 4 rfl 0 rfl
        have y1 := sq.cell 4 rfl 1 rfl
        clear sq
        go_wp2_with fail
        first | exact ⟨hC.keep (Below.refl _ _) 1 _ (by omega) (by omega), FaR.of_below (Below.refl _ _)⟩ | exact ⟨hC.keep (Below.refl _ _) 1 _ (by omega) (by omega), FaR.of_below (Below.refl _ _), rfl⟩
      · refine FrontStep.of [0, 1] _ rfl (by kernel_rfl) ?_
        intro vs L wq hL hC hf
        simp only [putL, List.foldl_nil, List.foldl_cons, List.getElem?_cons_zero, List.getElem?_cons_succ]
        have g0 : vs 0 = _ := hf 0 (by simp)
        rw [g0]
        clear g0
        have g1 : vs 1 = _ := hf 1 (by simp)
        rw [g1]
        clear g1
        go_wp2_with fail
        refine (unhide cb _).mono ?_
        rintro e wc ⟨rfl, hbc⟩
        go_wp2_with fail
        first | exact ⟨hC.keep hbc 2 _ (by omega) (by omega), FaR.of_below hbc⟩ | exact ⟨hC.keep hbc 2 _ (by omega) (by omega), FaR.of_below hbc, rfl⟩
      · refine FrontStep.of [2] _ rfl (by kernel_rfl) ?_
        intro vs L wq hL hC hf
        simp only [putL, List.foldl_nil, List.foldl_cons, List.getElem?_cons_zero, List.getElem?_cons_succ]
        have g2 : vs 2 = _ := hf 2 (by simp)
        rw [g2]
        clear g2
        go_wp2_with fail
        first | exact ⟨hC.keep (Below.refl _ _) 3 _ (by omega) (by omega), FaR.of_below (Below.refl _ _)⟩ | exact ⟨hC.keep (Below.refl _ _) 3 _ (by omega) (by omega), FaR.of_below (Below.refl _ _), rfl⟩
      · refine FrontStep.of [3] _ rfl (by kernel_rfl) ?_
        intro vs L wq hL hC hf
        simp only [putL, List.foldl_nil, List.foldl_cons, List.getElem?_cons_zero, List.getElem?_cons_succ]
        have g3 : vs 3 = _ := hf 3 (by simp)
        rw [g3]
        clear g3
        go_wp2_with fail
        first | exact ⟨hC.keep (Below.refl _ _) 4 _ (by omega) (by omega), FaR.of_below (Below.refl _ _)⟩ | exact ⟨hC.keep (Below.refl _ _) 4 _ (by omega) (by omega), FaR.of_below (Below.refl _ _), rfl⟩
      · refine FrontStep.of [3] _ rfl (by kernel_rfl) ?_
        intro vs L wq hL hC hf
        simp only [putL, List.foldl_nil, List.foldl_cons, List.getElem?_cons_zero, List.getElem?_cons_succ]
        have g3 : vs 3 = _ := hf 3 (by simp)
        rw [g3]
        clear g3
        go_wp2_with fail
        first | exact ⟨hC.keep (Below.refl _ _) 5 _ (by omega) (by omega), FaR.of_below (Below.refl _ _)⟩ | exact ⟨hC.keep (Below.refl _ _) 5 _ (by omega) (by omega), FaR.of_below (Below.refl _ _), rfl⟩
      · refine FrontStep.of [] _ rfl (by kernel_rfl) ?_
        intro vs L wq hL hC hf
        simp only [putL, List.foldl_nil]
        go_wp2_with fail
        exact ⟨hC.alloc hL (by omega) _, FaR.alloc _, FaP.alloc hC.1.size _ _⟩
      · refine FrontStep.of [0, 1, 2, 3, 4, 6] _ rfl (by kernel_rfl) ?_
        intro vs L wq hL hC hf
        simp only [putL, List.foldl_nil, List.foldl_cons, List.getElem?_cons_zero, List.getElem?_cons_succ]
        have g0 : vs 0 = _ := hf 0 (by simp)
        rw [g0]
        clear g0
        have g1 : vs 1 = _ := hf 1 (by simp)
        rw [g1]
        clear g1
        have g2 : vs 2 = _ := hf 2 (by simp)
        rw [g2]
        clear g2
        have g3 : vs 3 = _ := hf 3 (by simp)
        rw [g3]
        clear g3
        have g4 : vs 4 = _ := hf 4 (by simp)
        rw [g4]
        clear g4
        obtain ⟨bq, g6, hbq, xq, yq, hcq⟩ := hf 6 (by simp)
        rw [g6]
        have d0 : wq.cell? ⟨bq, 0, none⟩ = some xq := by simp [World.cell?, hcq]
        have d1 : wq.cell? ⟨bq, 1, none⟩ = some yq := by simp [World.cell?, hcq]
        have d2 : wq.frozen? ⟨bq, 0, none⟩ = false := by simp [World.frozen?, hcq]
        have d3 : wq.frozen? ⟨bq, 1, none⟩ = false := by simp [World.frozen?, hcq]
        replace g6 := hide g6; replace hcq := hide hcq
        go_wp2_with fail
        first | exact ⟨⟨undef, hC.store (unhide g6) hbq (unhide hcq) (by omega) _⟩, FaR.set _ _ _⟩ | exact ⟨hC.store (unhide g6) hbq (unhide hcq) (by omega) _, FaR.set _ _ _⟩
  intro vs L wq hL hC hf
  rw [putSome_all]
  simp only [putL, List.range, List.range.loop, List.foldl_nil, List.foldl_cons, List.getElem?_cons_zero, List.getElem?_cons_succ, List.drop_succ_cons, List.drop_zero]
  obtain ⟨bq, gq, hbq, hcq, hbb⟩ := hC.fin (hL 7 (by omega))
  rw [gq]
  have g0 : vs 0 = _ := hf 0 (by omega)
  rw [g0]
  clear g0
  have g1 : vs 1 = _ := hf 1 (by omega)
  rw [g1]
  clear g1
  have g2 : vs 2 = _ := hf 2 (by omega)
  rw [g2]
  clear g2
  have g3 : vs 3 = _ := hf 3 (by omega)
  rw [g3]
  clear g3
  have g4 : vs 4 = _ := hf 4 (by omega)
  rw [g4]
  clear g4
  have g5 : vs 5 = _ := hf 5 (by omega)
  rw [g5]
  clear g5
  have lt := st.all_lt
  have sz := st.size
  replace st := (st.call hbb).add (Nat.le_trans sz hbq) hcq (fun p hp => Nat.ne_of_lt (Nat.lt_of_lt_of_le (lt p hp) hbq))
  clear hbb hcq hbq gq hC hL hf lt sz
  clear cb
  obtain ⟨b3, hb3⟩ : ∃ b, bq = b := ⟨_, rfl⟩
  rw [hb3] at st ⊢
  clear hb3
  obtain ⟨v3, hv3⟩ : ∃ v, wq = v := ⟨_, rfl⟩
  rw [hv3] at st ⊢
  clear hv3
  go_upto_region 6 with fail
  have z0 := st.cell 0 rfl 0 rfl
  have z1 := st.cell 0 rfl 1 rfl
  have z2 := st.cell 1 rfl 0 rfl
  have z3 := st.cell 1 rfl 1 rfl
  have z4 := st.cell 2 rfl 0 rfl
  have z5 := st.cell 2 rfl 1 rfl
  have z6 := st.cell 5 rfl 1 rfl
  go_upto_region 8 with fail
  generalize decide (1 ≤ xd) = vx
  clear z0 z1 z2 z3 z4 z5 z6
  have z0 := st.cell 5 rfl 0 rfl
  have z1 := st.cell 5 rfl 1 rfl
  have z2 := st.cell 4 rfl 0 rfl
  have z3 := st.cell 4 rfl 1 rfl
  go_wp2_with fail
  refine (unhide cc _).mono ?_
  rintro e u4 ⟨rfl, hu⟩
  replace st := st.call hu
  clear hu
  clear z0 z1 z2 z3
  clear cc
  go_upto_region 9 with fail
  obtain ⟨b4, v4, eb, ew, st⟩ := st.new (Obj.cells #[.int .i64 cn, .int .i64 cdn] 33)
  rw [ew, eb]
  clear ew eb
  have z0 := st.cell 6 rfl 0 rfl
  have z1 := st.cell 6 rfl 1 rfl
  have z2 := st.cell 5 rfl 0 rfl
  have z3 := st.cell 5 rfl 1 rfl
  go_wp2_with fail
  refine (unhide cd _).mono ?_
  rintro e u5 ⟨rfl, hu⟩
  replace st := st.call hu
  clear hu
  clear z0 z1 z2 z3
  clear cd
  go_upto_region 10 with fail
  obtain ⟨b5, v5, eb, ew, st⟩ := st.new (Obj.cells #[.int .i64 cn, .int .i64 cdn] 33)
  rw [ew, eb]
  clear ew eb
  have z0 := st.cell 7 rfl 0 rfl
  have z1 := st.cell 7 rfl 1 rfl
  have z2 := st.cell 6 rfl 0 rfl
  have z3 := st.cell 6 rfl 1 rfl
  go_wp2_with fail
  refine (unhide ce _).mono ?_
  rintro e u6 ⟨rfl, hu⟩
  replace st := st.call hu
  clear hu
  clear z0 z1 z2 z3
  clear ce
  go_upto_region 11 with fail
  obtain ⟨b6, v6, eb, ew, st⟩ := st.new (Obj.cells #[.int .i64 en, .int .i64 ed] 33)
  rw [ew, eb]
  clear ew eb
  have z0 := st.cell 8 rfl 0 rfl
  have z1 := st.cell 8 rfl 1 rfl
  have z2 := st.cell 7 rfl 0 rfl
  have z3 := st.cell 7 rfl 1 rfl
  go_wp2_with fail
  refine (unhide cf _).mono ?_
  rintro e u7 ⟨rfl, hu⟩
  replace st := st.call hu
  clear hu
  clear z0 z1 z2 z3
  clear cf
  go_upto_region 12 with fail
  obtain ⟨b7, v7, eb, ew, st⟩ := st.new (Obj.cells #[.int .i64 en, .int .i64 ed] 33)
  rw [ew, eb]
  clear ew eb
  have z0 := st.cell 3 rfl 0 rfl
  have z1 := st.cell 3 rfl 1 rfl
  have z2 := st.cell 2 rfl 0 rfl
  have z3 := st.cell 2 rfl 1 rfl
  have z4 := st.cell 1 rfl 0 rfl
  have z5 := st.cell 1 rfl 1 rfl
  have z6 := st.cell 0 rfl 0 rfl
  have z7 := st.cell 0 rfl 1 rfl
  have z8 := st.cell 9 rfl 1 rfl
  have z9 := st.cell 8 rfl 1 rfl
  replace st := st.drop 10
  simp only [List.drop_succ_cons, List.drop_nil] at st
  go_cut [132] (fun v wr => v = .bool false ∧ St w.heap.size w [] wr)
  case first =>
    as_aux_lemma =>
      cases ck
      · go_wp2_with fail
        go_meet
        exact ⟨rfl, st⟩
      · obtain ⟨k1, k2⟩ := unhide sok rfl
        have t1 : decide (xd < 1) = false := by simp; omega
        have t2 : decide (yd < 1) = false := by simp; omega
        clear k1 k2
        go_wp2_with fail
        go_meet
        exact ⟨rfl, st⟩
  case rest =>
    as_aux_lemma =>
      obtain ⟨rfl, st⟩ := hcut
      clear sok z0 z1 z2 z3 z4 z5 z6 z7 z8 z9
      go_upto_region 14 with fail
      go_cut [24] (fun v wr => v = .bool fits ∧ St w.heap.size w [] wr)
      case first =>
        as_aux_lemma =>
          obtain ⟨n1, n2⟩ := hn
          obtain ⟨m1, m2⟩ := hm
          by_cases hm0 : 0 ≤ m
          · have t1 : decide (0 ≤ m) = true := by simpa using hm0
            have t2 : decide (m < 0) = false := by simp; omega
            have t3 : decide (n ≤ 9223372036854775807 - m) = fits := by rw [hfits.out]; apply decide_eq_decide.2; omega
            have t4 := t3
            cases fits
            · go_wp2_with fail
              go_meet
              exact ⟨rfl, st⟩
            · go_wp2_with fail
              go_meet
              exact ⟨rfl, st⟩
          · have t1 : decide (0 ≤ m) = false := by simpa using hm0
            have t2 : decide (m < 0) = true := by simp; omega
            have t3 : decide (-9223372036854775808 - m ≤ n) = fits := by rw [hfits.out]; apply decide_eq_decide.2; omega
            cases fits
            · go_wp2_with fail
              go_meet
              exact ⟨rfl, st⟩
            · go_wp2_with fail
              go_meet
              exact ⟨rfl, st⟩
      case rest =>
        as_aux_lemma =>
          obtain ⟨rfl, st⟩ := hcut
          go_wp2_with fail
          refine (of_any _ _ _).mono ?_
          rintro e u10 ⟨rfl, hu⟩
          replace st := st.call hu
          clear hu
          go_wp2_with fail
          refine (of_any _ _ _).mono ?_
          rintro e u11 ⟨rfl, hu⟩
          replace st := st.call hu
          clear hu
          go_wp2_with fail
          refine (unhide cs _).mono ?_
          rintro e u12 ⟨rfl, hu⟩
          replace st := st.call hu
          clear hu cs
          go_upto_region 16 with fail
          obtain ⟨b8, v8, eb, ew, st⟩ := st.new (Obj.cells #[.int .i64 sn, .int .i64 sd] 33)
          rw [ew, eb]
          clear ew eb
          go_wp2_with fail
          refine (of_any _ _ _).mono ?_
          rintro e u13 ⟨rfl, hu⟩
          replace st := st.call hu
          clear hu
          go_wp2_with fail
          refine (of_any _ _ _).mono ?_
          rintro e u14 ⟨rfl, hu⟩
          replace st := st.call hu
          clear hu
          go_wp2_with fail
          refine (unhide cp _).mono ?_
          rintro e u15 ⟨rfl, hu⟩
          replace st := st.call hu
          clear hu cp
          go_upto_region 17 with fail
          obtain ⟨b9, v9, eb, ew, st⟩ := st.new (Obj.cells #[.int .i64 pn, .int .i64 pd] 33)
          rw [ew, eb]
          clear ew eb
          go_wp2_with fail
          refine (unhide cq _).mono ?_
          rintro e u16 ⟨rfl, hu⟩
          replace st := st.call hu
          clear hu cq
          go_upto_region 18 with fail
          go_cut [195] (fun v wr => v = .bool false ∧ St w.heap.size w [(b9, Obj.cells #[.int .i64 pn, .int .i64 pd] 33), (b8, Obj.cells #[.int .i64 sn, .int .i64 sd] 33)] wr)
          case first =>
            as_aux_lemma =>
              have y0 := st.xcell 1 rfl 0 rfl
              have y1 := st.xcell 1 rfl 1 rfl
              cases fits
              · obtain ⟨rfl, rfl⟩ := unhide fS0 rfl
                have g0 := st.cell 1 rfl 0 rfl
                have g1 := st.cell 1 rfl 1 rfl
                clear y0 y1
                go_quiet (fail)
                replace st := st.drewN nq
                go_wp2_with fail
                go_meet
                exact ⟨rfl, st⟩
              · have hr : -9223372036854775808 ≤ n + m ∧ n + m ≤ 9223372036854775807 := by have := hfits.out; simpa using this.symm
                have ew : IntKind.i64.wrap (n + m) = n + m := IntWalk.i64_in _ (by omega)
                obtain ⟨rfl, rfl⟩ := unhide fS1 rfl
                refine wp_region_ext (by rfl) (by kernel_rfl) ?_
                repeat (quiet_step ((go_at_call 19; with_reducible exact Ext.calls (of_any _ _ _))))
                refine wpQuiet_nil ?_
                rintro w' ⟨x, rfl⟩
                go_wp2_with fail
                go_meet
                exact ⟨rfl, st.ext x⟩
          case rest =>
            as_aux_lemma =>
              obtain ⟨rfl, st⟩ := hcut
              clear fS0 fS1 hfits
              go_upto_region 20 with fail
              have y0 := st.xcell 0 rfl 0 rfl
              have y1 := st.xcell 0 rfl 1 rfl
              cases fit
              · obtain ⟨rfl, rfl⟩ := unhide fP0 rfl
                have g0 := st.cell 0 rfl 0 rfl
                have g1 := st.cell 0 rfl 1 rfl
                clear y0 y1
                go_quiet (fail)
                have hbel := (st.drewN nq).below
                go_wp2
                go_ret
                exact ⟨rfl, hbel⟩
              · obtain ⟨rfl, rfl⟩ := unhide fP1 rfl
                refine wp_region_ext (by rfl) (by kernel_rfl) ?_
                repeat (quiet_step ((go_at_call 19; with_reducible exact Ext.calls (of_any _ _ _))))
                refine wpQuiet_nil ?_
                rintro w' ⟨x, rfl⟩
                have hbel := (st.ext x).below
                go_wp2
                go_ret
                exact ⟨rfl, hbel⟩
end Go.Proofs.Ytfegkaflemcanaa
