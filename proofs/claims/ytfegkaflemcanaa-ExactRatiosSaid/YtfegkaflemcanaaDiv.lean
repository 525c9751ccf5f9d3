/- bits.Div64: the long division of two words by one. -/
import Derived.Test.YtfegkaflemcanaaBits
import Derived.Test.YtfegkaflemcanaaDivP
import Derived.Deep.QuietTactic
import Derived.BigQuiet
import Derived.LoopTactic
import Derived.Outline
namespace Go.Proofs.Ytfegkaflemcanaa
open Go.RowKit

theorem below_drewN (w : World) : ∀ n : Nat, Below w.heap.size w (w.drewN n)
  | 0 => Below.refl _ _
  | n + 1 => (below_drewN w n).drew

set_option maxHeartbeats 1000000 in
theorem div64_low (lo y : Nat) (w : World) (hy : 1 ≤ y) (hy2 : y < 18446744073709551616) (hlo : lo < 18446744073709551616) :
    Calls Try.prog 52 #[.int .u64 0, .int .u64 lo, .int .u64 y] w fun e w' => e = .returned (.tuple #[.int .u64 ((lo / y : Nat) : Int), .int .u64 ((lo % y : Nat) : Int)]) ∧ ∃ n, w' = w.drewN n := by
  have e0 : (((y : Nat) : Int) == 0) = false := by simp; omega
  have e1 : decide (((y : Nat) : Int) ≤ 0) = false := by simp; omega
  have y0 : ¬ ((y : Nat) : Int) = 0 := by omega
  have y0' : ¬ (y : Nat) = 0 := by omega
  have q1 : IntKind.u64.wrap ((lo : Int).tdiv (y : Int)) = ((lo / y : Nat) : Int) := by
    rw [Int.tdiv_eq_ediv_of_nonneg (by omega), ← Int.natCast_ediv, Dv.wrapN _ (Nat.lt_of_le_of_lt (Nat.div_le_self _ _) hlo)]
  have q2 : (lo : Int).tmod (y : Int) = ((lo % y : Nat) : Int) := by
    rw [Int.tmod_eq_emod_of_nonneg (by omega), ← Int.natCast_emod]
  go_enter Try.func52, Try.ntmps52
  go_wp2
  go_quiet (fail)
  go_wp2
  go_ret2
  exact ⟨ret2 (int_eq (by first | rfl | (rw [← Int.natCast_ediv]; exact Dv.wrapN _ (Nat.lt_of_le_of_lt (Nat.div_le_self _ _) hlo)))) (int_eq (by first | rfl | simp [q2])), _, rfl⟩

theorem nat_at {a : Nat} {x : Int} (h : x = (a : Int)) : x = (a : Int) := h

set_option maxRecDepth 100000 in
set_option maxHeartbeats 4000000 in
theorem div64_high (hi lo y : Nat) (w : World) (h0 : 1 ≤ hi) (hy : hi < y) (hy2 : y < 18446744073709551616) (hlo : lo < 18446744073709551616) :
    Calls Try.prog 52 #[.int .u64 hi, .int .u64 lo, .int .u64 y] w fun e w' => e = .returned (.tuple #[.int .u64 (((hi * 18446744073709551616 + lo) / y : Nat) : Int), .int .u64 (((hi * 18446744073709551616 + lo) % y : Nat) : Int)]) ∧ w' = w := by
  have e0 : (((y : Nat) : Int) == 0) = false := by simp; omega
  have e1 : decide (y ≤ hi) = false := by simp; omega
  have e2 : (((hi : Nat) : Int) == 0) = false := by simp; omega
  have hb := bitLen_range 64 y (by simpa using hy2) (by omega)
  obtain ⟨hb1, hb2, hb3, hb4⟩ := hb
  obtain ⟨n1, n2⟩ := Dv.shift y (Lib.bitLen y) hb1 hb2 hb3 hb4
  have hlz := lz64_any y w (by omega) hy2
  obtain ⟨s, hs⟩ : ∃ s, s = 64 - Lib.bitLen y := ⟨_, rfl⟩
  rw [← hs] at n1 n2 hlz
  have hs63 : s ≤ 63 := by have : 1 ≤ Lib.bitLen y := hb1; omega
  clear hs hb1 hb2 hb3 hb4
  obtain ⟨r1, r4, r7, r5, r6, hU, hN⟩ := Dv.norm hi lo y s hs63 hy hlo n1 n2
  obtain ⟨Y, hY⟩ : ∃ Y, Y = y * 2 ^ s := ⟨_, rfl⟩
  obtain ⟨H, hH⟩ : ∃ H, H = hi * 2 ^ s := ⟨_, rfl⟩
  obtain ⟨T, hT⟩ : ∃ T, T = lo * 2 ^ s % 18446744073709551616 := ⟨_, rfl⟩
  obtain ⟨L, hL⟩ : ∃ L, L = lo / 2 ^ (64 - s) := ⟨_, rfl⟩
  rw [← hY] at r1 n1 n2 hU
  rw [← hH] at r4 r6 hU hN
  rw [← hT] at r7 hN
  rw [← hL] at r5 r6 hU hN
  have hT2 : T < 18446744073709551616 := by omega
  obtain ⟨U, hUd⟩ : ∃ U, U = H + L := ⟨_, rfl⟩
  rw [← hUd] at r6 hU hN
  obtain ⟨N, hNd⟩ : ∃ N, N = hi * 18446744073709551616 + lo := ⟨_, rfl⟩
  rw [← hNd] at hN ⊢
  obtain ⟨Y1, hY1⟩ : ∃ Y1, Y1 = Y / 4294967296 := ⟨_, rfl⟩
  obtain ⟨Y0, hY0⟩ : ∃ Y0, Y0 = Y % 4294967296 := ⟨_, rfl⟩
  obtain ⟨V1, hV1⟩ : ∃ V1, V1 = T / 4294967296 := ⟨_, rfl⟩
  obtain ⟨V0, hV0⟩ : ∃ V0, V0 = T % 4294967296 := ⟨_, rfl⟩
  have r2 : (Y : Int) / 4294967296 = (Y1 : Int) := by rw [hY1, Num.divN]
  have r3 : bits .and .u64 (Y : Int) 4294967295 = (Y0 : Int) := by rw [hY0, Num.maskN _ n2]
  have r8 : (T : Int) / 4294967296 = (V1 : Int) := by rw [hV1, Num.divN]
  have r9 : bits .and .u64 (T : Int) 4294967295 = (V0 : Int) := by rw [hV0, Num.maskN _ hT2]
  have b1 : 2147483648 ≤ Y1 := by omega
  have b1' : Y1 < 4294967296 := by omega
  have b0 : Y0 < 4294967296 := by omega
  have v1 : V1 < 4294967296 := by omega
  have v0 : V0 < 4294967296 := by omega
  have hYs : Y = Y1 * 4294967296 + Y0 := by omega
  have hTs : T = V1 * 4294967296 + V0 := by omega
  obtain ⟨r10, r11, q10, q11⟩ := Dv.start Y1 Y0 U b1 b1' b0 (by omega)
  have g1 := Dv.start_ge Y1 Y0 U V1 4294967296 (by omega) (by omega) v1
  obtain ⟨Q, hQ⟩ : ∃ Q, Q = U / Y1 := ⟨_, rfl⟩
  obtain ⟨R, hR⟩ : ∃ R, R = U % Y1 := ⟨_, rfl⟩
  rw [← hQ] at r10 r11 q10 g1
  rw [← hR] at r11 q10 q11
  rw [← hYs] at g1
  obtain ⟨Q1, hQ1⟩ : ∃ Q1, Q1 = (U * 4294967296 + V1) / Y := ⟨_, rfl⟩
  have hQ1l : Q1 < 4294967296 := by rw [hQ1]; exact Dv.qt_lt Y U V1 4294967296 v1 hU
  rw [← hQ1] at g1
  have r12 := Dv.left U V1 Y Q1 (by omega) n2 hQ1
  have hU2 : (U * 4294967296 + V1) % Y < Y := Nat.mod_lt _ (by omega)
  obtain ⟨hNq, hNr⟩ := Dv.whole N s y U T V1 V0 Y (by omega) hY hN hTs
  rw [← hQ1] at hNq
  obtain ⟨U2, hU2d⟩ : ∃ U2, U2 = (U * 4294967296 + V1) % Y := ⟨_, rfl⟩
  rw [← hU2d] at r12 hU2 hNq hNr
  obtain ⟨r13, r14, q13, q14⟩ := Dv.start Y1 Y0 U2 b1 b1' b0 (by omega)
  have g2 := Dv.start_ge Y1 Y0 U2 V0 4294967296 (by omega) (by omega) v0
  obtain ⟨Q', hQ'⟩ : ∃ Q, Q = U2 / Y1 := ⟨_, rfl⟩
  obtain ⟨R', hR'⟩ : ∃ R, R = U2 % Y1 := ⟨_, rfl⟩
  rw [← hQ'] at r13 r14 q13 g2
  rw [← hR'] at r14 q13 q14
  rw [← hYs] at g2
  obtain ⟨Q2, hQ2⟩ : ∃ Q2, Q2 = (U2 * 4294967296 + V0) / Y := ⟨_, rfl⟩
  have hQ2l : Q2 < 4294967296 := by rw [hQ2]; exact Dv.qt_lt Y U2 V0 4294967296 v0 hU2
  rw [← hQ2] at g2 hNq
  have r15 := Dv.left U2 V0 Y Q2 (by omega) n2 hQ2
  obtain ⟨U3, hU3⟩ : ∃ U3, U3 = (U2 * 4294967296 + V0) % Y := ⟨_, rfl⟩
  rw [← hU3] at r15 hNr
  have r16 := Dv.quo Q1 Q2 hQ1l hQ2l
  have hNqh := hide hNq
  rw [← hNq] at r16
  have r17 : (U3 : Int) / 2 ^ s = ((N % y : Nat) : Int) := by rw [hNr]; simp
  -- the two digits' laws
  have D1 : ∀ q r : Nat, q * Y1 + r = U → (q * Y0 ≤ 4294967296 * r + V1 ↔ q ≤ Q1) := fun q r h => by
    rw [hQ1, hYs]; exact Dv.over_iff Y1 Y0 U V1 q r 4294967296 (by omega) (by omega) h
  have F1 : ∀ q r : Nat, q * Y1 + r = U → 4294967296 ≤ r → q ≤ Q1 := fun q r h hr => by
    rw [hQ1, hYs]; exact Dv.far Y1 Y0 U V1 q r 4294967296 (by omega) (by omega) b0 (by omega) h hr
  have D2 : ∀ q r : Nat, q * Y1 + r = U2 → (q * Y0 ≤ 4294967296 * r + V0 ↔ q ≤ Q2) := fun q r h => by
    rw [hQ2, hYs]; exact Dv.over_iff Y1 Y0 U2 V0 q r 4294967296 (by omega) (by omega) h
  have F2 : ∀ q r : Nat, q * Y1 + r = U2 → 4294967296 ≤ r → q ≤ Q2 := fun q r h hr => by
    rw [hQ2, hYs]; exact Dv.far Y1 Y0 U2 V0 q r 4294967296 (by omega) (by omega) b0 (by omega) h hr
  have hUl : U < 18446744073709551616 := by omega
  have hU2l : U2 < 18446744073709551616 := by omega
  clear hQ hR hQ' hR' hU2d hNr hNq hQ1 hQ2 hU3 hN hNd hUd hY hH hT hL hY1 hY0 hV1 hV0 hTs hYs hU hU2 n1 h0 hy hy2 hlo hT2
  replace q10 := hide q10; replace q13 := hide q13; replace D1 := hide D1; replace F1 := hide F1; replace D2 := hide D2; replace F2 := hide F2
  replace g1 := hide g1; replace g2 := hide g2
  have z1 : ¬ (Y1 : Int) = 0 := by omega
  have z2 : ¬ Y1 = 0 := by omega
  go_enter Try.func52, Try.ntmps52
  go_wp2_with (go_at_call 57; refine hlz.mono ?_; rintro e w' ⟨rfl, rfl⟩)
  clear hlz

  go_loop [15, 16] (fun a b => ∃ q r : Nat, a = .int .u64 (q : Int) ∧ b = .int .u64 (r : Int) ∧ q * Y1 + r = U ∧ Q1 ≤ q ∧ r < 4294967296) (fun a _ => (intOf a).toNat)
  case atStart => exact ⟨_, _, rfl, rfl, unhide q10, unhide g1, by omega⟩
  case round =>
    obtain ⟨q, r, rfl, rfl, hq, hg, hr⟩ := hrel
    have hqU : q ≤ U := by
      have : q * 1 ≤ q * Y1 := Nat.mul_le_mul_left q (by omega)
      omega
    have hD := (unhide D1) q r hq
    have i1 : 1 ≤ q → (q - 1) * Y1 + (r + Y1) = U := fun h => by
      rw [Nat.sub_mul, Nat.one_mul]
      have : 1 * Y1 ≤ q * Y1 := Nat.mul_le_mul_right Y1 h
      omega
    have hF := (unhide F1) (q - 1) (r + Y1)
    have o2 : IntKind.u64.wrap ((r : Int) + (Y1 : Int)) = ((r + Y1 : Nat) : Int) := by rw [Num.addN, Num.wrapN _ (by omega)]
    by_cases hc : q ≤ Q1
    · -- the loop is left by its test
      have hqe : q = Q1 := by omega
      have a1 : q * Y0 ≤ 18446744065119617025 := Lib.half_mul_le (by omega) (by omega)
      have a2 := hD.2 hc
      have o3 : IntKind.u64.wrap ((q : Int) * (Y0 : Int)) = ((q * Y0 : Nat) : Int) := by rw [Num.mulN, Num.wrapN _ (by omega)]
      have o4 : IntKind.u64.wrap (4294967296 * (r : Int)) = ((4294967296 * r : Nat) : Int) := by rw [← Num.wrapN (4294967296 * r) (by omega)]; rfl
      have o5 : IntKind.u64.wrap (((4294967296 * r : Nat) : Int) + (V1 : Int)) = ((4294967296 * r + V1 : Nat) : Int) := by rw [Num.addN, Num.wrapN _ (by omega)]
      obtain ⟨A, hA⟩ : ∃ A, A = q * Y0 := ⟨_, rfl⟩
      obtain ⟨B, hB⟩ : ∃ B, B = 4294967296 * r := ⟨_, rfl⟩
      rw [← hB] at o4 o5 a2
      obtain ⟨C, hC⟩ : ∃ C, C = B + V1 := ⟨_, rfl⟩
      rw [← hC] at o5 a2
      rw [← hA] at o3 a2
      have t1 : decide (4294967296 ≤ (q : Int)) = false := by simp; omega
      have t2 : decide ((C : Int) < (A : Int)) = false := by simp; omega
      clear hA hB hC hD i1 hF o2 a1 hc hg hq hqU
      subst hqe
      go_wp2
      go_loop [18, 16] (fun a b => ∃ q r : Nat, a = .int .u64 (q : Int) ∧ b = .int .u64 (r : Int) ∧ q * Y1 + r = U2 ∧ Q2 ≤ q ∧ r < 4294967296) (fun a _ => (intOf a).toNat)
      case atStart => exact ⟨_, _, rfl, rfl, unhide q13, unhide g2, by omega⟩
      case round =>
        obtain ⟨q, r, rfl, rfl, hq, hg, hr⟩ := hrel
        have hqU : q ≤ U2 := by
          have : q * 1 ≤ q * Y1 := Nat.mul_le_mul_left q (by omega)
          omega
        have hD := (unhide D2) q r hq
        have i1 : 1 ≤ q → (q - 1) * Y1 + (r + Y1) = U2 := fun h => by
          rw [Nat.sub_mul, Nat.one_mul]
          have : 1 * Y1 ≤ q * Y1 := Nat.mul_le_mul_right Y1 h
          omega
        have hF := (unhide F2) (q - 1) (r + Y1)
        have o2 : IntKind.u64.wrap ((r : Int) + (Y1 : Int)) = ((r + Y1 : Nat) : Int) := by rw [Num.addN, Num.wrapN _ (by omega)]
        by_cases hc : q ≤ Q2
        · -- the loop is left by its test
          have hqe : q = Q2 := by omega
          have a1 : q * Y0 ≤ 18446744065119617025 := Lib.half_mul_le (by omega) (by omega)
          have a2 := hD.2 hc
          have o3 : IntKind.u64.wrap ((q : Int) * (Y0 : Int)) = ((q * Y0 : Nat) : Int) := by rw [Num.mulN, Num.wrapN _ (by omega)]
          have o4 : IntKind.u64.wrap (4294967296 * (r : Int)) = ((4294967296 * r : Nat) : Int) := by rw [← Num.wrapN (4294967296 * r) (by omega)]; rfl
          have o5 : IntKind.u64.wrap (((4294967296 * r : Nat) : Int) + (V0 : Int)) = ((4294967296 * r + V0 : Nat) : Int) := by rw [Num.addN, Num.wrapN _ (by omega)]
          obtain ⟨A, hA⟩ : ∃ A, A = q * Y0 := ⟨_, rfl⟩
          obtain ⟨B, hB⟩ : ∃ B, B = 4294967296 * r := ⟨_, rfl⟩
          rw [← hB] at o4 o5 a2
          obtain ⟨C, hC⟩ : ∃ C, C = B + V0 := ⟨_, rfl⟩
          rw [← hC] at o5 a2
          rw [← hA] at o3 a2
          have t1 : decide (4294967296 ≤ (q : Int)) = false := by simp; omega
          have t2 : decide ((C : Int) < (A : Int)) = false := by simp; omega
          clear hA hB hC hD i1 hF o2 a1 hc hg hq hqU
          subst hqe
          go_wp2
          (go_ret2; exact ⟨ret2 (int_eq (by first | rfl | (have hh := unhide hNqh; rw [← Int.natCast_ediv, hh]; simp))) (int_eq (by first | rfl | simp)), rfl⟩)
        · have t3 : 1 ≤ q := by omega
          have hq' := i1 t3
          have hF' := fun h => hF hq' h
          have o1 : IntKind.u64.wrap ((q : Int) - 1) = ((q - 1 : Nat) : Int) := by
            rw [show (q : Int) - 1 = ((q - 1 : Nat) : Int) by omega, Num.wrapN _ (by omega)]
          have hgt : ¬ q * Y0 ≤ 4294967296 * r + V0 := fun h => hc (hD.1 h)
          have hcond : 4294967296 ≤ q ∨ q < 4294967296 := by omega
          obtain ⟨p, hp⟩ : ∃ p, p = q - 1 := ⟨_, rfl⟩
          obtain ⟨n, hn⟩ : ∃ n, n = r + Y1 := ⟨_, rfl⟩
          rw [← hp] at o1 hq' hF'
          rw [← hn] at o2 hq' hF'
          have hpg : Q2 ≤ p := by omega
          have hpq : p < q := by omega
          have hpg := hide hpg; have hq' := hide hq'; have hF' := hide hF'
          have hdone : p ≤ Q2 → p = Q2 := fun h => by have := unhide hpg; omega
          replace hdone := hide hdone
          clear hp hD i1 hF hq hg hc
          rcases hcond with hbig | hsmall
          · have t1 : decide (4294967296 ≤ (q : Int)) = true := by simp; omega
            clear hgt hn
            by_cases hfar : 4294967296 ≤ n
            · have t4 : decide (4294967296 ≤ (n : Int)) = true := by simp; omega
              have hpe : p = Q2 := unhide hdone (unhide hF' hfar)
              clear hdone hF' hpg hq'
              go_wp2
              clear o1
              subst hpe
              (go_ret2; exact ⟨ret2 (int_eq (by first | rfl | (have hh := unhide hNqh; rw [← Int.natCast_ediv, hh]; simp))) (int_eq (by first | rfl | simp)), rfl⟩)
            · have t4 : decide (4294967296 ≤ (n : Int)) = false := by simp; omega
              go_wp2
              go_round
              case rel => exact ⟨p, n, rfl, rfl, unhide hq', unhide hpg, by omega⟩
              case measure => simp [intOf]; omega
          · have a1 : q * Y0 ≤ 18446744065119617025 := Lib.half_mul_le (by omega) (by omega)
            have o3 : IntKind.u64.wrap ((q : Int) * (Y0 : Int)) = ((q * Y0 : Nat) : Int) := by rw [Num.mulN, Num.wrapN _ (by omega)]
            have o4 : IntKind.u64.wrap (4294967296 * (r : Int)) = ((4294967296 * r : Nat) : Int) := by rw [← Num.wrapN (4294967296 * r) (by omega)]; rfl
            have o5 : IntKind.u64.wrap (((4294967296 * r : Nat) : Int) + (V0 : Int)) = ((4294967296 * r + V0 : Nat) : Int) := by rw [Num.addN, Num.wrapN _ (by omega)]
            obtain ⟨A, hA⟩ : ∃ A, A = q * Y0 := ⟨_, rfl⟩
            obtain ⟨B, hB⟩ : ∃ B, B = 4294967296 * r := ⟨_, rfl⟩
            rw [← hB] at o4 o5 hgt
            obtain ⟨C, hC⟩ : ∃ C, C = B + V0 := ⟨_, rfl⟩
            rw [← hC] at o5 hgt
            rw [← hA] at o3 hgt
            have t1 : decide (4294967296 ≤ (q : Int)) = false := by simp; omega
            have t2 : decide (C < A) = true := by simp; omega
            have t5 : C < A := by omega
            clear hA hB hC a1 hgt hn
            by_cases hfar : 4294967296 ≤ n
            · have t4 : decide (4294967296 ≤ (n : Int)) = true := by simp; omega
              have hpe : p = Q2 := unhide hdone (unhide hF' hfar)
              clear hdone hF' hpg hq'
              go_wp2
              clear o1
              subst hpe
              (go_ret2; exact ⟨ret2 (int_eq (by first | rfl | (have hh := unhide hNqh; rw [← Int.natCast_ediv, hh]; simp))) (int_eq (by first | rfl | simp)), rfl⟩)
            · have t4 : decide (4294967296 ≤ (n : Int)) = false := by simp; omega
              go_wp2
              go_round
              case rel => exact ⟨p, n, rfl, rfl, unhide hq', unhide hpg, by omega⟩
              case measure => simp [intOf]; omega
    · have t3 : 1 ≤ q := by omega
      have hq' := i1 t3
      have hF' := fun h => hF hq' h
      have o1 : IntKind.u64.wrap ((q : Int) - 1) = ((q - 1 : Nat) : Int) := by
        rw [show (q : Int) - 1 = ((q - 1 : Nat) : Int) by omega, Num.wrapN _ (by omega)]
      have hgt : ¬ q * Y0 ≤ 4294967296 * r + V1 := fun h => hc (hD.1 h)
      have hcond : 4294967296 ≤ q ∨ q < 4294967296 := by omega
      obtain ⟨p, hp⟩ : ∃ p, p = q - 1 := ⟨_, rfl⟩
      obtain ⟨n, hn⟩ : ∃ n, n = r + Y1 := ⟨_, rfl⟩
      rw [← hp] at o1 hq' hF'
      rw [← hn] at o2 hq' hF'
      have hpg : Q1 ≤ p := by omega
      have hpq : p < q := by omega
      have hpg := hide hpg; have hq' := hide hq'; have hF' := hide hF'
      have hdone : p ≤ Q1 → p = Q1 := fun h => by have := unhide hpg; omega
      replace hdone := hide hdone
      clear hp hD i1 hF hq hg hc
      rcases hcond with hbig | hsmall
      · have t1 : decide (4294967296 ≤ (q : Int)) = true := by simp; omega
        clear hgt hn
        by_cases hfar : 4294967296 ≤ n
        · have t4 : decide (4294967296 ≤ (n : Int)) = true := by simp; omega
          have hpe : p = Q1 := unhide hdone (unhide hF' hfar)
          clear hdone hF' hpg hq'
          go_wp2
          clear o1
          subst hpe
          go_loop [18, 16] (fun a b => ∃ q r : Nat, a = .int .u64 (q : Int) ∧ b = .int .u64 (r : Int) ∧ q * Y1 + r = U2 ∧ Q2 ≤ q ∧ r < 4294967296) (fun a _ => (intOf a).toNat)
          case atStart => exact ⟨_, _, rfl, rfl, unhide q13, unhide g2, by omega⟩
          case round =>
            obtain ⟨q, r, rfl, rfl, hq, hg, hr⟩ := hrel
            have hqU : q ≤ U2 := by
              have : q * 1 ≤ q * Y1 := Nat.mul_le_mul_left q (by omega)
              omega
            have hD := (unhide D2) q r hq
            have i1 : 1 ≤ q → (q - 1) * Y1 + (r + Y1) = U2 := fun h => by
              rw [Nat.sub_mul, Nat.one_mul]
              have : 1 * Y1 ≤ q * Y1 := Nat.mul_le_mul_right Y1 h
              omega
            have hF := (unhide F2) (q - 1) (r + Y1)
            have o2 : IntKind.u64.wrap ((r : Int) + (Y1 : Int)) = ((r + Y1 : Nat) : Int) := by rw [Num.addN, Num.wrapN _ (by omega)]
            by_cases hc : q ≤ Q2
            · -- the loop is left by its test
              have hqe : q = Q2 := by omega
              have a1 : q * Y0 ≤ 18446744065119617025 := Lib.half_mul_le (by omega) (by omega)
              have a2 := hD.2 hc
              have o3 : IntKind.u64.wrap ((q : Int) * (Y0 : Int)) = ((q * Y0 : Nat) : Int) := by rw [Num.mulN, Num.wrapN _ (by omega)]
              have o4 : IntKind.u64.wrap (4294967296 * (r : Int)) = ((4294967296 * r : Nat) : Int) := by rw [← Num.wrapN (4294967296 * r) (by omega)]; rfl
              have o5 : IntKind.u64.wrap (((4294967296 * r : Nat) : Int) + (V0 : Int)) = ((4294967296 * r + V0 : Nat) : Int) := by rw [Num.addN, Num.wrapN _ (by omega)]
              obtain ⟨A, hA⟩ : ∃ A, A = q * Y0 := ⟨_, rfl⟩
              obtain ⟨B, hB⟩ : ∃ B, B = 4294967296 * r := ⟨_, rfl⟩
              rw [← hB] at o4 o5 a2
              obtain ⟨C, hC⟩ : ∃ C, C = B + V0 := ⟨_, rfl⟩
              rw [← hC] at o5 a2
              rw [← hA] at o3 a2
              have t1 : decide (4294967296 ≤ (q : Int)) = false := by simp; omega
              have t2 : decide ((C : Int) < (A : Int)) = false := by simp; omega
              clear hA hB hC hD i1 hF o2 a1 hc hg hq hqU
              subst hqe
              go_wp2
              (go_ret2; exact ⟨ret2 (int_eq (by first | rfl | (have hh := unhide hNqh; rw [← Int.natCast_ediv, hh]; simp))) (int_eq (by first | rfl | simp)), rfl⟩)
            · have t3 : 1 ≤ q := by omega
              have hq' := i1 t3
              have hF' := fun h => hF hq' h
              have o1 : IntKind.u64.wrap ((q : Int) - 1) = ((q - 1 : Nat) : Int) := by
                rw [show (q : Int) - 1 = ((q - 1 : Nat) : Int) by omega, Num.wrapN _ (by omega)]
              have hgt : ¬ q * Y0 ≤ 4294967296 * r + V0 := fun h => hc (hD.1 h)
              have hcond : 4294967296 ≤ q ∨ q < 4294967296 := by omega
              obtain ⟨p, hp⟩ : ∃ p, p = q - 1 := ⟨_, rfl⟩
              obtain ⟨n, hn⟩ : ∃ n, n = r + Y1 := ⟨_, rfl⟩
              rw [← hp] at o1 hq' hF'
              rw [← hn] at o2 hq' hF'
              have hpg : Q2 ≤ p := by omega
              have hpq : p < q := by omega
              have hpg := hide hpg; have hq' := hide hq'; have hF' := hide hF'
              have hdone : p ≤ Q2 → p = Q2 := fun h => by have := unhide hpg; omega
              replace hdone := hide hdone
              clear hp hD i1 hF hq hg hc
              rcases hcond with hbig | hsmall
              · have t1 : decide (4294967296 ≤ (q : Int)) = true := by simp; omega
                clear hgt hn
                by_cases hfar : 4294967296 ≤ n
                · have t4 : decide (4294967296 ≤ (n : Int)) = true := by simp; omega
                  have hpe : p = Q2 := unhide hdone (unhide hF' hfar)
                  clear hdone hF' hpg hq'
                  go_wp2
                  clear o1
                  subst hpe
                  (go_ret2; exact ⟨ret2 (int_eq (by first | rfl | (have hh := unhide hNqh; rw [← Int.natCast_ediv, hh]; simp))) (int_eq (by first | rfl | simp)), rfl⟩)
                · have t4 : decide (4294967296 ≤ (n : Int)) = false := by simp; omega
                  go_wp2
                  go_round
                  case rel => exact ⟨p, n, rfl, rfl, unhide hq', unhide hpg, by omega⟩
                  case measure => simp [intOf]; omega
              · have a1 : q * Y0 ≤ 18446744065119617025 := Lib.half_mul_le (by omega) (by omega)
                have o3 : IntKind.u64.wrap ((q : Int) * (Y0 : Int)) = ((q * Y0 : Nat) : Int) := by rw [Num.mulN, Num.wrapN _ (by omega)]
                have o4 : IntKind.u64.wrap (4294967296 * (r : Int)) = ((4294967296 * r : Nat) : Int) := by rw [← Num.wrapN (4294967296 * r) (by omega)]; rfl
                have o5 : IntKind.u64.wrap (((4294967296 * r : Nat) : Int) + (V0 : Int)) = ((4294967296 * r + V0 : Nat) : Int) := by rw [Num.addN, Num.wrapN _ (by omega)]
                obtain ⟨A, hA⟩ : ∃ A, A = q * Y0 := ⟨_, rfl⟩
                obtain ⟨B, hB⟩ : ∃ B, B = 4294967296 * r := ⟨_, rfl⟩
                rw [← hB] at o4 o5 hgt
                obtain ⟨C, hC⟩ : ∃ C, C = B + V0 := ⟨_, rfl⟩
                rw [← hC] at o5 hgt
                rw [← hA] at o3 hgt
                have t1 : decide (4294967296 ≤ (q : Int)) = false := by simp; omega
                have t2 : decide (C < A) = true := by simp; omega
                have t5 : C < A := by omega
                clear hA hB hC a1 hgt hn
                by_cases hfar : 4294967296 ≤ n
                · have t4 : decide (4294967296 ≤ (n : Int)) = true := by simp; omega
                  have hpe : p = Q2 := unhide hdone (unhide hF' hfar)
                  clear hdone hF' hpg hq'
                  go_wp2
                  clear o1
                  subst hpe
                  (go_ret2; exact ⟨ret2 (int_eq (by first | rfl | (have hh := unhide hNqh; rw [← Int.natCast_ediv, hh]; simp))) (int_eq (by first | rfl | simp)), rfl⟩)
                · have t4 : decide (4294967296 ≤ (n : Int)) = false := by simp; omega
                  go_wp2
                  go_round
                  case rel => exact ⟨p, n, rfl, rfl, unhide hq', unhide hpg, by omega⟩
                  case measure => simp [intOf]; omega
        · have t4 : decide (4294967296 ≤ (n : Int)) = false := by simp; omega
          go_wp2
          go_round
          case rel => exact ⟨p, n, rfl, rfl, unhide hq', unhide hpg, by omega⟩
          case measure => simp [intOf]; omega
      · have a1 : q * Y0 ≤ 18446744065119617025 := Lib.half_mul_le (by omega) (by omega)
        have o3 : IntKind.u64.wrap ((q : Int) * (Y0 : Int)) = ((q * Y0 : Nat) : Int) := by rw [Num.mulN, Num.wrapN _ (by omega)]
        have o4 : IntKind.u64.wrap (4294967296 * (r : Int)) = ((4294967296 * r : Nat) : Int) := by rw [← Num.wrapN (4294967296 * r) (by omega)]; rfl
        have o5 : IntKind.u64.wrap (((4294967296 * r : Nat) : Int) + (V1 : Int)) = ((4294967296 * r + V1 : Nat) : Int) := by rw [Num.addN, Num.wrapN _ (by omega)]
        obtain ⟨A, hA⟩ : ∃ A, A = q * Y0 := ⟨_, rfl⟩
        obtain ⟨B, hB⟩ : ∃ B, B = 4294967296 * r := ⟨_, rfl⟩
        rw [← hB] at o4 o5 hgt
        obtain ⟨C, hC⟩ : ∃ C, C = B + V1 := ⟨_, rfl⟩
        rw [← hC] at o5 hgt
        rw [← hA] at o3 hgt
        have t1 : decide (4294967296 ≤ (q : Int)) = false := by simp; omega
        have t2 : decide (C < A) = true := by simp; omega
        have t5 : C < A := by omega
        clear hA hB hC a1 hgt hn
        by_cases hfar : 4294967296 ≤ n
        · have t4 : decide (4294967296 ≤ (n : Int)) = true := by simp; omega
          have hpe : p = Q1 := unhide hdone (unhide hF' hfar)
          clear hdone hF' hpg hq'
          go_wp2
          clear o1
          subst hpe
          go_loop [18, 16] (fun a b => ∃ q r : Nat, a = .int .u64 (q : Int) ∧ b = .int .u64 (r : Int) ∧ q * Y1 + r = U2 ∧ Q2 ≤ q ∧ r < 4294967296) (fun a _ => (intOf a).toNat)
          case atStart => exact ⟨_, _, rfl, rfl, unhide q13, unhide g2, by omega⟩
          case round =>
            obtain ⟨q, r, rfl, rfl, hq, hg, hr⟩ := hrel
            have hqU : q ≤ U2 := by
              have : q * 1 ≤ q * Y1 := Nat.mul_le_mul_left q (by omega)
              omega
            have hD := (unhide D2) q r hq
            have i1 : 1 ≤ q → (q - 1) * Y1 + (r + Y1) = U2 := fun h => by
              rw [Nat.sub_mul, Nat.one_mul]
              have : 1 * Y1 ≤ q * Y1 := Nat.mul_le_mul_right Y1 h
              omega
            have hF := (unhide F2) (q - 1) (r + Y1)
            have o2 : IntKind.u64.wrap ((r : Int) + (Y1 : Int)) = ((r + Y1 : Nat) : Int) := by rw [Num.addN, Num.wrapN _ (by omega)]
            by_cases hc : q ≤ Q2
            · -- the loop is left by its test
              have hqe : q = Q2 := by omega
              have a1 : q * Y0 ≤ 18446744065119617025 := Lib.half_mul_le (by omega) (by omega)
              have a2 := hD.2 hc
              have o3 : IntKind.u64.wrap ((q : Int) * (Y0 : Int)) = ((q * Y0 : Nat) : Int) := by rw [Num.mulN, Num.wrapN _ (by omega)]
              have o4 : IntKind.u64.wrap (4294967296 * (r : Int)) = ((4294967296 * r : Nat) : Int) := by rw [← Num.wrapN (4294967296 * r) (by omega)]; rfl
              have o5 : IntKind.u64.wrap (((4294967296 * r : Nat) : Int) + (V0 : Int)) = ((4294967296 * r + V0 : Nat) : Int) := by rw [Num.addN, Num.wrapN _ (by omega)]
              obtain ⟨A, hA⟩ : ∃ A, A = q * Y0 := ⟨_, rfl⟩
              obtain ⟨B, hB⟩ : ∃ B, B = 4294967296 * r := ⟨_, rfl⟩
              rw [← hB] at o4 o5 a2
              obtain ⟨C, hC⟩ : ∃ C, C = B + V0 := ⟨_, rfl⟩
              rw [← hC] at o5 a2
              rw [← hA] at o3 a2
              have t1 : decide (4294967296 ≤ (q : Int)) = false := by simp; omega
              have t2 : decide ((C : Int) < (A : Int)) = false := by simp; omega
              clear hA hB hC hD i1 hF o2 a1 hc hg hq hqU
              subst hqe
              go_wp2
              (go_ret2; exact ⟨ret2 (int_eq (by first | rfl | (have hh := unhide hNqh; rw [← Int.natCast_ediv, hh]; simp))) (int_eq (by first | rfl | simp)), rfl⟩)
            · have t3 : 1 ≤ q := by omega
              have hq' := i1 t3
              have hF' := fun h => hF hq' h
              have o1 : IntKind.u64.wrap ((q : Int) - 1) = ((q - 1 : Nat) : Int) := by
                rw [show (q : Int) - 1 = ((q - 1 : Nat) : Int) by omega, Num.wrapN _ (by omega)]
              have hgt : ¬ q * Y0 ≤ 4294967296 * r + V0 := fun h => hc (hD.1 h)
              have hcond : 4294967296 ≤ q ∨ q < 4294967296 := by omega
              obtain ⟨p, hp⟩ : ∃ p, p = q - 1 := ⟨_, rfl⟩
              obtain ⟨n, hn⟩ : ∃ n, n = r + Y1 := ⟨_, rfl⟩
              rw [← hp] at o1 hq' hF'
              rw [← hn] at o2 hq' hF'
              have hpg : Q2 ≤ p := by omega
              have hpq : p < q := by omega
              have hpg := hide hpg; have hq' := hide hq'; have hF' := hide hF'
              have hdone : p ≤ Q2 → p = Q2 := fun h => by have := unhide hpg; omega
              replace hdone := hide hdone
              clear hp hD i1 hF hq hg hc
              rcases hcond with hbig | hsmall
              · have t1 : decide (4294967296 ≤ (q : Int)) = true := by simp; omega
                clear hgt hn
                by_cases hfar : 4294967296 ≤ n
                · have t4 : decide (4294967296 ≤ (n : Int)) = true := by simp; omega
                  have hpe : p = Q2 := unhide hdone (unhide hF' hfar)
                  clear hdone hF' hpg hq'
                  go_wp2
                  clear o1
                  subst hpe
                  (go_ret2; exact ⟨ret2 (int_eq (by first | rfl | (have hh := unhide hNqh; rw [← Int.natCast_ediv, hh]; simp))) (int_eq (by first | rfl | simp)), rfl⟩)
                · have t4 : decide (4294967296 ≤ (n : Int)) = false := by simp; omega
                  go_wp2
                  go_round
                  case rel => exact ⟨p, n, rfl, rfl, unhide hq', unhide hpg, by omega⟩
                  case measure => simp [intOf]; omega
              · have a1 : q * Y0 ≤ 18446744065119617025 := Lib.half_mul_le (by omega) (by omega)
                have o3 : IntKind.u64.wrap ((q : Int) * (Y0 : Int)) = ((q * Y0 : Nat) : Int) := by rw [Num.mulN, Num.wrapN _ (by omega)]
                have o4 : IntKind.u64.wrap (4294967296 * (r : Int)) = ((4294967296 * r : Nat) : Int) := by rw [← Num.wrapN (4294967296 * r) (by omega)]; rfl
                have o5 : IntKind.u64.wrap (((4294967296 * r : Nat) : Int) + (V0 : Int)) = ((4294967296 * r + V0 : Nat) : Int) := by rw [Num.addN, Num.wrapN _ (by omega)]
                obtain ⟨A, hA⟩ : ∃ A, A = q * Y0 := ⟨_, rfl⟩
                obtain ⟨B, hB⟩ : ∃ B, B = 4294967296 * r := ⟨_, rfl⟩
                rw [← hB] at o4 o5 hgt
                obtain ⟨C, hC⟩ : ∃ C, C = B + V0 := ⟨_, rfl⟩
                rw [← hC] at o5 hgt
                rw [← hA] at o3 hgt
                have t1 : decide (4294967296 ≤ (q : Int)) = false := by simp; omega
                have t2 : decide (C < A) = true := by simp; omega
                have t5 : C < A := by omega
                clear hA hB hC a1 hgt hn
                by_cases hfar : 4294967296 ≤ n
                · have t4 : decide (4294967296 ≤ (n : Int)) = true := by simp; omega
                  have hpe : p = Q2 := unhide hdone (unhide hF' hfar)
                  clear hdone hF' hpg hq'
                  go_wp2
                  clear o1
                  subst hpe
                  (go_ret2; exact ⟨ret2 (int_eq (by first | rfl | (have hh := unhide hNqh; rw [← Int.natCast_ediv, hh]; simp))) (int_eq (by first | rfl | simp)), rfl⟩)
                · have t4 : decide (4294967296 ≤ (n : Int)) = false := by simp; omega
                  go_wp2
                  go_round
                  case rel => exact ⟨p, n, rfl, rfl, unhide hq', unhide hpg, by omega⟩
                  case measure => simp [intOf]; omega
        · have t4 : decide (4294967296 ≤ (n : Int)) = false := by simp; omega
          go_wp2
          go_round
          case rel => exact ⟨p, n, rfl, rfl, unhide hq', unhide hpg, by omega⟩
          case measure => simp [intOf]; omega

/-- a division of two words by one, whatever the high word -/
theorem div64_any (hi lo y : Nat) (w : World) (hy : hi < y) (hy2 : y < 18446744073709551616) (hlo : lo < 18446744073709551616) :
    Calls Try.prog 52 #[.int .u64 hi, .int .u64 lo, .int .u64 y] w fun e w' => e = .returned (.tuple #[.int .u64 (((hi * 18446744073709551616 + lo) / y : Nat) : Int), .int .u64 (((hi * 18446744073709551616 + lo) % y : Nat) : Int)]) ∧ Below w.heap.size w w' := by
  by_cases h : hi = 0
  · subst h
    simp only [Nat.zero_mul, Nat.zero_add]
    refine (div64_low lo y w (by omega) hy2 hlo).mono ?_
    rintro e w' ⟨a, n, rfl⟩
    exact ⟨a, below_drewN _ _⟩
  · exact (div64_high hi lo y w (by omega) hy hy2 hlo).mono fun e w' ⟨a, b⟩ => ⟨a, b ▸ Below.refl _ _⟩
end Go.Proofs.Ytfegkaflemcanaa
