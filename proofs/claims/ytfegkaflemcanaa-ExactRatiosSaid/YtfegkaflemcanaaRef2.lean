/- The reference's division of two words by one, bit by bit. -/
import Derived.Test.YtfegkaflemcanaaRef1
import Derived.Test.YtfegkaflemcanaaDivB
namespace Go.Proofs.Ytfegkaflemcanaa
open Go.RowKit

theorem half_lt (x : Nat) (h : x < 340282366920938463463374607431768211456) : x / 18446744073709551616 < 18446744073709551616 := by omega
theorem two_lt (r m : Nat) (h : r < m) (hm : m ≤ 9223372036854775808) : 2 * r + 1 < 18446744073709551616 := by omega
set_option maxRecDepth 100000 in
set_option maxHeartbeats 4000000 in
theorem divide_any (N m : Nat) (a b c : Int) (w : World) (ha : a = hiW N) (hb : b = loW N) (hc : c = m) (hm : 1 ≤ m) (hm2 : m ≤ 9223372036854775808) (hN : N < 340282366920938463463374607431768211456) :
    Calls Try.prog 39 #[.agg #[.int .u64 a, .int .u64 b], .int .u64 c] w fun e w' => e = .returned (.tuple #[.agg #[.int .u64 (hiW (N / m)), .int .u64 (loW (N / m))], .int .u64 ((N % m : Nat) : Int)]) ∧ Below w.heap.size w w' := by
  subst ha; subst hb; subst hc
  replace hN := hide hN
  go_enter Try.func39, Try.ntmps39
  go_wp2
  go_loopw [7, 8, 9, 10] (fun p q _ _ wr => ∃ k X r : Nat, k ≤ 128 ∧ X = N / 2 ^ k / m * 2 ^ k ∧ r = N / 2 ^ k % m ∧ p = .int .u64 (r : Int) ∧ q = .int .i64 ((k : Int) - 1) ∧
    wr = ((w.alloc (Obj.cells #[.int .u64 (hiW N), .int .u64 (loW N)] 54)).alloc (Obj.cells #[.int .u64 0, .int .u64 0] 54)).alloc (Obj.cells #[.int .u64 (hiW X), .int .u64 (loW X)] 54)) (fun _ q _ _ _ => (intOf q + 1).toNat)
  case atStart =>
    have h0 : N / 2 ^ 128 = 0 := Nat.div_eq_of_lt (unhide hN)
    exact ⟨128, 0, 0, by omega, by rw [h0]; simp, by rw [h0]; simp, rfl, rfl, rfl⟩
  case round =>
    obtain ⟨k, X, r, hk, hX, hr, rfl, rfl, rfl⟩ := hrel
    by_cases hk0 : k = 0
    · subst hk0
      have hX := hide hX
      have hr := hide hr
      go_wp2
      have hX := unhide hX
      have hr := unhide hr
      simp only [Nat.pow_zero, Nat.div_one, Nat.mul_one] at hX hr
      subst hX
      subst hr
      refine bodyPost_ret (v := .tuple #[.agg #[.int .u64 (hiW (N / m)), .int .u64 (loW (N / m))], .int .u64 ((N % m : Nat) : Int)]) (by simp [results, Try.results39, go_sem]) rfl ⟨rfl, ?_⟩
      first | exact (((Below.refl _ _).alloc (Nat.le_refl _) _).alloc (by simp) _).alloc (by simp; omega) _ | exact ((((Below.refl _ _).alloc (Nat.le_refl _) _).alloc (by simp) _).alloc (by simp; omega) _).setCell (by simp) _ | exact (((((Below.refl _ _).alloc (Nat.le_refl _) _).alloc (by simp) _).alloc (by simp; omega) _).setCell (by simp) _).setCell (by simp) _
    · obtain ⟨j, rfl⟩ : ∃ j, k = j + 1 := ⟨k - 1, by omega⟩
      have hrm : r < m := by rw [hr]; exact Nat.mod_lt _ (by omega)
      obtain ⟨st1, st2⟩ := Db.step N j m hm
      rw [← hr, ← hX] at st1 st2
      obtain ⟨b, hb⟩ : ∃ b, b = N / 2 ^ j % 2 := ⟨_, rfl⟩
      have hb2 : b < 2 := by omega
      rw [← hb] at st1 st2
      have s0 : ((j + 1 : Nat) : Int) - 1 = (j : Int) := by omega
      rw [s0]
      have hXlt : X < 340282366920938463463374607431768211456 := by
        have h1 : N / 2 ^ (j + 1) / m * 2 ^ (j + 1) ≤ N / 2 ^ (j + 1) * 2 ^ (j + 1) := Nat.mul_le_mul_right _ (Nat.div_le_self _ _)
        have h2 : N / 2 ^ (j + 1) * 2 ^ (j + 1) ≤ N := Nat.div_mul_le_self _ _
        have h3 := unhide hN
        rw [hX]
        exact Nat.lt_of_le_of_lt (Nat.le_trans h1 h2) h3
      have hN' := unhide hN
      by_cases hj : 64 ≤ j
      · have hP : 2 ^ (j % 64) = 2 ^ (j - 64) := by rw [show j % 64 = j - 64 by omega]
        have f1 : (j : Int) / 64 = 1 := by omega
        have hbit := Db.bit_hi N j hj
        have hand := Db.and_pow (N / 18446744073709551616) (j - 64) (half_lt N hN') (by omega)
        rw [hbit, ← hb, ← hiW_def] at hand
        obtain ⟨w1, w2⟩ := Db.hi_hi (N / 2 ^ (j + 1) / m) j hj
        obtain ⟨w3, w4⟩ := Db.set_hi (N / 2 ^ (j + 1) / m) j hj
        rw [← hX] at w1 w2 w3 w4
        have hXle : X < 340282366920938463463374607431768211456 := hXlt
        have hor := Db.or_pow (N / 2 ^ (j + 1) / m) (j - 64) (by rw [← w1]; exact half_lt X hXlt) (by omega)
        rw [← w1, ← hiW_def, w1, ← w3, ← hiW_def] at hor
        have hsame : loW (X + 2 ^ j) = loW X := by rw [loW_def, loW_def, w2, w4]
        obtain ⟨P, hPd⟩ : ∃ P, P = 2 ^ (j - 64) := ⟨_, rfl⟩
        have hP64 : P < 18446744073709551616 := by rw [hPd]; exact Nat.pow_lt_pow_right (by omega) (show j - 64 < 64 by omega)
        have f3 : IntKind.u64.wrap ((2 : Int) ^ (j % 64)) = (P : Int) := by
          have : ((2 : Int) ^ (j % 64)) = ((2 ^ (j % 64) : Nat) : Int) := by simp
          rw [this, hP, ← hPd, Num.wrapN _ hP64]
        rw [← hPd] at hand hor
        have f4 : IntKind.u64.wrap (2 * (r : Int)) = ((2 * r : Nat) : Int) := by rw [← Num.wrapN (2 * r) (by omega)]; simp
        have hR2b : 2 * r + 1 < 18446744073709551616 := two_lt r m hrm hm2
        obtain ⟨R2, hR2⟩ : ∃ R2, R2 = 2 * r := ⟨_, rfl⟩
        rw [← hR2] at hR2b
        rw [← hR2] at f4 st1 st2
        obtain ⟨X2, hX2⟩ : ∃ X2, X2 = X + 2 ^ j := ⟨_, rfl⟩
        rw [← hX2] at hor hsame st1
        have hPpos : P ≠ 0 := by rw [hPd]; exact Nat.ne_of_gt (Nat.two_pow_pos _)
        clear hP hPd hX2 w1 w2 w3 w4 hbit hXle
        obtain rfl | rfl : b = 0 ∨ b = 1 := by omega
        · have f5 : bits .and .u64 (hiW N) (P : Int) = 0 := by rw [hand]; simp
          obtain ⟨R3, hR3⟩ : ∃ R3, R3 = R2 := ⟨_, rfl⟩
          simp only [Nat.add_zero] at st1 st2
          rw [← hR3] at st1 st2 f4
          have hR3b : R3 < 18446744073709551616 := by rw [hR3]; omega
          clear hand hR3
          by_cases hge : m ≤ R3
          · obtain ⟨g1, g2⟩ := st1 hge
            have f7 : IntKind.u64.wrap ((R3 : Int) - (m : Int)) = ((R3 - m : Nat) : Int) := by rw [← Num.wrapN (R3 - m) (Nat.lt_of_le_of_lt (Nat.sub_le _ _) hR3b), Int.ofNat_sub hge]
            obtain ⟨R4, hR4⟩ : ∃ R4, R4 = R3 - m := ⟨_, rfl⟩
            rw [← hR4] at f7 g1
            replace g1 := hide g1; replace g2 := hide g2; replace hsame := hide hsame; replace hX := hide hX; replace hr := hide hr; replace hb := hide hb
            clear st1 st2 hR4 hR2
            go_wp2
            go_roundw
            case rel => exact ⟨j, X2, R4, by omega, (unhide g2).symm, (unhide g1).symm, rfl, rfl, by rw [unhide hsame]⟩
            case measure => simp [intOf] <;> omega
          · obtain ⟨g1, g2⟩ := st2 (by omega)
            have hlt : R3 < m := by omega
            replace g1 := hide g1; replace g2 := hide g2; replace hX := hide hX; replace hr := hide hr; replace hb := hide hb
            clear st1 st2 hge hR2
            go_wp2
            go_roundw
            case rel => exact ⟨j, X, R3, by omega, (unhide g2).symm, (unhide g1).symm, rfl, rfl, rfl⟩
            case measure => simp [intOf] <;> omega
        · have f5 : bits .and .u64 (hiW N) (P : Int) = (P : Int) := by rw [hand]; simp
          have f6 : IntKind.u64.wrap ((R2 : Int) + 1) = ((R2 + 1 : Nat) : Int) := by rw [← Num.wrapN (R2 + 1) hR2b]; simp
          have t1 : (((P : Nat) : Int) != 0) = true := by have := hPpos; simp; omega
          obtain ⟨R3, hR3⟩ : ∃ R3, R3 = R2 + 1 := ⟨_, rfl⟩
          rw [← hR3] at f6 st1 st2
          have hR3b : R3 < 18446744073709551616 := by rw [hR3]; omega
          clear hand hR3
          by_cases hge : m ≤ R3
          · obtain ⟨g1, g2⟩ := st1 hge
            have f7 : IntKind.u64.wrap ((R3 : Int) - (m : Int)) = ((R3 - m : Nat) : Int) := by rw [← Num.wrapN (R3 - m) (Nat.lt_of_le_of_lt (Nat.sub_le _ _) hR3b), Int.ofNat_sub hge]
            obtain ⟨R4, hR4⟩ : ∃ R4, R4 = R3 - m := ⟨_, rfl⟩
            rw [← hR4] at f7 g1
            replace g1 := hide g1; replace g2 := hide g2; replace hsame := hide hsame; replace hX := hide hX; replace hr := hide hr; replace hb := hide hb
            clear st1 st2 hR4 hR2
            go_wp2
            go_roundw
            case rel => exact ⟨j, X2, R4, by omega, (unhide g2).symm, (unhide g1).symm, rfl, rfl, by rw [unhide hsame]⟩
            case measure => simp [intOf] <;> omega
          · obtain ⟨g1, g2⟩ := st2 (by omega)
            have hlt : R3 < m := by omega
            replace g1 := hide g1; replace g2 := hide g2; replace hX := hide hX; replace hr := hide hr; replace hb := hide hb
            clear st1 st2 hge hR2
            go_wp2
            go_roundw
            case rel => exact ⟨j, X, R3, by omega, (unhide g2).symm, (unhide g1).symm, rfl, rfl, rfl⟩
            case measure => simp [intOf] <;> omega
      · have hj : j < 64 := by omega
        have hP : 2 ^ (j % 64) = 2 ^ j := by rw [show j % 64 = j by omega]
        have f1 : (j : Int) / 64 = 0 := by omega
        have hbit := Db.bit_lo N j hj
        have hand := Db.and_pow (N % 18446744073709551616) j (Nat.mod_lt _ (by omega)) (by omega)
        rw [hbit, ← hb, ← loW_def] at hand
        obtain ⟨w1, w2⟩ := Db.lo_lo (N / 2 ^ (j + 1) / m) j hj
        obtain ⟨w3, w4⟩ := Db.set_lo (N / 2 ^ (j + 1) / m) j hj
        rw [← hX] at w1 w2 w3 w4
        have hor := Db.or_pow (N / 2 ^ (j + 1) / m % 2 ^ (63 - j)) j (by rw [← w1]; exact Nat.mod_lt _ (by omega)) (by omega)
        rw [← w1, ← loW_def, w1, ← w3, ← loW_def] at hor
        have hsame : hiW (X + 2 ^ j) = hiW X := by rw [hiW_def, hiW_def, w2, w4]
        obtain ⟨P, hPd⟩ : ∃ P, P = 2 ^ j := ⟨_, rfl⟩
        have hP64 : P < 18446744073709551616 := by rw [hPd]; exact Nat.pow_lt_pow_right (by omega) (show j < 64 by omega)
        have f3 : IntKind.u64.wrap ((2 : Int) ^ (j % 64)) = (P : Int) := by
          have : ((2 : Int) ^ (j % 64)) = ((2 ^ (j % 64) : Nat) : Int) := by simp
          rw [this, hP, ← hPd, Num.wrapN _ hP64]
        rw [← hPd] at hand
        have hor : bits .or .u64 (loW X) (P : Int) = loW (X + 2 ^ j) := by rw [hPd]; exact hor
        have f4 : IntKind.u64.wrap (2 * (r : Int)) = ((2 * r : Nat) : Int) := by rw [← Num.wrapN (2 * r) (by omega)]; simp
        have hR2b : 2 * r + 1 < 18446744073709551616 := two_lt r m hrm hm2
        obtain ⟨R2, hR2⟩ : ∃ R2, R2 = 2 * r := ⟨_, rfl⟩
        rw [← hR2] at hR2b
        rw [← hR2] at f4 st1 st2
        obtain ⟨X2, hX2⟩ : ∃ X2, X2 = X + 2 ^ j := ⟨_, rfl⟩
        rw [← hX2] at hor hsame st1
        have hPpos : P ≠ 0 := by rw [hPd]; exact Nat.ne_of_gt (Nat.two_pow_pos _)
        clear hP hPd hX2 w1 w2 w3 w4 hbit
        obtain rfl | rfl : b = 0 ∨ b = 1 := by omega
        · have f5 : bits .and .u64 (loW N) (P : Int) = 0 := by rw [hand]; simp
          obtain ⟨R3, hR3⟩ : ∃ R3, R3 = R2 := ⟨_, rfl⟩
          simp only [Nat.add_zero] at st1 st2
          rw [← hR3] at st1 st2 f4
          have hR3b : R3 < 18446744073709551616 := by rw [hR3]; omega
          clear hand hR3
          by_cases hge : m ≤ R3
          · obtain ⟨g1, g2⟩ := st1 hge
            have f7 : IntKind.u64.wrap ((R3 : Int) - (m : Int)) = ((R3 - m : Nat) : Int) := by rw [← Num.wrapN (R3 - m) (Nat.lt_of_le_of_lt (Nat.sub_le _ _) hR3b), Int.ofNat_sub hge]
            obtain ⟨R4, hR4⟩ : ∃ R4, R4 = R3 - m := ⟨_, rfl⟩
            rw [← hR4] at f7 g1
            replace g1 := hide g1; replace g2 := hide g2; replace hsame := hide hsame; replace hX := hide hX; replace hr := hide hr; replace hb := hide hb
            clear st1 st2 hR4 hR2
            go_wp2
            go_roundw
            case rel => exact ⟨j, X2, R4, by omega, (unhide g2).symm, (unhide g1).symm, rfl, rfl, by rw [unhide hsame]⟩
            case measure => simp [intOf] <;> omega
          · obtain ⟨g1, g2⟩ := st2 (by omega)
            have hlt : R3 < m := by omega
            replace g1 := hide g1; replace g2 := hide g2; replace hX := hide hX; replace hr := hide hr; replace hb := hide hb
            clear st1 st2 hge hR2
            go_wp2
            go_roundw
            case rel => exact ⟨j, X, R3, by omega, (unhide g2).symm, (unhide g1).symm, rfl, rfl, rfl⟩
            case measure => simp [intOf] <;> omega
        · have f5 : bits .and .u64 (loW N) (P : Int) = (P : Int) := by rw [hand]; simp
          have f6 : IntKind.u64.wrap ((R2 : Int) + 1) = ((R2 + 1 : Nat) : Int) := by rw [← Num.wrapN (R2 + 1) hR2b]; simp
          have t1 : (((P : Nat) : Int) != 0) = true := by have := hPpos; simp; omega
          obtain ⟨R3, hR3⟩ : ∃ R3, R3 = R2 + 1 := ⟨_, rfl⟩
          rw [← hR3] at f6 st1 st2
          have hR3b : R3 < 18446744073709551616 := by rw [hR3]; omega
          clear hand hR3
          by_cases hge : m ≤ R3
          · obtain ⟨g1, g2⟩ := st1 hge
            have f7 : IntKind.u64.wrap ((R3 : Int) - (m : Int)) = ((R3 - m : Nat) : Int) := by rw [← Num.wrapN (R3 - m) (Nat.lt_of_le_of_lt (Nat.sub_le _ _) hR3b), Int.ofNat_sub hge]
            obtain ⟨R4, hR4⟩ : ∃ R4, R4 = R3 - m := ⟨_, rfl⟩
            rw [← hR4] at f7 g1
            replace g1 := hide g1; replace g2 := hide g2; replace hsame := hide hsame; replace hX := hide hX; replace hr := hide hr; replace hb := hide hb
            clear st1 st2 hR4 hR2
            go_wp2
            go_roundw
            case rel => exact ⟨j, X2, R4, by omega, (unhide g2).symm, (unhide g1).symm, rfl, rfl, by rw [unhide hsame]⟩
            case measure => simp [intOf] <;> omega
          · obtain ⟨g1, g2⟩ := st2 (by omega)
            have hlt : R3 < m := by omega
            replace g1 := hide g1; replace g2 := hide g2; replace hX := hide hX; replace hr := hide hr; replace hb := hide hb
            clear st1 st2 hge hR2
            go_wp2
            go_roundw
            case rel => exact ⟨j, X, R3, by omega, (unhide g2).symm, (unhide g1).symm, rfl, rfl, rfl⟩
            case measure => simp [intOf] <;> omega
end Go.Proofs.Ytfegkaflemcanaa
