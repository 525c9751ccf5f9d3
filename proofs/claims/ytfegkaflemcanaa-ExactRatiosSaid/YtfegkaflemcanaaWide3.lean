/- Greatest common divisors, the program's two and the reference's. -/
import Derived.Test.YtfegkaflemcanaaWide2
namespace Go.Proofs.Ytfegkaflemcanaa
open Go.RowKit

theorem gcd_step (x y : Nat) : Nat.gcd y (x % y) = Nat.gcd x y := by rw [Nat.gcd_comm x y, Nat.gcd_rec y x, Nat.gcd_comm]
theorem gcd_step_int (x y : Int) : Nat.gcd y.natAbs (x.tmod y).natAbs = Nat.gcd x.natAbs y.natAbs := by
  rw [Int.natAbs_tmod]; exact gcd_step _ _

set_option maxHeartbeats 1000000 in
theorem gcd_u64 (a b : Nat) (w : World) :
    Calls Try.prog 46 #[.int .u64 a, .int .u64 b] w fun e w' => e = .returned (.int .u64 ((Nat.gcd a b : Nat) : Int)) ∧ ∃ n, w' = w.drewN n := by
  go_enter Try.func46, Try.ntmps46
  go_wp2
  go_loopw [0, 1] (fun p q wr => ∃ x y n : Nat, p = .int .u64 (x : Int) ∧ q = .int .u64 (y : Int) ∧ Nat.gcd x y = Nat.gcd a b ∧ wr = w.drewN n) (fun _ q _ => (intOf q).toNat)
  case atStart => exact ⟨a, b, 0, rfl, rfl, rfl, rfl⟩
  case round =>
    obtain ⟨x, y, n, rfl, rfl, hg, rfl⟩ := hrel
    by_cases hy : y = 0
    · subst hy
      have hg := hide hg
      go_wp2
      go_ret
      exact ⟨ret1 (int_eq (by rw [← unhide hg]; simp)), n, rfl⟩
    · have z1 : ¬ ((y : Nat) : Int) = 0 := by omega
      have z2 : ¬ (y : Nat) = 0 := by omega
      have t1 : (((y : Nat) : Int) != 0) = true := by simpa using hy
      have q2 : (x : Int).tmod (y : Int) = ((x % y : Nat) : Int) := by
        rw [Int.tmod_eq_emod_of_nonneg (by omega), ← Int.natCast_emod]
      have hg2 : Nat.gcd y (x % y) = Nat.gcd a b := (gcd_step x y).trans hg
      have hlt : x % y < y := Nat.mod_lt _ (by omega)
      obtain ⟨z, hz⟩ : ∃ z, z = x % y := ⟨_, rfl⟩
      rw [← hz] at hg2 q2 hlt
      replace hg2 := hide hg2
      clear hg hz
      have q3 : (x : Int) % (y : Int) = (z : Int) := by rw [← q2, Int.tmod_eq_emod_of_nonneg (by omega)]
      go_wp2
      go_quiet (fail)
      go_wp2
      go_roundw
      case rel => exact ⟨y, z, n + nq, rfl, rfl, unhide hg2, by simp only [World.drewN_drewN]⟩
      case measure => simp [intOf]; omega

set_option maxHeartbeats 1000000 in
theorem rgcd_any (a b : Nat) (w : World) :
    Calls Try.prog 48 #[.int .u64 a, .int .u64 b] w fun e w' => e = .returned (.int .u64 ((Nat.gcd a b : Nat) : Int)) ∧ ∃ n, w' = w.drewN n := by
  go_enter Try.func48, Try.ntmps48
  go_wp2
  go_loopw [0, 1] (fun p q wr => ∃ x y n : Nat, p = .int .u64 (x : Int) ∧ q = .int .u64 (y : Int) ∧ Nat.gcd x y = Nat.gcd a b ∧ wr = w.drewN n) (fun _ q _ => (intOf q).toNat)
  case atStart => exact ⟨a, b, 0, rfl, rfl, rfl, rfl⟩
  case round =>
    obtain ⟨x, y, n, rfl, rfl, hg, rfl⟩ := hrel
    by_cases hy : y = 0
    · subst hy
      have hg := hide hg
      go_wp2
      go_ret
      exact ⟨ret1 (int_eq (by rw [← unhide hg]; simp)), n, rfl⟩
    · have z1 : ¬ ((y : Nat) : Int) = 0 := by omega
      have z2 : ¬ (y : Nat) = 0 := by omega
      have t1 : (((y : Nat) : Int) != 0) = true := by simpa using hy
      have q2 : (x : Int).tmod (y : Int) = ((x % y : Nat) : Int) := by
        rw [Int.tmod_eq_emod_of_nonneg (by omega), ← Int.natCast_emod]
      have hg2 : Nat.gcd y (x % y) = Nat.gcd a b := (gcd_step x y).trans hg
      have hlt : x % y < y := Nat.mod_lt _ (by omega)
      obtain ⟨z, hz⟩ : ∃ z, z = x % y := ⟨_, rfl⟩
      rw [← hz] at hg2 q2 hlt
      replace hg2 := hide hg2
      clear hg hz
      have q3 : (x : Int) % (y : Int) = (z : Int) := by rw [← q2, Int.tmod_eq_emod_of_nonneg (by omega)]
      go_wp2
      go_quiet (fail)
      go_wp2
      go_roundw
      case rel => exact ⟨y, z, n + nq, rfl, rfl, unhide hg2, by simp only [World.drewN_drewN]⟩
      case measure => simp [intOf]; omega

set_option maxHeartbeats 1000000 in
theorem gcd_int (a b : Int) (w : World) :
    Calls Try.prog 44 #[.int .i64 a, .int .i64 b] w fun e w' => ∃ g : Int, g.natAbs = Nat.gcd a.natAbs b.natAbs ∧ e = .returned (.int .i64 g) ∧ ∃ n, w' = w.drewN n := by
  go_enter Try.func44, Try.ntmps44
  go_wp2
  go_loopw [0, 1] (fun p q wr => ∃ (x y : Int) (n : Nat), p = .int .i64 x ∧ q = .int .i64 y ∧ Nat.gcd x.natAbs y.natAbs = Nat.gcd a.natAbs b.natAbs ∧ wr = w.drewN n) (fun _ q _ => (intOf q).natAbs)
  case atStart => exact ⟨a, b, 0, rfl, rfl, rfl, rfl⟩
  case round =>
    obtain ⟨x, y, n, rfl, rfl, hg, rfl⟩ := hrel
    by_cases hy : y = 0
    · subst hy
      have hg := hide hg
      go_wp2
      go_ret
      exact ⟨_, by rw [← unhide hg]; simp, rfl, n, rfl⟩
    · have z1 : ¬ y = 0 := hy
      have t1 : (y != 0) = true := by simpa using hy
      have hg2 : Nat.gcd y.natAbs (x.tmod y).natAbs = Nat.gcd a.natAbs b.natAbs := (gcd_step_int x y).trans hg
      have hlt : (x.tmod y).natAbs < y.natAbs := by
        rw [Int.natAbs_tmod]; exact Nat.mod_lt _ (by omega)
      obtain ⟨z, hz⟩ : ∃ z, x.tmod y = z := ⟨_, rfl⟩
      rw [hz] at hg2 hlt
      replace hg2 := hide hg2
      clear hg
      go_wp2
      go_quiet (fail)
      go_wp2
      go_roundw
      case rel => exact ⟨y, z, n + nq, rfl, rfl, unhide hg2, by simp only [World.drewN_drewN]⟩
      case measure => simp [intOf]; omega
end Go.Proofs.Ytfegkaflemcanaa
