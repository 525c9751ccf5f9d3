/- The reference's and the program's whole-number functions: Mod, size, whole, Floor, Round. -/
import Derived.Test.YtbodidhggdggmaaRows
import Derived.Test.YtbodidhggdggmaaPre
import Derived.Test.YtbodidhggdggmaaPlain
namespace Go.Proofs.Ytbodidhggdggmaa
open Go.RowKit

theorem mod_any (n m : Int) (w : World) (hm : 1 ≤ m) (hm2 : m ≤ 4611686018427387904) :
    Calls Try.prog 36 #[.int .i64 n, .int .i64 m] w fun e w' => e = .returned (.int .i64 (n % m)) ∧ w' = w := by
  go_enter Try.func36, Try.ntmps36
  go_wp2
  go_ret
  exact ⟨by simp [mod_plain n m hm hm2], rfl⟩

theorem size_any (n : Int) (w : World) (hn : I64 n) :
    Calls Try.prog 73 #[.int .i64 n] w fun e w' => e = .returned (.int .u64 n.natAbs) ∧ w' = w := by
  obtain ⟨h1, h2⟩ := hn
  go_enter Try.func73, Try.ntmps73
  go_wp2
  all_goals go_ret
  · exact ⟨ret1 (int_eq (size_plain n h1 (by assumption))), rfl⟩
  · exact ⟨ret1 (int_eq (by omega)), rfl⟩

theorem whole_any (neg : Bool) (hi lo : Int) (w : World) (h0 : 0 ≤ lo) :
    Calls Try.prog 74 #[.bool neg, .agg #[.int .u64 hi, .int .u64 lo]] w fun e w' => e = .returned (.tuple #[.int .i64 (wholeI neg hi lo).1, .bool (wholeI neg hi lo).2]) ∧ Below w.heap.size w w' := by
  go_enter Try.func74, Try.ntmps74
  go_wp2
  all_goals go_ret2
  all_goals refine ⟨ret2 (int_eq ?_) ?_, (Below.refl _ _).alloc (Nat.le_refl _) _⟩
  all_goals simp_all [wholeI]
  all_goals first | (rw [if_neg (by omega)]) | (unfold wrap64; simp only [IntKind.wrap_u64]; omega) | (unfold wrap64; omega)

set_option maxHeartbeats 1000000 in
theorem floor_pos (a b : Int) (w : World) (ha : I64 a) (hb : 1 ≤ b) (hb2 : b ≤ 9223372036854775807) :
    Calls Try.prog 67 #[.int .i64 a, .int .i64 b] w fun e w' => e = .returned (.tuple #[.int .i64 (a / b), .bool true]) ∧ Below w.heap.size w w' := by
  obtain ⟨h1, h2⟩ := ha
  have e1 : (b == 0) = false := by simp; omega
  have e2 : decide (b < 0) = false := by simp; omega
  have hq := natAbs_div_le a b hb
  by_cases hn : a < 0
  · have hw : IntKind.u64.wrap ((a.natAbs : Int) / (b.natAbs : Int)) = (a.natAbs : Int) / (b.natAbs : Int) := IntWalk.u64_in _ (by omega)
    have hw1 : IntKind.u64.wrap ((a.natAbs : Int) / (b.natAbs : Int) + 1) = (a.natAbs : Int) / (b.natAbs : Int) + 1 := IntWalk.u64_in _ (by omega)
    by_cases hr : (a.natAbs : Int) % (b.natAbs : Int) = 0
    · have hf := hide (floor_neg0 a b hn hb hr)
      have e4 : ((a.natAbs : Int) % (b.natAbs : Int) != 0) = false := by simp [hr]
      have hr := hide hr
      have e3 : decide (a < 0) = true := by simpa using hn
      go_enter Try.func67, Try.ntmps67
      go_wp2_with (go_at_call 73; refine (size_any _ _ (by constructor <;> omega)).mono ?_; rintro e w' ⟨rfl, rfl⟩)
      refine (whole_any _ _ _ _ (by omega)).mono ?_
      rintro e w1 ⟨rfl, hb1⟩
      go_wp2_with fail
      go_ret2
      have hwh := wholeI_neg (lo := (a.natAbs : Int) / (b.natAbs : Int)) (by omega)
      exact ⟨ret2 (int_eq (by rw [hwh]; exact unhide hf)) (bool_eq (by rw [hwh])), hb1⟩
    · have hf := hide (floor_neg1 a b hn hb hr)
      have e4 : ((a.natAbs : Int) % (b.natAbs : Int) != 0) = true := by simpa using hr
      have hr := hide hr
      have e3 : decide (a < 0) = true := by simpa using hn
      go_enter Try.func67, Try.ntmps67
      go_wp2_with (go_at_call 73; refine (size_any _ _ (by constructor <;> omega)).mono ?_; rintro e w' ⟨rfl, rfl⟩)
      refine (whole_any _ _ _ _ (by omega)).mono ?_
      rintro e w1 ⟨rfl, hb1⟩
      go_wp2_with fail
      go_ret2
      have hfb := floor_bounds a b hb
      have hff := unhide hf
      have hwh := wholeI_neg (lo := (a.natAbs : Int) / (b.natAbs : Int) + 1) (by omega)
      exact ⟨ret2 (int_eq (by rw [hwh]; exact unhide hf)) (bool_eq (by rw [hwh])), hb1⟩
  · have hab : (a.natAbs : Int) / (b.natAbs : Int) = a / b := by rw [show (a.natAbs : Int) = a by omega, show (b.natAbs : Int) = b by omega]
    have hw : IntKind.u64.wrap ((a.natAbs : Int) / (b.natAbs : Int)) = (a.natAbs : Int) / (b.natAbs : Int) := IntWalk.u64_in _ (by omega)
    have e3 : decide (a < 0) = false := by simpa using hn
    go_enter Try.func67, Try.ntmps67
    go_wp2_with (go_at_call 73; refine (size_any _ _ (by constructor <;> omega)).mono ?_; rintro e w' ⟨rfl, rfl⟩)
    refine (whole_any _ _ _ _ (by omega)).mono ?_
    rintro e w1 ⟨rfl, hb1⟩
    go_wp2_with fail
    go_ret2
    have hwh := wholeI_pos (lo := a / b) (by omega)
    exact ⟨ret2 (int_eq (by rw [hwh])) (bool_eq (by rw [hwh])), hb1⟩

theorem rround_pos (a b : Int) (w : World) (ha : I64 a) (hb : 1 ≤ b) (hb2 : b ≤ 9223372036854775807) :
    Calls Try.prog 51 #[.int .i64 a, .int .i64 b] w fun e w' => e = .returned (.tuple #[.int .i64 (roundI a b), .bool true]) ∧ Below w.heap.size w w' := by
  have hf := floor_bounds a b hb
  have hd := Int.mul_ediv_add_emod a b
  have hr0 := Int.emod_nonneg a (b := b) (by omega)
  have hr1 := Int.emod_lt_of_pos a (b := b) (by omega)
  have ha' := ha
  obtain ⟨h1, h2⟩ := ha
  have e1 : decide (b < 1) = false := by simp; omega
  have e2 : wrap64 (a - wrap64 (a / b * b)) = a % b := by
    have : a / b * b = b * (a / b) := Int.mul_comm _ _
    unfold wrap64; omega
  have e2 := hide e2
  have hd := hide hd
  go_enter Try.func51, Try.ntmps51
  go_wp2_with (go_at_call 67; refine (floor_pos a b _ ha' hb hb2).mono ?_; rintro e w1 ⟨rfl, hb1⟩)
  all_goals go_ret2
  · have h : b - a % b ≤ a % b := by assumption
    exact ⟨ret2 (int_eq (roundI_hi hb h1 h2 h)) rfl, hb1⟩
  · have h : a % b < b - a % b := by assumption
    exact ⟨ret2 (int_eq (if_neg (by omega : ¬ (b - a % b ≤ a % b))).symm) rfl, hb1⟩

theorem eround_pos (a b : Int) (w : World) (ha : I64 a) (hb : 1 ≤ b) (hb2 : b ≤ 9223372036854775807) :
    Calls Try.prog 48 #[.int .i64 a, .int .i64 b] w fun e w' => e = .returned (.tuple #[.int .i64 (roundI a b), .bool true]) ∧ w' = w := by
  have hf := floor_bounds a b hb
  have hr0 := Int.emod_nonneg a (b := b) (by omega)
  have hr1 := Int.emod_lt_of_pos a (b := b) (by omega)
  obtain ⟨h1, h2⟩ := ha
  have e1 : decide (b < 1) = false := by simp; omega
  by_cases hn : a.tmod b < 0
  · obtain ⟨q1, q2⟩ := tdiv_neg hb hn
    have hq := floor_i64 hb h1 h2
    have q3 : wrap64 (a.tdiv b - 1) = a / b := by rw [← q1]; exact IntWalk.wrap64_in _ hq
    have q4 : wrap64 (a.tmod b + b) = a % b := by rw [← q2]; exact IntWalk.wrap64_in _ (by omega)
    have q5 : wrap64 (b - a % b) = b - a % b := IntWalk.wrap64_in _ (by omega)
    replace q1 := hide q1; replace q2 := hide q2; clear hf hr0 hr1
    go_enter Try.func48, Try.ntmps48
    go_wp2
    all_goals go_ret2
    · have h : b - a % b ≤ a % b := by assumption
      exact ⟨ret2 (int_eq (roundI_hi hb h1 h2 h)) rfl, rfl⟩
    · have h : a % b < b - a % b := by assumption
      exact ⟨ret2 (int_eq (q3.trans (if_neg (by omega : ¬ (b - a % b ≤ a % b))).symm)) rfl, rfl⟩
  · obtain ⟨q1, q2⟩ := tdiv_pos (a := a) hb (by omega)
    have hq := floor_i64 hb h1 h2
    have q5 : wrap64 (b - a % b) = b - a % b := IntWalk.wrap64_in _ (by omega)
    have hn0 : 0 ≤ a.tmod b := by omega
    have e3 : decide (a.tmod b < 0) = false := by simpa using hn
    rw [q2] at q5
    clear hf hr0 hr1 hn
    replace q1 := hide q1; replace q2 := hide q2
    go_enter Try.func48, Try.ntmps48
    go_wp2
    all_goals go_ret2
    · have h : b - a.tmod b ≤ a.tmod b := by assumption
      exact ⟨ret2 (int_eq ((congrArg (fun t => wrap64 (t + 1)) (unhide q1)).symm.trans (roundI_hi hb h1 h2 (by rw [unhide q2]; exact h)))) rfl, rfl⟩
    · have h : a.tmod b < b - a.tmod b := by assumption
      exact ⟨ret2 (int_eq ((unhide q1).symm.trans (if_neg (by rw [unhide q2]; omega)).symm)) rfl, rfl⟩
end Go.Proofs.Ytbodidhggdggmaa
