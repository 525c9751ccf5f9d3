/- The program's numbers of two words: sign, size, number, times, compare, plus, minus, over, gcd. -/
import Derived.Test.YtfegkaflemcanaaR01
import Derived.Test.YtfegkaflemcanaaDiv
import Derived.Test.YtfegkaflemcanaaExP
namespace Go.Proofs.Ytfegkaflemcanaa
open Go.RowKit

def hiW (n : Nat) : Int := ((n / 18446744073709551616 : Nat) : Int)
def loW (n : Nat) : Int := ((n % 18446744073709551616 : Nat) : Int)
def valI (o : Option Int) : Int := o.getD 0
def okI (o : Option Int) : Bool := o.isSome

theorem hiW_def (n : Nat) : hiW n = ((n / 18446744073709551616 : Nat) : Int) := rfl
theorem loW_def (n : Nat) : loW n = ((n % 18446744073709551616 : Nat) : Int) := rfl

theorem sign_any (n : Int) (w : World) :
    Calls Try.prog 31 #[.int .i64 n] w fun e w' => e = .returned (.int .i64 (cmpI n 0)) ∧ w' = w := by
  go_enter Try.func31, Try.ntmps31
  go_wp2_with (go_at_call 42; refine (cmp_int _ _ _).mono ?_; rintro e w' ⟨rfl, rfl⟩)
  go_ret
  exact ⟨rfl, rfl⟩

theorem esize_any (n : Int) (w : World) (hn : I64 n) :
    Calls Try.prog 32 #[.int .i64 n] w fun e w' => e = .returned (.int .u64 n.natAbs) ∧ w' = w := by
  obtain ⟨h1, h2⟩ := hn
  go_enter Try.func32, Try.ntmps32
  go_wp2
  all_goals go_ret
  · exact ⟨ret1 (int_eq (size_plain n h1 (by assumption))), rfl⟩
  · exact ⟨ret1 (int_eq (by omega)), rfl⟩

theorem whole_fit (neg : Bool) (hi lo : Int) (n : Nat) (h1 : hi = hiW n) (h2 : lo = loW n) :
    wholeI neg hi lo = (valI (Ex.fitI (Ex.sg neg n)), okI (Ex.fitI (Ex.sg neg n))) := by
  subst h1; subst h2
  unfold wholeI Ex.fitI Ex.sg valI okI hiW loW
  cases neg
  · simp only [Bool.false_eq_true, if_false]
    by_cases h : (n : Int) ≤ 9223372036854775807
    · rw [if_pos (by omega), if_pos (by omega)]; simp; omega
    · rw [if_neg (by omega), if_neg (by omega)]; simp
  · simp only [if_true]
    by_cases h : (n : Int) ≤ 9223372036854775808
    · rw [if_pos (by omega), if_pos (by omega)]; simp; omega
    · rw [if_neg (by omega), if_neg (by omega)]; simp

theorem rwhole_any (neg : Bool) (hi lo : Int) (n : Nat) (w : World) (h1 : hi = hiW n) (h2 : lo = loW n) :
    Calls Try.prog 35 #[.bool neg, .agg #[.int .u64 hi, .int .u64 lo]] w fun e w' => e = .returned (.tuple #[.int .i64 (valI (Ex.fitI (Ex.sg neg n))), .bool (okI (Ex.fitI (Ex.sg neg n)))]) ∧ Below w.heap.size w w' := by
  refine (whole_any neg hi lo w (by subst h2; unfold loW; omega)).mono ?_
  rintro e w' ⟨rfl, hb⟩
  rw [whole_fit neg hi lo n h1 h2]
  exact ⟨rfl, hb⟩

set_option maxHeartbeats 1000000 in
theorem number0 (neg : Bool) (hi lo : Int) (w : World) (h0 : 0 ≤ lo) (h1 : 0 ≤ hi) (h2 : lo < 18446744073709551616) :
    Calls Try.prog 33 #[.agg #[.int .u64 hi, .int .u64 lo], .bool neg] w fun e w' => e = .returned (.tuple #[.int .i64 (wholeI neg hi lo).1, .bool (wholeI neg hi lo).2]) ∧ Below w.heap.size w w' := by
  by_cases c1 : hi = 0
  · subst c1
    by_cases c2 : 9223372036854775808 < lo
    · have hw : wholeI neg 0 lo = (0, false) := by unfold wholeI; rw [if_neg (by cases neg <;> simp <;> omega)]
      rw [hw]
      have t1 : decide (9223372036854775808 < lo) = true := by simpa using c2
      go_enter Try.func33, Try.ntmps33
      go_wp2
      go_ret2
      exact ⟨rfl, (Below.refl _ _).alloc (Nat.le_refl _) _⟩
    · have t1 : decide (9223372036854775808 < lo) = false := by simpa using c2
      by_cases c3 : lo = 9223372036854775808
      · have t2 : (lo == 9223372036854775808) = true := by simpa using c3
        cases neg
        · have hw : wholeI false 0 lo = (0, false) := by unfold wholeI; rw [if_neg (by simp; omega)]
          rw [hw]
          replace c3 := hide c3
          go_enter Try.func33, Try.ntmps33
          go_wp2
          go_ret2
          exact ⟨rfl, (Below.refl _ _).alloc (Nat.le_refl _) _⟩
        · have hw : wholeI true 0 lo = (-lo, true) := wholeI_neg (by omega)
          rw [hw]
          replace c3 := hide c3
          go_enter Try.func33, Try.ntmps33
          go_wp2
          go_ret2
          have c3 := unhide c3
          exact ⟨ret2 (int_eq (by subst c3; unfold wrap64; simp only [IntKind.wrap_u64]; omega)) rfl, (Below.refl _ _).alloc (Nat.le_refl _) _⟩
      · have t2 : (lo == 9223372036854775808) = false := by simpa using c3
        have hl : lo ≤ 9223372036854775807 := by omega
        cases neg
        · rw [wholeI_pos hl]
          clear c2 c3
          go_enter Try.func33, Try.ntmps33
          go_wp2
          go_ret2
          exact ⟨ret2 (int_eq (by first | rfl | (unfold wrap64; omega))) rfl, (Below.refl _ _).alloc (Nat.le_refl _) _⟩
        · rw [wholeI_neg (lo := lo) (by omega)]
          clear c2 c3
          go_enter Try.func33, Try.ntmps33
          go_wp2
          go_ret2
          exact ⟨ret2 (int_eq (by first | rfl | (unfold wrap64; simp only [IntKind.wrap_u64]; omega))) rfl, (Below.refl _ _).alloc (Nat.le_refl _) _⟩
  · have hw : wholeI neg hi lo = (0, false) := by unfold wholeI; rw [if_neg (by omega)]
    rw [hw]
    have t1 : (hi != 0) = true := by simpa using c1
    go_enter Try.func33, Try.ntmps33
    go_wp2
    go_ret2
    exact ⟨rfl, (Below.refl _ _).alloc (Nat.le_refl _) _⟩

theorem number_any (neg : Bool) (hi lo : Int) (n : Nat) (w : World) (h1 : hi = hiW n) (h2 : lo = loW n) :
    Calls Try.prog 33 #[.agg #[.int .u64 hi, .int .u64 lo], .bool neg] w fun e w' => e = .returned (.tuple #[.int .i64 (valI (Ex.fitI (Ex.sg neg n))), .bool (okI (Ex.fitI (Ex.sg neg n)))]) ∧ Below w.heap.size w w' := by
  refine (number0 neg hi lo w (by subst h2; unfold loW; omega) (by subst h1; unfold hiW; omega) (by subst h2; unfold loW; omega)).mono ?_
  rintro e w' ⟨rfl, hb⟩
  rw [whole_fit neg hi lo n h1 h2]
  exact ⟨rfl, hb⟩

theorem times_any (a b : Nat) (x y : Int) (w : World) (hx : x = a) (hy : y = b) (ha : a < 18446744073709551616) (hb : b < 18446744073709551616) :
    Calls Try.prog 36 #[.int .u64 x, .int .u64 y] w fun e w' => e = .returned (.agg #[.int .u64 (hiW (a * b)), .int .u64 (loW (a * b))]) ∧ Below w.heap.size w w' := by
  subst hx; subst hy
  have hm := mul64_any a b ha hb
  simp only [← hiW_def, ← loW_def] at hm
  clear ha hb
  go_enter Try.func36, Try.ntmps36
  go_wp2_with fail
  refine (hm _).mono ?_
  rintro e w1 ⟨rfl, rfl⟩
  go_wp2_with fail
  exact bodyPost_ret (v := .agg #[.int .u64 (hiW (a * b)), .int .u64 (loW (a * b))]) (by simp [results, Try.results36, go_sem]) rfl ⟨rfl, by first | exact ((Below.refl _ _).alloc (Nat.le_refl _) _) | exact (((Below.refl _ _).alloc (Nat.le_refl _) _).setCell (by simp) _)⟩

theorem div64_drew (hi lo y : Nat) (w : World) (hy : hi < y) (hy2 : y < 18446744073709551616) (hlo : lo < 18446744073709551616) :
    Calls Try.prog 52 #[.int .u64 hi, .int .u64 lo, .int .u64 y] w fun e w' => e = .returned (.tuple #[.int .u64 (((hi * 18446744073709551616 + lo) / y : Nat) : Int), .int .u64 (((hi * 18446744073709551616 + lo) % y : Nat) : Int)]) ∧ ∃ n, w' = w.drewN n := by
  by_cases h : hi = 0
  · subst h
    simp only [Nat.zero_mul, Nat.zero_add]
    exact div64_low lo y w (by omega) hy2 hlo
  · exact (div64_high hi lo y w (by omega) hy hy2 hlo).mono fun e w' ⟨a, b⟩ => ⟨a, 0, b⟩
end Go.Proofs.Ytfegkaflemcanaa
