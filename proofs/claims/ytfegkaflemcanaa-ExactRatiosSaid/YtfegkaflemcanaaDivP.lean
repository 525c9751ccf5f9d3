/- Plain arithmetic of a long division. No program in sight. -/
import Derived.WalkKit
import Derived.Laws.Bits64b
namespace Go.Proofs.Ytfegkaflemcanaa
namespace Dv
theorem wrapN (a : Nat) (ha : a < 18446744073709551616) : IntKind.u64.wrap (a : Int) = (a : Int) := by rw [IntKind.wrap_u64]; omega
theorem wrapM (a : Nat) : IntKind.u64.wrap (a : Int) = ((a % 18446744073709551616 : Nat) : Int) := by rw [IntKind.wrap_u64]; omega
/-- the test of a digit, said by the true quotient -/
theorem over_iff (y1 y0 u v q r b : Nat) (hb : 0 < b) (hy1 : 0 < y1) (h : q * y1 + r = u) :
    q * y0 ≤ b * r + v ↔ q ≤ (u * b + v) / (y1 * b + y0) := by
  have hy : 0 < y1 * b + y0 := by
    have := Nat.mul_pos hy1 hb
    omega
  rw [Nat.le_div_iff_mul_le hy]
  have e1 : q * (y1 * b + y0) = q * y1 * b + q * y0 := by rw [Nat.mul_add, Nat.mul_assoc]
  have e2 : u * b + v = q * y1 * b + (b * r + v) := by rw [← h, Nat.add_mul, Nat.mul_comm r b]; omega
  rw [e1, e2]
  omega
theorem qt_lt (y u v b : Nat) (hv : v < b) (hu : u < y) : (u * b + v) / y < b := by
  rw [Nat.div_lt_iff_lt_mul (by omega)]
  have : (u + 1) * b ≤ y * b := Nat.mul_le_mul_right b hu
  rw [Nat.add_mul] at this
  rw [Nat.mul_comm b y]
  omega
/-- the last way out of a digit's loop -/
theorem far (y1 y0 u v q r b : Nat) (hb : 0 < b) (hy1 : 0 < y1) (hy0 : y0 < b) (hu : u < y1 * b + y0) (h : q * y1 + r = u) (hr : b ≤ r) :
    q ≤ (u * b + v) / (y1 * b + y0) := by
  rw [← over_iff y1 y0 u v q r b hb hy1 h]
  have hq : q < b := by
    apply Nat.lt_of_not_le
    intro hc
    have h2 : b * y1 ≤ q * y1 := Nat.mul_le_mul_right y1 hc
    rw [Nat.mul_comm b y1] at h2
    omega
  have h1 : q * y0 ≤ b * b := Nat.mul_le_mul (by omega) (by omega)
  have h2 : b * b ≤ b * r := Nat.mul_le_mul_left b hr
  omega
/-- two digits -/
theorem two_digits (n1 v0 y b : Nat) (hy : 0 < y) :
    (n1 * b + v0) / y = n1 / y * b + (n1 % y * b + v0) / y ∧ (n1 * b + v0) % y = (n1 % y * b + v0) % y := by
  have e : n1 * b + v0 = y * (n1 / y * b) + (n1 % y * b + v0) := by
    have := Nat.div_add_mod n1 y
    conv => lhs; rw [← this]
    rw [Nat.add_mul, Nat.mul_assoc]
    omega
  rw [e]
  exact ⟨by rw [Nat.mul_add_div hy], by rw [Nat.mul_add_mod]⟩
theorem scaled (n y k : Nat) (hk : 0 < k) : (n * k) / (y * k) = n / y ∧ (n * k) % (y * k) / k = n % y := by
  refine ⟨Nat.mul_div_mul_right n y hk, ?_⟩
  rw [Nat.mul_mod_mul_right, Nat.mul_div_cancel _ hk]

/-- what a normalized division starts from -/
theorem norm (hi lo y s : Nat) (hs : s ≤ 63) (hy : hi < y) (hlo : lo < 18446744073709551616) (_ : 9223372036854775808 ≤ y * 2 ^ s) (h2 : y * 2 ^ s < 18446744073709551616) :
    IntKind.u64.wrap ((y : Int) * 2 ^ s) = ((y * 2 ^ s : Nat) : Int) ∧
    IntKind.u64.wrap ((hi : Int) * 2 ^ s) = ((hi * 2 ^ s : Nat) : Int) ∧
    IntKind.u64.wrap ((lo : Int) * 2 ^ s) = ((lo * 2 ^ s % 18446744073709551616 : Nat) : Int) ∧
    (lo : Int) / 2 ^ (64 - s) = ((lo / 2 ^ (64 - s) : Nat) : Int) ∧
    bits .or .u64 ((hi * 2 ^ s : Nat) : Int) ((lo / 2 ^ (64 - s) : Nat) : Int) = ((hi * 2 ^ s + lo / 2 ^ (64 - s) : Nat) : Int) ∧
    hi * 2 ^ s + lo / 2 ^ (64 - s) < y * 2 ^ s ∧
    (hi * 2 ^ s + lo / 2 ^ (64 - s)) * 18446744073709551616 + lo * 2 ^ s % 18446744073709551616 = (hi * 18446744073709551616 + lo) * 2 ^ s := by
  have c : ∀ x : Nat, (x : Int) * 2 ^ s = ((x * 2 ^ s : Nat) : Int) := fun x => by simp
  have hp : 2 ^ (64 - s) * 2 ^ s = 18446744073709551616 := by
    rw [← Nat.pow_add, Nat.sub_add_cancel (by omega)]
  have hl : lo / 2 ^ (64 - s) < 2 ^ s := by
    rw [Nat.div_lt_iff_lt_mul (Nat.two_pow_pos _), Nat.mul_comm, hp]; exact hlo
  have hle : (hi + 1) * 2 ^ s ≤ y * 2 ^ s := Nat.mul_le_mul_right _ hy
  rw [Nat.add_mul, Nat.one_mul] at hle
  have hor : hi * 2 ^ s ||| lo / 2 ^ (64 - s) = hi * 2 ^ s + lo / 2 ^ (64 - s) := by
    rw [Nat.mul_comm hi, ← Nat.two_pow_add_eq_or_of_lt hl]
  refine ⟨?_, ?_, ?_, ?_, ?_, by omega, ?_⟩
  · rw [c, wrapN _ h2]
  · rw [c, wrapN _ (Nat.lt_of_le_of_lt (Nat.le_trans (Nat.le_add_right _ _) hle) h2)]
  · rw [c, wrapM]
  · simp
  · have b1 : hi * 2 ^ s < 18446744073709551616 := Nat.lt_of_le_of_lt (Nat.le_trans (Nat.le_add_right _ _) hle) h2
    have b2 : lo / 2 ^ (64 - s) < 18446744073709551616 := Nat.lt_of_le_of_lt (Nat.div_le_self _ _) hlo
    rw [bits_or_u64_nat _ _ b1 b2, hor]
  · have hd : lo * 2 ^ s / 18446744073709551616 = lo / 2 ^ (64 - s) := by
      rw [← hp]; exact Nat.mul_div_mul_right lo (2 ^ (64 - s)) (Nat.two_pow_pos _)
    have hm := Nat.div_add_mod (lo * 2 ^ s) 18446744073709551616
    rw [hd] at hm
    rw [Nat.add_mul, Nat.add_mul, Nat.mul_right_comm hi]
    omega
/-- the start of a digit -/
theorem start (y1 y0 u : Nat) (hy1 : 2147483648 ≤ y1) (hy1' : y1 < 4294967296) (hy0 : y0 < 4294967296) (hu : u < y1 * 4294967296 + y0) :
    IntKind.u64.wrap ((u : Int) / (y1 : Int)) = ((u / y1 : Nat) : Int) ∧
    IntKind.u64.wrap ((u : Int) - IntKind.u64.wrap (((u / y1 : Nat) : Int) * (y1 : Int))) = ((u % y1 : Nat) : Int) ∧
    u / y1 * y1 + u % y1 = u ∧ u % y1 < y1 := by
  have hd := Nat.div_add_mod u y1
  rw [Nat.mul_comm] at hd
  have hl := Nat.mod_lt u (show 0 < y1 by omega)
  have hlt : u < 18446744073709551616 := by omega
  have hq : u / y1 ≤ u := Nat.div_le_self _ _
  refine ⟨?_, ?_, hd, hl⟩
  · rw [← Int.natCast_ediv, wrapN _ (by omega)]
  · rw [← Int.natCast_mul, IntKind.wrap_u64, IntKind.wrap_u64]; omega
/-- a digit is at least the true one at the start -/
theorem start_ge (y1 y0 u v b : Nat) (hb : 0 < b) (hy1 : 0 < y1) (hv : v < b) : (u * b + v) / (y1 * b + y0) ≤ u / y1 := by
  have h1 : (u * b + v) / (y1 * b + y0) ≤ (u * b + v) / (y1 * b) := Nat.div_le_div_left (by omega) (Nat.mul_pos hy1 hb)
  have h2 : (u * b + v) / (y1 * b) = u / y1 := by
    rw [Nat.mul_comm y1 b, ← Nat.div_div_eq_div_mul, Nat.add_comm, Nat.add_mul_div_right _ _ hb, Nat.div_eq_of_lt hv, Nat.zero_add]
  omega
/-- what is left behind a digit -/
theorem left (u v Y q : Nat) (hY : 0 < Y) (hY2 : Y < 18446744073709551616) (hq : q = (u * 4294967296 + v) / Y) :
    IntKind.u64.wrap (IntKind.u64.wrap (IntKind.u64.wrap ((u : Int) * 4294967296) + (v : Int)) - IntKind.u64.wrap ((q : Int) * (Y : Int))) = (((u * 4294967296 + v) % Y : Nat) : Int) := by
  have hd := Nat.div_add_mod (u * 4294967296 + v) Y
  have hl := Nat.mod_lt (u * 4294967296 + v) hY
  rw [← hq, Nat.mul_comm] at hd
  rw [← Int.natCast_mul q Y]
  simp only [IntKind.wrap_u64]
  omega
/-- the whole of it -/
theorem whole (N s y U T V1 V0 Y : Nat) (hy : 0 < y) (hY : Y = y * 2 ^ s) (hN : U * 18446744073709551616 + T = N * 2 ^ s) (hT : T = V1 * 4294967296 + V0) :
    N / y = (U * 4294967296 + V1) / Y * 4294967296 + ((U * 4294967296 + V1) % Y * 4294967296 + V0) / Y ∧
    N % y = ((U * 4294967296 + V1) % Y * 4294967296 + V0) % Y / 2 ^ s := by
  have hp := Nat.two_pow_pos s
  have hYp : 0 < Y := by rw [hY]; exact Nat.mul_pos hy hp
  obtain ⟨a, b⟩ := scaled N y (2 ^ s) hp
  obtain ⟨c, d⟩ := two_digits (U * 4294967296 + V1) V0 Y 4294967296 hYp
  have e : N * 2 ^ s = (U * 4294967296 + V1) * 4294967296 + V0 := by omega
  rw [← a, ← b, ← hY, e, c, d]
  exact ⟨rfl, rfl⟩
/-- the quotient's word -/
theorem quo (q1 q0 : Nat) (h1 : q1 < 4294967296) (h0 : q0 < 4294967296) : IntKind.u64.wrap (IntKind.u64.wrap ((q1 : Int) * 4294967296) + (q0 : Int)) = ((q1 * 4294967296 + q0 : Nat) : Int) := by
  simp only [IntKind.wrap_u64]; omega
/-- how far a number is shifted -/
theorem shift (y b : Nat) (h1 : 1 ≤ b) (h2 : b ≤ 64) (hlo : 2 ^ (b - 1) ≤ y) (hhi : y < 2 ^ b) :
    9223372036854775808 ≤ y * 2 ^ (64 - b) ∧ y * 2 ^ (64 - b) < 18446744073709551616 := by
  have a : 2 ^ (b - 1) * 2 ^ (64 - b) ≤ y * 2 ^ (64 - b) := Nat.mul_le_mul_right _ hlo
  have c : y * 2 ^ (64 - b) < 2 ^ b * 2 ^ (64 - b) := Nat.mul_lt_mul_of_pos_right hhi (Nat.two_pow_pos _)
  rw [← Nat.pow_add] at a c
  rw [show b - 1 + (64 - b) = 63 by omega] at a
  rw [show b + (64 - b) = 64 by omega] at c
  exact ⟨by simpa using a, by simpa using c⟩
end Dv
end Go.Proofs.Ytfegkaflemcanaa
