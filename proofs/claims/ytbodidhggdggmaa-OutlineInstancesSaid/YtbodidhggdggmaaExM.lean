/- Merged: XLen XBits XDivP XDiv XExP XWide XWide2 XWide3 XRef1 XDivB XRef2 XEx1 XEx2 XTail XExC XEx5 XEx6 XExQ XEx7 XEx8 XEx9 XMul -/
import Derived.Test.YtbodidhggdggmaaRows
import Derived.Lib.Walk
import Derived.Lib.BitFns
import Derived.Test.YtbodidhggdggmaaPre
import Derived.Test.YtbodidhggdggmaaPlain
import Derived.Lib.Mul64
import Derived.Laws.Bits64b
import Derived.Laws.Externs
import Derived.WalkKit
import Derived.Deep.QuietTactic
import Derived.BigQuiet
import Derived.LoopTactic
import Derived.Outline
import Derived.Test.YtbodidhggdggmaaR01
import Derived.Test.YtbodidhggdggmaaFront
import Derived.Test.YtbodidhggdggmaaFrontG
import Derived.Test.YtbodidhggdggmaaLst
-- @@XLen
/- bits.Len64: walked by the shelf's own way (the text of the kit's worked contract, turned to this program). -/
namespace Go.Proofs.Ytbodidhggdggmaa
end Go.Proofs.Ytbodidhggdggmaa
-- @@XBits
/- Go's own words on bits: cmp.Compare, bits.Mul64, Add64, Sub64, Len64, LeadingZeros64. -/
namespace Go.Proofs.Ytbodidhggdggmaa
open Go.RowKit

def cmpI (x y : Int) : Int := if x < y then -1 else if y < x then 1 else 0

set_option maxHeartbeats 1000000 in
theorem cmp_int (x y : Int) (w : World) :
    Calls Try.prog 91 #[.int .i64 x, .int .i64 y] w fun e w' => e = .returned (.int .i64 (cmpI x y)) ∧ w' = w := by
  unfold cmpI
  go_enter Try.func91, Try.ntmps91
  go_wp2
  all_goals go_ret
  all_goals exact ⟨rfl, rfl⟩

namespace Num
theorem maskN (a : Nat) (ha : a < 18446744073709551616) : bits .and .u64 (a : Int) 4294967295 = ((a % 4294967296 : Nat) : Int) := by
  have h := bits_and_u64_nat a 4294967295 ha (by omega)
  have e : a &&& 4294967295 = a % 4294967296 := Nat.and_two_pow_sub_one_eq_mod a 32
  rw [e] at h
  exact h
theorem divN (a : Nat) : (a : Int) / 4294967296 = ((a / 4294967296 : Nat) : Int) := by omega
theorem mulN (a b : Nat) : (a : Int) * (b : Int) = ((a * b : Nat) : Int) := (Int.natCast_mul a b).symm
theorem addN (a b : Nat) : (a : Int) + (b : Int) = ((a + b : Nat) : Int) := (Int.natCast_add a b).symm
theorem wrapN (a : Nat) (ha : a < 18446744073709551616) : IntKind.u64.wrap (a : Int) = (a : Int) := by rw [IntKind.wrap_u64]; omega
theorem wrapM (a : Nat) : IntKind.u64.wrap (a : Int) = ((a % 18446744073709551616 : Nat) : Int) := by rw [IntKind.wrap_u64]; omega
end Num

set_option maxHeartbeats 1000000 in
theorem mul64_any (x y : Nat) (hx : x < 18446744073709551616) (hy : y < 18446744073709551616) (w : World) :
    Calls Try.prog 92 #[.int .u64 x, .int .u64 y] w fun e w' => e = .returned (.tuple #[.int .u64 ((x * y / 18446744073709551616 : Nat) : Int), .int .u64 ((x * y % 18446744073709551616 : Nat) : Int)]) ∧ w' = w := by
  obtain ⟨bd, bt, bw, hhi⟩ := Lib.mul64_hi x y hx hy
  have ba := Lib.half_mul_le (a := x / 4294967296) (b := y / 4294967296) (by omega) (by omega)
  have bb := Lib.half_mul_le (a := x / 4294967296) (b := y % 4294967296) (by omega) (by omega)
  have bc := Lib.half_mul_le (a := x % 4294967296) (b := y / 4294967296) (by omega) (by omega)
  have ba' : x / 4294967296 * (y / 4294967296) < 18446744073709551616 := by omega
  have bb' : x / 4294967296 * (y % 4294967296) < 18446744073709551616 := by omega
  have bc' : x % 4294967296 * (y / 4294967296) < 18446744073709551616 := by omega
  have bh1 : x / 4294967296 * (y / 4294967296) + (x / 4294967296 * (y % 4294967296) + x % 4294967296 * (y % 4294967296) / 4294967296) / 4294967296 < 18446744073709551616 := by omega
  have bh : x / 4294967296 * (y / 4294967296) + (x / 4294967296 * (y % 4294967296) + x % 4294967296 * (y % 4294967296) / 4294967296) / 4294967296 + ((x / 4294967296 * (y % 4294967296) + x % 4294967296 * (y % 4294967296) / 4294967296) % 4294967296 + x % 4294967296 * (y / 4294967296)) / 4294967296 < 18446744073709551616 := by omega
  go_enter Try.func92, Try.ntmps92
  go_wp2
  simp only [Num.maskN x hx, Num.maskN y hy, Num.divN, Num.mulN, Num.addN, Num.wrapN _ bd, Num.wrapN _ bb', Num.wrapN _ bt, Num.maskN _ bt, Num.wrapN _ bc', Num.wrapN _ bw, Num.wrapN _ ba', Num.wrapN _ bh1, Num.wrapN _ bh, Num.wrapM (x * y)]
  rw [hhi]
  go_ret2
  exact ⟨rfl, rfl⟩

/-- The model's entry for math/bits.Sub64. -/
def subEntry : Array Value → Sem Value := fun args => do
  let (x, y, b) ← Extern.MathBitsCarry.three "Sub64" args
  pure (Extern.MathBitsCarry.pair ((x + Extern.MathBitsCarry.m64 - y - b) % Extern.MathBitsCarry.m64) (if x < y + b then 1 else 0))
theorem run_subEntry {P : Program} (x y b : Nat) (hb : b ≤ 1) (w : World) :
    (subEntry #[.int .u64 x, .int .u64 y, .int .u64 b]).run P w =
      .ok (.tuple #[.int .u64 (((x + 18446744073709551616 - y - b) % 18446744073709551616 : Nat) : Int), .int .u64 ((if x < y + b then 1 else 0 : Nat) : Int)]) w := by
  have : b = 0 ∨ b = 1 := by omega
  rcases this with rfl | rfl <;> rfl
theorem bitLen_range : ∀ (f x : Nat), x < 2 ^ f → 1 ≤ x → 1 ≤ Lib.bitLenAux f x ∧ Lib.bitLenAux f x ≤ f ∧ 2 ^ (Lib.bitLenAux f x - 1) ≤ x ∧ x < 2 ^ (Lib.bitLenAux f x)
  | 0, x, h, h1 => by simp at h; omega
  | f + 1, x, h, h1 => by
    simp only [Lib.bitLenAux]
    rw [if_neg (by omega)]
    by_cases hx : x = 1
    · subst hx
      have : Lib.bitLenAux f (1 / 2) = 0 := by cases f <;> simp [Lib.bitLenAux]
      rw [this]; simp
    · obtain ⟨a, b, c, d⟩ := bitLen_range f (x / 2) (by rw [Nat.pow_succ] at h; omega) (by omega)
      refine ⟨by omega, by omega, ?_, ?_⟩
      · have : 1 + Lib.bitLenAux f (x / 2) - 1 = (Lib.bitLenAux f (x / 2) - 1) + 1 := by omega
        rw [this, Nat.pow_succ]; omega
      · rw [Nat.add_comm, Nat.pow_succ]; omega

end Go.Proofs.Ytbodidhggdggmaa
-- @@XDivP
/- Plain arithmetic of a long division. No program in sight. -/
namespace Go.Proofs.Ytbodidhggdggmaa
namespace Dv
theorem wrapN (a : Nat) (ha : a < 18446744073709551616) : IntKind.u64.wrap (a : Int) = (a : Int) := by rw [IntKind.wrap_u64]; omega
theorem wrapM (a : Nat) : IntKind.u64.wrap (a : Int) = ((a % 18446744073709551616 : Nat) : Int) := by rw [IntKind.wrap_u64]; omega
/-- the test of a digit, said by the true quotient -/
theorem over_iff (y1 y0 u v q r b : Nat) (hb : 0 < b) (hy1 : 0 < y1) (h : q * y1 + r = u) :
    q * y0 ≤ b * r + v ↔ q ≤ (u * b + v) / (y1 * b + y0) := by
  have hy : 0 < y1 * b + y0 := by
    have := Nat.mul_pos hy1 hb
    omega
  rw [Nat.le_div_iff_mul_le hy]
  have e1 : q * (y1 * b + y0) = q * y1 * b + q * y0 := by rw [Nat.mul_add, Nat.mul_assoc]
  have e2 : u * b + v = q * y1 * b + (b * r + v) := by rw [← h, Nat.add_mul, Nat.mul_comm r b]; omega
  rw [e1, e2]
  omega
theorem qt_lt (y u v b : Nat) (hv : v < b) (hu : u < y) : (u * b + v) / y < b := by
  rw [Nat.div_lt_iff_lt_mul (by omega)]
  have : (u + 1) * b ≤ y * b := Nat.mul_le_mul_right b hu
  rw [Nat.add_mul] at this
  rw [Nat.mul_comm b y]
  omega
/-- the last way out of a digit's loop -/
theorem far (y1 y0 u v q r b : Nat) (hb : 0 < b) (hy1 : 0 < y1) (hy0 : y0 < b) (hu : u < y1 * b + y0) (h : q * y1 + r = u) (hr : b ≤ r) :
    q ≤ (u * b + v) / (y1 * b + y0) := by
  rw [← over_iff y1 y0 u v q r b hb hy1 h]
  have hq : q < b := by
    apply Nat.lt_of_not_le
    intro hc
    have h2 : b * y1 ≤ q * y1 := Nat.mul_le_mul_right y1 hc
    rw [Nat.mul_comm b y1] at h2
    omega
  have h1 : q * y0 ≤ b * b := Nat.mul_le_mul (by omega) (by omega)
  have h2 : b * b ≤ b * r := Nat.mul_le_mul_left b hr
  omega
/-- two digits -/
theorem two_digits (n1 v0 y b : Nat) (hy : 0 < y) :
    (n1 * b + v0) / y = n1 / y * b + (n1 % y * b + v0) / y ∧ (n1 * b + v0) % y = (n1 % y * b + v0) % y := by
  have e : n1 * b + v0 = y * (n1 / y * b) + (n1 % y * b + v0) := by
    have := Nat.div_add_mod n1 y
    conv => lhs; rw [← this]
    rw [Nat.add_mul, Nat.mul_assoc]
    omega
  rw [e]
  exact ⟨by rw [Nat.mul_add_div hy], by rw [Nat.mul_add_mod]⟩
theorem scaled (n y k : Nat) (hk : 0 < k) : (n * k) / (y * k) = n / y ∧ (n * k) % (y * k) / k = n % y := by
  refine ⟨Nat.mul_div_mul_right n y hk, ?_⟩
  rw [Nat.mul_mod_mul_right, Nat.mul_div_cancel _ hk]

/-- what a normalized division starts from -/
theorem norm (hi lo y s : Nat) (hs : s ≤ 63) (hy : hi < y) (hlo : lo < 18446744073709551616) (_ : 9223372036854775808 ≤ y * 2 ^ s) (h2 : y * 2 ^ s < 18446744073709551616) :
    IntKind.u64.wrap ((y : Int) * 2 ^ s) = ((y * 2 ^ s : Nat) : Int) ∧
    IntKind.u64.wrap ((hi : Int) * 2 ^ s) = ((hi * 2 ^ s : Nat) : Int) ∧
    IntKind.u64.wrap ((lo : Int) * 2 ^ s) = ((lo * 2 ^ s % 18446744073709551616 : Nat) : Int) ∧
    (lo : Int) / 2 ^ (64 - s) = ((lo / 2 ^ (64 - s) : Nat) : Int) ∧
    bits .or .u64 ((hi * 2 ^ s : Nat) : Int) ((lo / 2 ^ (64 - s) : Nat) : Int) = ((hi * 2 ^ s + lo / 2 ^ (64 - s) : Nat) : Int) ∧
    hi * 2 ^ s + lo / 2 ^ (64 - s) < y * 2 ^ s ∧
    (hi * 2 ^ s + lo / 2 ^ (64 - s)) * 18446744073709551616 + lo * 2 ^ s % 18446744073709551616 = (hi * 18446744073709551616 + lo) * 2 ^ s := by
  have c : ∀ x : Nat, (x : Int) * 2 ^ s = ((x * 2 ^ s : Nat) : Int) := fun x => by simp
  have hp : 2 ^ (64 - s) * 2 ^ s = 18446744073709551616 := by
    rw [← Nat.pow_add, Nat.sub_add_cancel (by omega)]
  have hl : lo / 2 ^ (64 - s) < 2 ^ s := by
    rw [Nat.div_lt_iff_lt_mul (Nat.two_pow_pos _), Nat.mul_comm, hp]; exact hlo
  have hle : (hi + 1) * 2 ^ s ≤ y * 2 ^ s := Nat.mul_le_mul_right _ hy
  rw [Nat.add_mul, Nat.one_mul] at hle
  have hor : hi * 2 ^ s ||| lo / 2 ^ (64 - s) = hi * 2 ^ s + lo / 2 ^ (64 - s) := by
    rw [Nat.mul_comm hi, ← Nat.two_pow_add_eq_or_of_lt hl]
  refine ⟨?_, ?_, ?_, ?_, ?_, by omega, ?_⟩
  · rw [c, wrapN _ h2]
  · rw [c, wrapN _ (Nat.lt_of_le_of_lt (Nat.le_trans (Nat.le_add_right _ _) hle) h2)]
  · rw [c, wrapM]
  · simp
  · have b1 : hi * 2 ^ s < 18446744073709551616 := Nat.lt_of_le_of_lt (Nat.le_trans (Nat.le_add_right _ _) hle) h2
    have b2 : lo / 2 ^ (64 - s) < 18446744073709551616 := Nat.lt_of_le_of_lt (Nat.div_le_self _ _) hlo
    rw [bits_or_u64_nat _ _ b1 b2, hor]
  · have hd : lo * 2 ^ s / 18446744073709551616 = lo / 2 ^ (64 - s) := by
      rw [← hp]; exact Nat.mul_div_mul_right lo (2 ^ (64 - s)) (Nat.two_pow_pos _)
    have hm := Nat.div_add_mod (lo * 2 ^ s) 18446744073709551616
    rw [hd] at hm
    rw [Nat.add_mul, Nat.add_mul, Nat.mul_right_comm hi]
    omega
/-- the start of a digit -/
theorem start (y1 y0 u : Nat) (hy1 : 2147483648 ≤ y1) (hy1' : y1 < 4294967296) (hy0 : y0 < 4294967296) (hu : u < y1 * 4294967296 + y0) :
    IntKind.u64.wrap ((u : Int) / (y1 : Int)) = ((u / y1 : Nat) : Int) ∧
    IntKind.u64.wrap ((u : Int) - IntKind.u64.wrap (((u / y1 : Nat) : Int) * (y1 : Int))) = ((u % y1 : Nat) : Int) ∧
    u / y1 * y1 + u % y1 = u ∧ u % y1 < y1 := by
  have hd := Nat.div_add_mod u y1
  rw [Nat.mul_comm] at hd
  have hl := Nat.mod_lt u (show 0 < y1 by omega)
  have hlt : u < 18446744073709551616 := by omega
  have hq : u / y1 ≤ u := Nat.div_le_self _ _
  refine ⟨?_, ?_, hd, hl⟩
  · rw [← Int.natCast_ediv, wrapN _ (by omega)]
  · rw [← Int.natCast_mul, IntKind.wrap_u64, IntKind.wrap_u64]; omega
/-- a digit is at least the true one at the start -/
theorem start_ge (y1 y0 u v b : Nat) (hb : 0 < b) (hy1 : 0 < y1) (hv : v < b) : (u * b + v) / (y1 * b + y0) ≤ u / y1 := by
  have h1 : (u * b + v) / (y1 * b + y0) ≤ (u * b + v) / (y1 * b) := Nat.div_le_div_left (by omega) (Nat.mul_pos hy1 hb)
  have h2 : (u * b + v) / (y1 * b) = u / y1 := by
    rw [Nat.mul_comm y1 b, ← Nat.div_div_eq_div_mul, Nat.add_comm, Nat.add_mul_div_right _ _ hb, Nat.div_eq_of_lt hv, Nat.zero_add]
  omega
/-- what is left behind a digit -/
theorem left (u v Y q : Nat) (hY : 0 < Y) (hY2 : Y < 18446744073709551616) (hq : q = (u * 4294967296 + v) / Y) :
    IntKind.u64.wrap (IntKind.u64.wrap (IntKind.u64.wrap ((u : Int) * 4294967296) + (v : Int)) - IntKind.u64.wrap ((q : Int) * (Y : Int))) = (((u * 4294967296 + v) % Y : Nat) : Int) := by
  have hd := Nat.div_add_mod (u * 4294967296 + v) Y
  have hl := Nat.mod_lt (u * 4294967296 + v) hY
  rw [← hq, Nat.mul_comm] at hd
  rw [← Int.natCast_mul q Y]
  simp only [IntKind.wrap_u64]
  omega
/-- the whole of it -/
theorem whole (N s y U T V1 V0 Y : Nat) (hy : 0 < y) (hY : Y = y * 2 ^ s) (hN : U * 18446744073709551616 + T = N * 2 ^ s) (hT : T = V1 * 4294967296 + V0) :
    N / y = (U * 4294967296 + V1) / Y * 4294967296 + ((U * 4294967296 + V1) % Y * 4294967296 + V0) / Y ∧
    N % y = ((U * 4294967296 + V1) % Y * 4294967296 + V0) % Y / 2 ^ s := by
  have hp := Nat.two_pow_pos s
  have hYp : 0 < Y := by rw [hY]; exact Nat.mul_pos hy hp
  obtain ⟨a, b⟩ := scaled N y (2 ^ s) hp
  obtain ⟨c, d⟩ := two_digits (U * 4294967296 + V1) V0 Y 4294967296 hYp
  have e : N * 2 ^ s = (U * 4294967296 + V1) * 4294967296 + V0 := by omega
  rw [← a, ← b, ← hY, e, c, d]
  exact ⟨rfl, rfl⟩
/-- the quotient's word -/
theorem quo (q1 q0 : Nat) (h1 : q1 < 4294967296) (h0 : q0 < 4294967296) : IntKind.u64.wrap (IntKind.u64.wrap ((q1 : Int) * 4294967296) + (q0 : Int)) = ((q1 * 4294967296 + q0 : Nat) : Int) := by
  simp only [IntKind.wrap_u64]; omega
/-- how far a number is shifted -/
theorem shift (y b : Nat) (h1 : 1 ≤ b) (h2 : b ≤ 64) (hlo : 2 ^ (b - 1) ≤ y) (hhi : y < 2 ^ b) :
    9223372036854775808 ≤ y * 2 ^ (64 - b) ∧ y * 2 ^ (64 - b) < 18446744073709551616 := by
  have a : 2 ^ (b - 1) * 2 ^ (64 - b) ≤ y * 2 ^ (64 - b) := Nat.mul_le_mul_right _ hlo
  have c : y * 2 ^ (64 - b) < 2 ^ b * 2 ^ (64 - b) := Nat.mul_lt_mul_of_pos_right hhi (Nat.two_pow_pos _)
  rw [← Nat.pow_add] at a c
  rw [show b - 1 + (64 - b) = 63 by omega] at a
  rw [show b + (64 - b) = 64 by omega] at c
  exact ⟨by simpa using a, by simpa using c⟩
end Dv
end Go.Proofs.Ytbodidhggdggmaa
-- @@XDiv
/- bits.Div64: the long division of two words by one. -/
namespace Go.Proofs.Ytbodidhggdggmaa
open Go.RowKit

theorem below_drewN (w : World) : ∀ n : Nat, Below w.heap.size w (w.drewN n)
  | 0 => Below.refl _ _
  | n + 1 => (below_drewN w n).drew

theorem nat_at {a : Nat} {x : Int} (h : x = (a : Int)) : x = (a : Int) := h

end Go.Proofs.Ytbodidhggdggmaa
-- @@XExP
/- Plain arithmetic of exact numbers: floors, ratios. No program in sight. -/
namespace Go.Proofs.Ytbodidhggdggmaa
namespace Ex
def fitI (n : Int) : Option Int := if -9223372036854775808 ≤ n ∧ n ≤ 9223372036854775807 then some n else none
def sg (neg : Bool) (n : Nat) : Int := if neg then -(n : Int) else n
theorem ediv_of {a b q r : Int} (hb : 0 < b) (h1 : r + b * q = a) (h2 : 0 ≤ r) (h3 : r < b) : a / b = q :=
  ((Int.ediv_emod_unique hb).2 ⟨h1, h2, h3⟩).1
/-- the quotient of sizes, and one more where it is negative and something is left -/
theorem sg_floor (neg : Bool) (n c : Nat) (hc : 0 < c) :
    sg neg (n / c + if neg = true ∧ n % c ≠ 0 then 1 else 0) = sg neg n / (c : Int) := by
  have h := Nat.div_add_mod n c
  have hl := Nat.mod_lt n hc
  have h' : (c : Int) * ((n / c : Nat) : Int) + ((n % c : Nat) : Int) = (n : Int) := by exact_mod_cast h
  cases neg with
  | false => simp [sg]
  | true =>
    symm
    by_cases hz : n % c = 0
    · simp only [sg, hz, if_true, ne_eq, not_true_eq_false, and_false, if_false, Nat.add_zero]
      refine ediv_of (r := 0) (by omega) ?_ (by omega) (by omega)
      rw [hz] at h'
      rw [Int.mul_neg]
      omega
    · simp only [sg, hz, if_true, ne_eq, not_false_eq_true, and_self]
      refine ediv_of (r := (c : Int) - ((n % c : Nat) : Int)) (by omega) ?_ (by omega) (by omega)
      rw [Int.mul_neg, Int.natCast_add, Int.mul_add]
      simp only [Int.natCast_one, Int.mul_one]
      omega
/-- the sign of a product -/
theorem sg_mul (a b : Int) (neg : Bool) (h : neg = true → a < 0 ∧ 0 ≤ b ∨ 0 ≤ a ∧ b < 0) (h' : neg = false → a < 0 ∧ b < 0 ∨ 0 ≤ a ∧ 0 ≤ b ∨ a = 0 ∨ b = 0) :
    sg neg (a.natAbs * b.natAbs) = a * b := by
  cases neg with
  | true =>
    have := h rfl
    rcases this with ⟨h1, h2⟩ | ⟨h1, h2⟩
    · simp only [sg, if_true, Int.natCast_mul]
      rw [show ((a.natAbs : Nat) : Int) = -a by omega, show ((b.natAbs : Nat) : Int) = b by omega, Int.neg_mul, Int.neg_neg]
    · simp only [sg, if_true, Int.natCast_mul]
      rw [show ((a.natAbs : Nat) : Int) = a by omega, show ((b.natAbs : Nat) : Int) = -b by omega, Int.mul_neg, Int.neg_neg]
  | false =>
    simp only [sg, Bool.false_eq_true, if_false, Int.natCast_mul]
    rcases h' rfl with ⟨h1, h2⟩ | ⟨h1, h2⟩ | h1 | h1
    · rw [show ((a.natAbs : Nat) : Int) = -a by omega, show ((b.natAbs : Nat) : Int) = -b by omega, Int.neg_mul_neg]
    · rw [show ((a.natAbs : Nat) : Int) = a by omega, show ((b.natAbs : Nat) : Int) = b by omega]
    · subst h1; simp
    · subst h1; simp
/-- a quotient of two numbers by their sizes -/
theorem sg_fdiv (a b : Int) (hb : b ≠ 0) (neg : Bool) (h : neg = true → a < 0 ∧ 0 ≤ b ∨ 0 ≤ a ∧ b < 0) (h' : neg = false → a < 0 ∧ b < 0 ∨ 0 ≤ a ∧ 0 ≤ b ∨ a = 0) :
    sg neg a.natAbs / (b.natAbs : Int) = Int.fdiv a b := by
  have hb' : (0 : Int) < (b.natAbs : Int) := by omega
  rw [← Int.fdiv_eq_ediv_of_nonneg _ (by omega)]
  have key : ∀ x : Int, Int.fdiv (-x) (-b) = Int.fdiv x b := fun x => Int.neg_fdiv_neg x b
  by_cases hs : b < 0
  · have e : (b.natAbs : Int) = -b := by omega
    rw [e]
    cases neg with
    | true =>
      simp only [sg, if_true]
      rcases h rfl with ⟨h1, h2⟩ | ⟨h1, h2⟩
      · omega
      · rw [show ((a.natAbs : Nat) : Int) = a by omega]; exact key a
    | false =>
      simp only [sg, Bool.false_eq_true, if_false]
      rcases h' rfl with ⟨h1, h2⟩ | ⟨h1, h2⟩ | h1
      · rw [show ((a.natAbs : Nat) : Int) = -a by omega]; exact key a
      · omega
      · subst h1; simp
  · have e : (b.natAbs : Int) = b := by omega
    rw [e]
    cases neg with
    | true =>
      simp only [sg, if_true]
      rcases h rfl with ⟨h1, h2⟩ | ⟨h1, h2⟩
      · rw [show -((a.natAbs : Nat) : Int) = a by omega]
      · omega
    | false =>
      simp only [sg, Bool.false_eq_true, if_false]
      rcases h' rfl with ⟨h1, h2⟩ | ⟨h1, h2⟩ | h1
      · omega
      · rw [show ((a.natAbs : Nat) : Int) = a by omega]
      · subst h1; simp
/-! ## ratios -/
def fitR (q : Rat) : Option (Int × Int) :=
  if -9223372036854775808 ≤ q.num ∧ q.num ≤ 9223372036854775807 ∧ (q.den : Int) ≤ 9223372036854775807 then some (q.num, q.den) else none
/-- a ratio as a rational number -/
def rat (n d : Int) : Rat := mkRat n d.toNat
theorem rat_num_den (n d : Int) (hd : 1 ≤ d) : (rat n d).num = n / (Nat.gcd n.natAbs d.natAbs : Nat) ∧ (rat n d).den = d.natAbs / Nat.gcd n.natAbs d.natAbs := by
  have e : d.toNat = d.natAbs := by omega
  have hz : d.natAbs ≠ 0 := by omega
  unfold rat mkRat
  rw [e, dif_neg hz, Rat.normalize_eq hz]
  exact ⟨rfl, rfl⟩
/-! ## what the functions compute -/
def floS (a b : Int) : Option Int := if b = 0 then none else fitI (Int.fdiv a b)
def mdS (a b c : Int) : Option Int := if c < 1 then none else fitI (a * b / c)
/-- the quotient of sizes, with one more where something is left below zero -/
def up (neg : Bool) (n c : Nat) : Nat := n / c + if neg = true ∧ n % c ≠ 0 then 1 else 0
theorem up_false (n c : Nat) : up false n c = n / c := by simp [up]
theorem up_true0 (n c : Nat) (h : n % c = 0) : up true n c = n / c := by simp [up, h]
theorem up_true1 (n c : Nat) (h : n % c ≠ 0) : up true n c = n / c + 1 := by simp [up, h]
theorem flo_up (a b : Int) (hb : b ≠ 0) (neg : Bool) (h : neg = true → a < 0 ∧ 0 ≤ b ∨ 0 ≤ a ∧ b < 0) (h' : neg = false → a < 0 ∧ b < 0 ∨ 0 ≤ a ∧ 0 ≤ b ∨ a = 0) :
    fitI (sg neg (up neg a.natAbs b.natAbs)) = floS a b := by
  unfold floS up
  rw [if_neg hb, sg_floor neg _ _ (by omega), sg_fdiv a b hb neg h h']
theorem md_up (a b : Int) (c : Nat) (hc : 1 ≤ c) (neg : Bool) (h : neg = true → a < 0 ∧ 0 ≤ b ∨ 0 ≤ a ∧ b < 0) (h' : neg = false → a < 0 ∧ b < 0 ∨ 0 ≤ a ∧ 0 ≤ b ∨ a = 0 ∨ b = 0) :
    fitI (sg neg (up neg (a.natAbs * b.natAbs) c)) = mdS a b c := by
  unfold mdS up
  rw [if_neg (show ¬ ((c : Nat) : Int) < 1 by omega), sg_floor neg _ _ (by omega), sg_mul a b neg h h']
end Ex
end Go.Proofs.Ytbodidhggdggmaa
-- @@XWide
/- The program's numbers of two words: sign, size, number, times, compare, plus, minus, over, gcd. -/
namespace Go.Proofs.Ytbodidhggdggmaa
open Go.RowKit

def hiW (n : Nat) : Int := ((n / 18446744073709551616 : Nat) : Int)
def loW (n : Nat) : Int := ((n % 18446744073709551616 : Nat) : Int)
def valI (o : Option Int) : Int := o.getD 0
def okI (o : Option Int) : Bool := o.isSome

theorem hiW_def (n : Nat) : hiW n = ((n / 18446744073709551616 : Nat) : Int) := rfl
theorem loW_def (n : Nat) : loW n = ((n % 18446744073709551616 : Nat) : Int) := rfl

theorem sign_any (n : Int) (w : World) :
    Calls Try.prog 87 #[.int .i64 n] w fun e w' => e = .returned (.int .i64 (cmpI n 0)) ∧ w' = w := by
  go_enter Try.func87, Try.ntmps87
  go_wp2_with (go_at_call 91; refine (cmp_int _ _ _).mono ?_; rintro e w' ⟨rfl, rfl⟩)
  go_ret
  exact ⟨rfl, rfl⟩

theorem esize_any (n : Int) (w : World) (hn : I64 n) :
    Calls Try.prog 85 #[.int .i64 n] w fun e w' => e = .returned (.int .u64 n.natAbs) ∧ w' = w := by
  obtain ⟨h1, h2⟩ := hn
  go_enter Try.func85, Try.ntmps85
  go_wp2
  all_goals go_ret
  · exact ⟨ret1 (int_eq (size_plain n h1 (by assumption))), rfl⟩
  · exact ⟨ret1 (int_eq (by omega)), rfl⟩

theorem whole_fit (neg : Bool) (hi lo : Int) (n : Nat) (h1 : hi = hiW n) (h2 : lo = loW n) :
    wholeI neg hi lo = (valI (Ex.fitI (Ex.sg neg n)), okI (Ex.fitI (Ex.sg neg n))) := by
  subst h1; subst h2
  unfold wholeI Ex.fitI Ex.sg valI okI hiW loW
  cases neg
  · simp only [Bool.false_eq_true, if_false]
    by_cases h : (n : Int) ≤ 9223372036854775807
    · rw [if_pos (by omega), if_pos (by omega)]; simp; omega
    · rw [if_neg (by omega), if_neg (by omega)]; simp
  · simp only [if_true]
    by_cases h : (n : Int) ≤ 9223372036854775808
    · rw [if_pos (by omega), if_pos (by omega)]; simp; omega
    · rw [if_neg (by omega), if_neg (by omega)]; simp

theorem rwhole_any (neg : Bool) (hi lo : Int) (n : Nat) (w : World) (h1 : hi = hiW n) (h2 : lo = loW n) :
    Calls Try.prog 74 #[.bool neg, .agg #[.int .u64 hi, .int .u64 lo]] w fun e w' => e = .returned (.tuple #[.int .i64 (valI (Ex.fitI (Ex.sg neg n))), .bool (okI (Ex.fitI (Ex.sg neg n)))]) ∧ Below w.heap.size w w' := by
  refine (whole_any neg hi lo w (by subst h2; unfold loW; omega)).mono ?_
  rintro e w' ⟨rfl, hb⟩
  rw [whole_fit neg hi lo n h1 h2]
  exact ⟨rfl, hb⟩

set_option maxHeartbeats 1000000 in
theorem number0 (neg : Bool) (hi lo : Int) (w : World) (h0 : 0 ≤ lo) (h1 : 0 ≤ hi) (h2 : lo < 18446744073709551616) :
    Calls Try.prog 90 #[.agg #[.int .u64 hi, .int .u64 lo], .bool neg] w fun e w' => e = .returned (.tuple #[.int .i64 (wholeI neg hi lo).1, .bool (wholeI neg hi lo).2]) ∧ Below w.heap.size w w' := by
  by_cases c1 : hi = 0
  · subst c1
    by_cases c2 : 9223372036854775808 < lo
    · have hw : wholeI neg 0 lo = (0, false) := by unfold wholeI; rw [if_neg (by cases neg <;> simp <;> omega)]
      rw [hw]
      have t1 : decide (9223372036854775808 < lo) = true := by simpa using c2
      go_enter Try.func90, Try.ntmps90
      go_wp2
      go_ret2
      exact ⟨rfl, (Below.refl _ _).alloc (Nat.le_refl _) _⟩
    · have t1 : decide (9223372036854775808 < lo) = false := by simpa using c2
      by_cases c3 : lo = 9223372036854775808
      · have t2 : (lo == 9223372036854775808) = true := by simpa using c3
        cases neg
        · have hw : wholeI false 0 lo = (0, false) := by unfold wholeI; rw [if_neg (by simp; omega)]
          rw [hw]
          replace c3 := hide c3
          go_enter Try.func90, Try.ntmps90
          go_wp2
          go_ret2
          exact ⟨rfl, (Below.refl _ _).alloc (Nat.le_refl _) _⟩
        · have hw : wholeI true 0 lo = (-lo, true) := wholeI_neg (by omega)
          rw [hw]
          replace c3 := hide c3
          go_enter Try.func90, Try.ntmps90
          go_wp2
          go_ret2
          have c3 := unhide c3
          exact ⟨ret2 (int_eq (by subst c3; unfold wrap64; simp only [IntKind.wrap_u64]; omega)) rfl, (Below.refl _ _).alloc (Nat.le_refl _) _⟩
      · have t2 : (lo == 9223372036854775808) = false := by simpa using c3
        have hl : lo ≤ 9223372036854775807 := by omega
        cases neg
        · rw [wholeI_pos hl]
          clear c2 c3
          go_enter Try.func90, Try.ntmps90
          go_wp2
          go_ret2
          exact ⟨ret2 (int_eq (by first | rfl | (unfold wrap64; omega))) rfl, (Below.refl _ _).alloc (Nat.le_refl _) _⟩
        · rw [wholeI_neg (lo := lo) (by omega)]
          clear c2 c3
          go_enter Try.func90, Try.ntmps90
          go_wp2
          go_ret2
          exact ⟨ret2 (int_eq (by first | rfl | (unfold wrap64; simp only [IntKind.wrap_u64]; omega))) rfl, (Below.refl _ _).alloc (Nat.le_refl _) _⟩
  · have hw : wholeI neg hi lo = (0, false) := by unfold wholeI; rw [if_neg (by omega)]
    rw [hw]
    have t1 : (hi != 0) = true := by simpa using c1
    go_enter Try.func90, Try.ntmps90
    go_wp2
    go_ret2
    exact ⟨rfl, (Below.refl _ _).alloc (Nat.le_refl _) _⟩

theorem number_any (neg : Bool) (hi lo : Int) (n : Nat) (w : World) (h1 : hi = hiW n) (h2 : lo = loW n) :
    Calls Try.prog 90 #[.agg #[.int .u64 hi, .int .u64 lo], .bool neg] w fun e w' => e = .returned (.tuple #[.int .i64 (valI (Ex.fitI (Ex.sg neg n))), .bool (okI (Ex.fitI (Ex.sg neg n)))]) ∧ Below w.heap.size w w' := by
  refine (number0 neg hi lo w (by subst h2; unfold loW; omega) (by subst h1; unfold hiW; omega) (by subst h2; unfold loW; omega)).mono ?_
  rintro e w' ⟨rfl, hb⟩
  rw [whole_fit neg hi lo n h1 h2]
  exact ⟨rfl, hb⟩

theorem times_any (a b : Nat) (x y : Int) (w : World) (hx : x = a) (hy : y = b) (ha : a < 18446744073709551616) (hb : b < 18446744073709551616) :
    Calls Try.prog 88 #[.int .u64 x, .int .u64 y] w fun e w' => e = .returned (.agg #[.int .u64 (hiW (a * b)), .int .u64 (loW (a * b))]) ∧ Below w.heap.size w w' := by
  subst hx; subst hy
  have hm := mul64_any a b ha hb
  simp only [← hiW_def, ← loW_def] at hm
  clear ha hb
  go_enter Try.func88, Try.ntmps88
  go_wp2_with fail
  refine (hm _).mono ?_
  rintro e w1 ⟨rfl, rfl⟩
  go_wp2_with fail
  exact bodyPost_ret (v := .agg #[.int .u64 (hiW (a * b)), .int .u64 (loW (a * b))]) (by simp [results, Try.results88, go_sem]) rfl ⟨rfl, by first | exact ((Below.refl _ _).alloc (Nat.le_refl _) _) | exact (((Below.refl _ _).alloc (Nat.le_refl _) _).setCell (by simp) _)⟩

end Go.Proofs.Ytbodidhggdggmaa
-- @@XWide2
/- Numbers of two words, further: compare, plus, minus, over, gcd; the reference's. -/
namespace Go.Proofs.Ytbodidhggdggmaa
open Go.RowKit

theorem cmp_hi_ne {m n : Nat} (h : hiW m < hiW n ∨ hiW n < hiW m) : cmpI (hiW m) (hiW n) = cmpI m n := by
  unfold cmpI hiW at *
  rcases h with h | h
  · rw [if_pos h, if_pos (by omega)]
  · rw [if_neg (by omega), if_pos h, if_neg (by omega), if_pos (by omega)]
theorem cmp_hi_eq {m n : Nat} (h : hiW m = hiW n) : cmpI (loW m) (loW n) = cmpI m n := by
  unfold cmpI hiW loW at *
  by_cases h1 : m < n
  · rw [if_pos (by omega), if_pos (by omega)]
  · by_cases h2 : n < m
    · rw [if_neg (by omega), if_pos (by omega), if_neg (by omega), if_pos (by omega)]
    · rw [if_neg (by omega), if_neg (by omega), if_neg (by omega), if_neg (by omega)]
theorem cmp_ne {x y : Int} (h : x < y ∨ y < x) : (cmpI x y == 0) = false ∧ (cmpI x y != 0) = true := by
  unfold cmpI
  rcases h with h | h
  · rw [if_pos h]; exact ⟨rfl, rfl⟩
  · rw [if_neg (by omega), if_pos h]; exact ⟨rfl, rfl⟩
theorem cmp_eq (x : Int) : (cmpI x x == 0) = true ∧ (cmpI x x != 0) = false := by
  unfold cmpI
  rw [if_neg (by omega), if_neg (by omega)]; exact ⟨rfl, rfl⟩

theorem low_of (s t : Nat) (h : t < 18446744073709551616) : (s * 18446744073709551616 + t) % 18446744073709551616 = t := by omega
theorem high_of (s t : Nat) (h : t < 18446744073709551616) : (s * 18446744073709551616 + t) / 18446744073709551616 = s := by omega
end Go.Proofs.Ytbodidhggdggmaa
-- @@XWide3
/- Greatest common divisors, the program's two and the reference's. -/
namespace Go.Proofs.Ytbodidhggdggmaa
open Go.RowKit

theorem gcd_step (x y : Nat) : Nat.gcd y (x % y) = Nat.gcd x y := by rw [Nat.gcd_comm x y, Nat.gcd_rec y x, Nat.gcd_comm]
theorem gcd_step_int (x y : Int) : Nat.gcd y.natAbs (x.tmod y).natAbs = Nat.gcd x.natAbs y.natAbs := by
  rw [Int.natAbs_tmod]; exact gcd_step _ _

set_option maxHeartbeats 1000000 in
theorem gcd_u64 (a b : Nat) (w : World) :
    Calls Try.prog 84 #[.int .u64 a, .int .u64 b] w fun e w' => e = .returned (.int .u64 ((Nat.gcd a b : Nat) : Int)) ∧ ∃ n, w' = w.drewN n := by
  go_enter Try.func84, Try.ntmps84
  go_wp2
  go_loopw [0, 1] (fun p q wr => ∃ x y n : Nat, p = .int .u64 (x : Int) ∧ q = .int .u64 (y : Int) ∧ Nat.gcd x y = Nat.gcd a b ∧ wr = w.drewN n) (fun _ q _ => (intOf q).toNat)
  case atStart => exact ⟨a, b, 0, rfl, rfl, rfl, rfl⟩
  case round =>
    obtain ⟨x, y, n, rfl, rfl, hg, rfl⟩ := hrel
    by_cases hy : y = 0
    · subst hy
      have hg := hide hg
      go_wp2
      go_ret
      exact ⟨ret1 (int_eq (by rw [← unhide hg]; simp)), n, rfl⟩
    · have z1 : ¬ ((y : Nat) : Int) = 0 := by omega
      have z2 : ¬ (y : Nat) = 0 := by omega
      have t1 : (((y : Nat) : Int) != 0) = true := by simpa using hy
      have q2 : (x : Int).tmod (y : Int) = ((x % y : Nat) : Int) := by
        rw [Int.tmod_eq_emod_of_nonneg (by omega), ← Int.natCast_emod]
      have hg2 : Nat.gcd y (x % y) = Nat.gcd a b := (gcd_step x y).trans hg
      have hlt : x % y < y := Nat.mod_lt _ (by omega)
      obtain ⟨z, hz⟩ : ∃ z, z = x % y := ⟨_, rfl⟩
      rw [← hz] at hg2 q2 hlt
      replace hg2 := hide hg2
      clear hg hz
      have q3 : (x : Int) % (y : Int) = (z : Int) := by rw [← q2, Int.tmod_eq_emod_of_nonneg (by omega)]
      go_wp2
      go_quiet (fail)
      go_wp2
      go_roundw
      case rel => exact ⟨y, z, n + nq, rfl, rfl, unhide hg2, by simp only [World.drewN_drewN]⟩
      case measure => simp [intOf]; omega

set_option maxHeartbeats 1000000 in
theorem rgcd_any (a b : Nat) (w : World) :
    Calls Try.prog 72 #[.int .u64 a, .int .u64 b] w fun e w' => e = .returned (.int .u64 ((Nat.gcd a b : Nat) : Int)) ∧ ∃ n, w' = w.drewN n := by
  go_enter Try.func72, Try.ntmps72
  go_wp2
  go_loopw [0, 1] (fun p q wr => ∃ x y n : Nat, p = .int .u64 (x : Int) ∧ q = .int .u64 (y : Int) ∧ Nat.gcd x y = Nat.gcd a b ∧ wr = w.drewN n) (fun _ q _ => (intOf q).toNat)
  case atStart => exact ⟨a, b, 0, rfl, rfl, rfl, rfl⟩
  case round =>
    obtain ⟨x, y, n, rfl, rfl, hg, rfl⟩ := hrel
    by_cases hy : y = 0
    · subst hy
      have hg := hide hg
      go_wp2
      go_ret
      exact ⟨ret1 (int_eq (by rw [← unhide hg]; simp)), n, rfl⟩
    · have z1 : ¬ ((y : Nat) : Int) = 0 := by omega
      have z2 : ¬ (y : Nat) = 0 := by omega
      have t1 : (((y : Nat) : Int) != 0) = true := by simpa using hy
      have q2 : (x : Int).tmod (y : Int) = ((x % y : Nat) : Int) := by
        rw [Int.tmod_eq_emod_of_nonneg (by omega), ← Int.natCast_emod]
      have hg2 : Nat.gcd y (x % y) = Nat.gcd a b := (gcd_step x y).trans hg
      have hlt : x % y < y := Nat.mod_lt _ (by omega)
      obtain ⟨z, hz⟩ : ∃ z, z = x % y := ⟨_, rfl⟩
      rw [← hz] at hg2 q2 hlt
      replace hg2 := hide hg2
      clear hg hz
      have q3 : (x : Int) % (y : Int) = (z : Int) := by rw [← q2, Int.tmod_eq_emod_of_nonneg (by omega)]
      go_wp2
      go_quiet (fail)
      go_wp2
      go_roundw
      case rel => exact ⟨y, z, n + nq, rfl, rfl, unhide hg2, by simp only [World.drewN_drewN]⟩
      case measure => simp [intOf]; omega

set_option maxHeartbeats 1000000 in
theorem gcd_int (a b : Int) (w : World) :
    Calls Try.prog 89 #[.int .i64 a, .int .i64 b] w fun e w' => ∃ g : Int, g.natAbs = Nat.gcd a.natAbs b.natAbs ∧ e = .returned (.int .i64 g) ∧ ∃ n, w' = w.drewN n := by
  go_enter Try.func89, Try.ntmps89
  go_wp2
  go_loopw [0, 1] (fun p q wr => ∃ (x y : Int) (n : Nat), p = .int .i64 x ∧ q = .int .i64 y ∧ Nat.gcd x.natAbs y.natAbs = Nat.gcd a.natAbs b.natAbs ∧ wr = w.drewN n) (fun _ q _ => (intOf q).natAbs)
  case atStart => exact ⟨a, b, 0, rfl, rfl, rfl, rfl⟩
  case round =>
    obtain ⟨x, y, n, rfl, rfl, hg, rfl⟩ := hrel
    by_cases hy : y = 0
    · subst hy
      have hg := hide hg
      go_wp2
      go_ret
      exact ⟨_, by rw [← unhide hg]; simp, rfl, n, rfl⟩
    · have z1 : ¬ y = 0 := hy
      have t1 : (y != 0) = true := by simpa using hy
      have hg2 : Nat.gcd y.natAbs (x.tmod y).natAbs = Nat.gcd a.natAbs b.natAbs := (gcd_step_int x y).trans hg
      have hlt : (x.tmod y).natAbs < y.natAbs := by
        rw [Int.natAbs_tmod]; exact Nat.mod_lt _ (by omega)
      obtain ⟨z, hz⟩ : ∃ z, x.tmod y = z := ⟨_, rfl⟩
      rw [hz] at hg2 hlt
      replace hg2 := hide hg2
      clear hg
      go_wp2
      go_quiet (fail)
      go_wp2
      go_roundw
      case rel => exact ⟨y, z, n + nq, rfl, rfl, unhide hg2, by simp only [World.drewN_drewN]⟩
      case measure => simp [intOf]; omega
end Go.Proofs.Ytbodidhggdggmaa
-- @@XRef1
/- The reference's numbers of two words: product, less, plus, minus. -/
namespace Go.Proofs.Ytbodidhggdggmaa
open Go.RowKit

set_option maxHeartbeats 2000000 in
theorem product_any (x y : Nat) (a b : Int) (hxa : a = x) (hyb : b = y) (hx : x < 18446744073709551616) (hy : y < 18446744073709551616) (w : World) :
    Calls Try.prog 75 #[.int .u64 a, .int .u64 b] w fun e w' => e = .returned (.agg #[.int .u64 (hiW (x * y)), .int .u64 (loW (x * y))]) ∧ Below w.heap.size w w' := by
  subst hxa; subst hyb
  obtain ⟨bd, bt, bw, hhi⟩ := Lib.mul64_hi x y hx hy
  have ba := Lib.half_mul_le (a := x / 4294967296) (b := y / 4294967296) (by omega) (by omega)
  have bb := Lib.half_mul_le (a := x / 4294967296) (b := y % 4294967296) (by omega) (by omega)
  have bc := Lib.half_mul_le (a := x % 4294967296) (b := y / 4294967296) (by omega) (by omega)
  -- the parts under names
  have m1 := Num.maskN x hx
  have m2 := Num.maskN y hy
  have d1 := Num.divN x
  have d2 := Num.divN y
  obtain ⟨x1, hx1⟩ : ∃ x1, x1 = x / 4294967296 := ⟨_, rfl⟩
  obtain ⟨x0, hx0⟩ : ∃ x0, x0 = x % 4294967296 := ⟨_, rfl⟩
  obtain ⟨y1, hy1⟩ : ∃ y1, y1 = y / 4294967296 := ⟨_, rfl⟩
  obtain ⟨y0, hy0⟩ : ∃ y0, y0 = y % 4294967296 := ⟨_, rfl⟩
  rw [← hx0] at m1; rw [← hy0] at m2; rw [← hx1] at d1; rw [← hy1] at d2
  rw [← hx1, ← hx0, ← hy0] at bt
  rw [← hx1, ← hx0, ← hy1, ← hy0] at bw hhi
  rw [← hx0, ← hy0] at bd
  rw [← hx1, ← hy1] at ba
  rw [← hx1, ← hy0] at bb
  rw [← hx0, ← hy1] at bc
  have n1 : IntKind.u64.wrap ((x1 : Int) * (y0 : Int)) = ((x1 * y0 : Nat) : Int) := by rw [Num.mulN, Num.wrapN _ (by omega)]
  have n2 : IntKind.u64.wrap ((x0 : Int) * (y0 : Int)) = ((x0 * y0 : Nat) : Int) := by rw [Num.mulN, Num.wrapN _ (by omega)]
  have n3 : IntKind.u64.wrap ((x0 : Int) * (y1 : Int)) = ((x0 * y1 : Nat) : Int) := by rw [Num.mulN, Num.wrapN _ (by omega)]
  have n4 : IntKind.u64.wrap ((x1 : Int) * (y1 : Int)) = ((x1 * y1 : Nat) : Int) := by rw [Num.mulN, Num.wrapN _ (by omega)]
  have n5 : IntKind.u64.wrap ((x : Int) * (y : Int)) = loW (x * y) := by rw [Num.mulN, Num.wrapM]; rfl
  obtain ⟨p, hp⟩ : ∃ p, p = x1 * y0 := ⟨_, rfl⟩
  obtain ⟨q, hq⟩ : ∃ q, q = x0 * y0 := ⟨_, rfl⟩
  obtain ⟨r, hr⟩ : ∃ r, r = x0 * y1 := ⟨_, rfl⟩
  obtain ⟨s, hs⟩ : ∃ s, s = x1 * y1 := ⟨_, rfl⟩
  rw [← hp] at n1 bt bw hhi bb
  rw [← hq] at n2 bt bw hhi bd
  rw [← hr] at n3 bw hhi bc
  rw [← hs] at n4 hhi ba
  have d3 := Num.divN q
  have m3 : IntKind.u64.wrap ((p : Int) + ((q / 4294967296 : Nat) : Int)) = ((p + q / 4294967296 : Nat) : Int) := by rw [Num.addN, Num.wrapN _ bt]
  have m4 := Num.maskN _ bt
  have d4 := Num.divN (p + q / 4294967296)
  obtain ⟨q1, hq1⟩ : ∃ q1, q1 = q / 4294967296 := ⟨_, rfl⟩
  rw [← hq1] at d3 m3 m4 d4 hhi bw
  obtain ⟨mid, hmid⟩ : ∃ mid, mid = p + q1 := ⟨_, rfl⟩
  rw [← hmid] at m3 m4 d4 hhi bw
  obtain ⟨mh, hmh⟩ : ∃ mh, mh = mid / 4294967296 := ⟨_, rfl⟩
  obtain ⟨ml, hml⟩ : ∃ ml, ml = mid % 4294967296 := ⟨_, rfl⟩
  rw [← hmh] at d4 hhi
  rw [← hml] at m4 hhi bw
  have m5 : IntKind.u64.wrap ((r : Int) + (ml : Int)) = ((ml + r : Nat) : Int) := by rw [Num.addN, Nat.add_comm, Num.wrapN _ bw]
  have d5 := Num.divN (ml + r)
  obtain ⟨more, hmore⟩ : ∃ more, more = ml + r := ⟨_, rfl⟩
  rw [← hmore] at m5 d5 hhi
  obtain ⟨mm, hmm⟩ : ∃ mm, mm = more / 4294967296 := ⟨_, rfl⟩
  rw [← hmm] at d5 hhi
  have hlt : x * y / 18446744073709551616 < 18446744073709551616 := by
    rw [Nat.div_lt_iff_lt_mul (by omega)]
    exact Nat.mul_lt_mul_of_lt_of_lt hx hy
  rw [← hhi] at hlt
  have m6 : IntKind.u64.wrap ((s : Int) + (mh : Int)) = ((s + mh : Nat) : Int) := by rw [Num.addN, Num.wrapN _ (by omega)]
  have m7 : IntKind.u64.wrap (((s + mh : Nat) : Int) + (mm : Int)) = hiW (x * y) := by rw [Num.addN, Num.wrapN _ hlt, hhi]; rfl
  obtain ⟨u, hu⟩ : ∃ u, u = s + mh := ⟨_, rfl⟩
  rw [← hu] at m6 m7
  clear hlt hu hhi hmm hmore hml hmh hmid hq1 bw bt bd bb ba bc hp hq hr hs hx0 hx1 hy0 hy1 hx hy
  go_enter Try.func75, Try.ntmps75
  go_wp2
  refine bodyPost_ret (v := .agg #[.int .u64 (hiW (x * y)), .int .u64 (loW (x * y))]) (by simp [results, Try.results75, go_sem]) rfl ⟨rfl, ?_⟩
  first | exact ((Below.refl _ _).alloc (Nat.le_refl _) _) | exact (((Below.refl _ _).alloc (Nat.le_refl _) _).setCell (by simp) _)

end Go.Proofs.Ytbodidhggdggmaa
-- @@XDivB
/- Plain arithmetic of a division bit by bit. No program in sight. -/
namespace Go.Proofs.Ytbodidhggdggmaa
namespace Db
theorem and_pow (a i : Nat) (ha : a < 18446744073709551616) (hi : i < 64) : bits .and .u64 (a : Int) ((2 ^ i : Nat) : Int) = ((a / 2 ^ i % 2 * 2 ^ i : Nat) : Int) := by
  have hp : 2 ^ i < 18446744073709551616 := Nat.pow_lt_pow_right (by omega) hi
  rw [bits_and_u64_nat a _ ha hp]
  refine congrArg _ (Nat.eq_of_testBit_eq fun k => ?_)
  rw [Nat.testBit_and, Nat.testBit_two_pow, Nat.testBit_mul_two_pow]
  by_cases h1 : i = k
  · subst h1
    have := Nat.testBit_eq_decide_div_mod_eq (x := a) (i := i)
    simp [this, Nat.testBit_zero]
  · by_cases h2 : i ≤ k
    · have h3 : (a / 2 ^ i % 2).testBit (k - i) = false := by
        apply Nat.testBit_lt_two_pow
        have : 2 ^ 1 ≤ 2 ^ (k - i) := Nat.pow_le_pow_right (by omega) (by omega)
        omega
      simp [h1, h3]
    · simp [h1, h2]
theorem or_pow (s i : Nat) (ho : s * 2 ^ (i + 1) < 18446744073709551616) (hi : i < 64) : bits .or .u64 ((s * 2 ^ (i + 1) : Nat) : Int) ((2 ^ i : Nat) : Int) = ((s * 2 ^ (i + 1) + 2 ^ i : Nat) : Int) := by
  have hp : 2 ^ i < 18446744073709551616 := Nat.pow_lt_pow_right (by omega) hi
  have hl : 2 ^ i < 2 ^ (i + 1) := Nat.pow_lt_pow_right (by omega) (by omega)
  rw [bits_or_u64_nat _ _ ho hp, Nat.mul_comm s, ← Nat.two_pow_add_eq_or_of_lt hl]
/-- a bit of a number, out of its words -/
theorem bit_hi (N j : Nat) (h : 64 ≤ j) : N / 18446744073709551616 / 2 ^ (j - 64) % 2 = N / 2 ^ j % 2 := by
  rw [Nat.div_div_eq_div_mul, show (18446744073709551616 : Nat) = 2 ^ 64 from rfl, ← Nat.pow_add, show 64 + (j - 64) = j by omega]
theorem bit_lo (N j : Nat) (h : j < 64) : N % 18446744073709551616 / 2 ^ j % 2 = N / 2 ^ j % 2 := by
  have a := Nat.testBit_eq_decide_div_mod_eq (x := N % 2 ^ 64) (i := j)
  have b := Nat.testBit_eq_decide_div_mod_eq (x := N) (i := j)
  have c := Nat.testBit_mod_two_pow N 64 j
  rw [a, b] at c
  simp only [h, decide_true, Bool.true_and, decide_eq_decide] at c
  have : (18446744073709551616 : Nat) = 2 ^ 64 := rfl
  rw [this]
  omega
/-- the words of a quotient so far -/
theorem hi_hi (q j : Nat) (h : 64 ≤ j) : q * 2 ^ (j + 1) / 18446744073709551616 = q * 2 ^ (j - 64 + 1) ∧ q * 2 ^ (j + 1) % 18446744073709551616 = 0 := by
  have e : q * 2 ^ (j + 1) = q * 2 ^ (j - 64 + 1) * 18446744073709551616 := by
    rw [Nat.mul_assoc, show (18446744073709551616 : Nat) = 2 ^ 64 from rfl, ← Nat.pow_add, show j - 64 + 1 + 64 = j + 1 by omega]
  rw [e]
  exact ⟨Nat.mul_div_cancel _ (by omega), Nat.mul_mod_left _ _⟩
theorem lo_lo (q j : Nat) (h : j < 64) : q * 2 ^ (j + 1) % 18446744073709551616 = q % 2 ^ (63 - j) * 2 ^ (j + 1) ∧ q * 2 ^ (j + 1) / 18446744073709551616 = q / 2 ^ (63 - j) := by
  have e : (18446744073709551616 : Nat) = 2 ^ (63 - j) * 2 ^ (j + 1) := by
    rw [← Nat.pow_add, show 63 - j + (j + 1) = 64 by omega]
  rw [e]
  exact ⟨Nat.mul_mod_mul_right _ _ _, Nat.mul_div_mul_right _ _ (Nat.two_pow_pos _)⟩
theorem set_hi (q j : Nat) (h : 64 ≤ j) : (q * 2 ^ (j + 1) + 2 ^ j) / 18446744073709551616 = q * 2 ^ (j - 64 + 1) + 2 ^ (j - 64) ∧ (q * 2 ^ (j + 1) + 2 ^ j) % 18446744073709551616 = 0 := by
  have e : q * 2 ^ (j + 1) + 2 ^ j = (q * 2 ^ (j - 64 + 1) + 2 ^ (j - 64)) * 18446744073709551616 := by
    rw [Nat.add_mul, Nat.mul_assoc, show (18446744073709551616 : Nat) = 2 ^ 64 from rfl, ← Nat.pow_add, ← Nat.pow_add, show j - 64 + 1 + 64 = j + 1 by omega, show j - 64 + 64 = j by omega]
  rw [e]
  exact ⟨Nat.mul_div_cancel _ (by omega), Nat.mul_mod_left _ _⟩
theorem set_lo (q j : Nat) (h : j < 64) : (q * 2 ^ (j + 1) + 2 ^ j) % 18446744073709551616 = q % 2 ^ (63 - j) * 2 ^ (j + 1) + 2 ^ j ∧ (q * 2 ^ (j + 1) + 2 ^ j) / 18446744073709551616 = q / 2 ^ (63 - j) := by
  have e : (18446744073709551616 : Nat) = 2 ^ (63 - j) * 2 ^ (j + 1) := by
    rw [← Nat.pow_add, show 63 - j + (j + 1) = 64 by omega]
  have hq := Nat.div_add_mod q (2 ^ (63 - j))
  have hl := Nat.mod_lt q (Nat.two_pow_pos (63 - j))
  have hs : q % 2 ^ (63 - j) * 2 ^ (j + 1) + 2 ^ j < 18446744073709551616 := by
    have a1 : (q % 2 ^ (63 - j) + 1) * 2 ^ (j + 1) ≤ 2 ^ (63 - j) * 2 ^ (j + 1) := Nat.mul_le_mul_right _ hl
    have a2 : 2 ^ j < 2 ^ (j + 1) := Nat.pow_lt_pow_right (by omega) (by omega)
    rw [Nat.add_mul, Nat.one_mul] at a1
    rw [e]
    omega
  have hx : q * 2 ^ (j + 1) + 2 ^ j = q / 2 ^ (63 - j) * 18446744073709551616 + (q % 2 ^ (63 - j) * 2 ^ (j + 1) + 2 ^ j) := by
    conv => lhs; rw [← hq]
    rw [Nat.add_mul, Nat.mul_right_comm, e, Nat.mul_comm (q / 2 ^ (63 - j)), Nat.mul_right_comm, Nat.add_assoc]
  rw [hx]
  exact ⟨low_of _ _ hs, high_of _ _ hs⟩
/-- one bit more -/
theorem step (N j m : Nat) (hm : 1 ≤ m) :
    (m ≤ 2 * (N / 2 ^ (j + 1) % m) + N / 2 ^ j % 2 → N / 2 ^ j % m = 2 * (N / 2 ^ (j + 1) % m) + N / 2 ^ j % 2 - m ∧ N / 2 ^ j / m * 2 ^ j = N / 2 ^ (j + 1) / m * 2 ^ (j + 1) + 2 ^ j) ∧
    (2 * (N / 2 ^ (j + 1) % m) + N / 2 ^ j % 2 < m → N / 2 ^ j % m = 2 * (N / 2 ^ (j + 1) % m) + N / 2 ^ j % 2 ∧ N / 2 ^ j / m * 2 ^ j = N / 2 ^ (j + 1) / m * 2 ^ (j + 1)) := by
  have e : N / 2 ^ (j + 1) = N / 2 ^ j / 2 := by rw [Nat.pow_succ, Nat.div_div_eq_div_mul]
  rw [e]
  generalize N / 2 ^ j = x
  have hx := Nat.div_add_mod x 2
  have hq := Nat.div_add_mod (x / 2) m
  have hl := Nat.mod_lt (x / 2) (show 0 < m by omega)
  have hb : x % 2 < 2 := Nat.mod_lt _ (by omega)
  have key : x = m * (2 * (x / 2 / m)) + (2 * (x / 2 % m) + x % 2) := by
    conv => lhs; rw [← hx, ← hq]
    rw [Nat.mul_add, ← Nat.mul_assoc, Nat.mul_comm 2 m, Nat.mul_assoc]; omega
  refine ⟨fun h => ?_, fun h => ?_⟩
  · have k2 : x = m * (2 * (x / 2 / m) + 1) + (2 * (x / 2 % m) + x % 2 - m) := by
      rw [Nat.mul_add, Nat.mul_one]; omega
    have d1 : x / m = 2 * (x / 2 / m) + 1 := by
      conv => lhs; rw [k2]
      rw [Nat.mul_add_div (by omega), Nat.div_eq_of_lt (show 2 * (x / 2 % m) + x % 2 - m < m by omega), Nat.add_zero]
    have d2 : x % m = 2 * (x / 2 % m) + x % 2 - m := by
      conv => lhs; rw [k2]
      rw [Nat.mul_add_mod, Nat.mod_eq_of_lt (by omega)]
    refine ⟨d2, ?_⟩
    rw [d1, Nat.pow_succ, Nat.add_mul, Nat.one_mul, Nat.mul_comm 2, Nat.mul_assoc, Nat.mul_comm 2]
  · have d1 : x / m = 2 * (x / 2 / m) := by
      conv => lhs; rw [key]
      rw [Nat.mul_add_div (by omega), Nat.div_eq_of_lt h, Nat.add_zero]
    have d2 : x % m = 2 * (x / 2 % m) + x % 2 := by
      conv => lhs; rw [key]
      rw [Nat.mul_add_mod, Nat.mod_eq_of_lt h]
    refine ⟨d2, ?_⟩
    rw [d1, Nat.pow_succ, Nat.mul_comm 2, Nat.mul_assoc, Nat.mul_comm 2]
end Db
end Go.Proofs.Ytbodidhggdggmaa
-- @@XRef2
/- The reference's division of two words by one, bit by bit. -/
namespace Go.Proofs.Ytbodidhggdggmaa
open Go.RowKit

theorem half_lt (x : Nat) (h : x < 340282366920938463463374607431768211456) : x / 18446744073709551616 < 18446744073709551616 := by omega
theorem two_lt (r m : Nat) (h : r < m) (hm : m ≤ 9223372036854775808) : 2 * r + 1 < 18446744073709551616 := by omega
end Go.Proofs.Ytbodidhggdggmaa
-- @@XEx1
/- Floor and MulDiv, the program's and the reference's. -/
namespace Go.Proofs.Ytbodidhggdggmaa
open Go.RowKit

def sgnB (a b : Int) : Bool := decide (a < 0 ∧ 0 < b ∨ 0 < a ∧ b < 0)
theorem sgn_prod (a b : Int) : ∃ s : Int, wrap64 s = s ∧ cmpI a 0 * cmpI b 0 = s ∧ decide (s < 0) = sgnB a b := by
  refine ⟨cmpI a 0 * cmpI b 0, ?_, rfl, ?_⟩
  · refine IntWalk.wrap64_in _ ?_
    unfold cmpI
    by_cases h1 : a < 0 <;> by_cases h2 : 0 < a <;> by_cases h3 : b < 0 <;> by_cases h4 : 0 < b <;> simp [h1, h2, h3, h4]
  · unfold cmpI sgnB
    by_cases h1 : a < 0 <;> by_cases h2 : 0 < a <;> by_cases h3 : b < 0 <;> by_cases h4 : 0 < b <;> simp [h1, h2, h3, h4] <;> omega
theorem sgn_t {a b : Int} : sgnB a b = true → a < 0 ∧ 0 ≤ b ∨ 0 ≤ a ∧ b < 0 := by unfold sgnB; simp; omega
theorem sgn_f {a b : Int} : sgnB a b = false → a < 0 ∧ b < 0 ∨ 0 ≤ a ∧ 0 ≤ b ∨ a = 0 ∨ b = 0 := by unfold sgnB; simp; omega
theorem hi_small {n : Nat} (h : n < 18446744073709551616) : (0 : Int) = hiW n := by unfold hiW; omega
theorem lo_small {n : Nat} (h : n < 18446744073709551616) : (n : Int) = loW n := by unfold loW; omega

theorem rfloor_none (a : Int) (w : World) :
    Calls Try.prog 67 #[.int .i64 a, .int .i64 0] w fun e w' => e = .returned (.tuple #[.int .i64 0, .bool false]) ∧ Below w.heap.size w w' := by
  go_enter Try.func67, Try.ntmps67
  go_wp2
  go_ret2
  exact ⟨rfl, Below.refl _ _⟩

end Go.Proofs.Ytbodidhggdggmaa
-- @@XEx2
/- Floor of the reference; MulDiv, the program's and the reference's. -/
namespace Go.Proofs.Ytbodidhggdggmaa
open Go.RowKit

theorem xy_f {x y : Bool} (h : (x != y) = false) : (x = false ∧ y = false) ∨ (x = true ∧ y = true) := by cases x <;> cases y <;> simp_all
theorem xy_t {x y : Bool} (h : (x != y) = true) : (x = false ∧ y = true) ∨ (x = true ∧ y = false) := by cases x <;> cases y <;> simp_all
theorem ne_t {a b : Int} (h : (decide (a < 0) != decide (b < 0)) = true) : a < 0 ∧ 0 ≤ b ∨ 0 ≤ a ∧ b < 0 := by
  by_cases h1 : a < 0 <;> by_cases h2 : b < 0 <;> simp [h1, h2] at h <;> omega
theorem ne_f {a b : Int} (h : (decide (a < 0) != decide (b < 0)) = false) : a < 0 ∧ b < 0 ∨ 0 ≤ a ∧ 0 ≤ b := by
  by_cases h1 : a < 0 <;> by_cases h2 : b < 0 <;> simp [h1, h2] at h <;> omega

set_option maxHeartbeats 400000 in
theorem rfloor_any (a b : Int) (w : World) (ha : I64 a) (hb : I64 b) :
    Calls Try.prog 67 #[.int .i64 a, .int .i64 b] w fun e w' => e = .returned (.tuple #[.int .i64 (valI (Ex.floS a b)), .bool (okI (Ex.floS a b))]) ∧ Below w.heap.size w w' := by
  by_cases hb0 : b = 0
  · subst hb0
    exact rfloor_none a w
  have e1 : (b == 0) = false := by simpa using hb0
  obtain ⟨x, hx⟩ : ∃ x, decide (a < 0) = x := ⟨_, rfl⟩
  obtain ⟨y, hy⟩ : ∃ y, decide (b < 0) = y := ⟨_, rfl⟩
  obtain ⟨neg, hneg⟩ : ∃ neg, (decide (a < 0) != decide (b < 0)) = neg := ⟨_, rfl⟩
  have hfit := Ex.flo_up a b hb0 neg (fun h => ne_t (hneg.trans h)) (fun h => by rcases ne_f (hneg.trans h) with h | h; exact Or.inl h; exact Or.inr (Or.inl h))
  have s3 := hneg
  rw [hx, hy] at s3
  replace s3 := hide s3
  rw [← hfit]
  have hA : a.natAbs ≤ 9223372036854775808 := by unfold I64 at ha; omega
  have hB1 : 1 ≤ b.natAbs := by omega
  have hQl : a.natAbs / b.natAbs ≤ a.natAbs := Nat.div_le_self _ _
  have d1 : IntKind.u64.wrap ((a.natAbs : Int) / (b.natAbs : Int)) = ((a.natAbs / b.natAbs : Nat) : Int) := by rw [← Int.natCast_ediv, Dv.wrapN _ (by omega)]
  have d2 : (a.natAbs : Int) % (b.natAbs : Int) = ((a.natAbs % b.natAbs : Nat) : Int) := (Int.natCast_emod _ _).symm
  have z1 : ¬ (b.natAbs : Int) = 0 := by omega
  have z2 : ¬ b.natAbs = 0 := by omega
  obtain ⟨Q, hQ⟩ : ∃ Q, Q = a.natAbs / b.natAbs := ⟨_, rfl⟩
  obtain ⟨R, hR⟩ : ∃ R, R = a.natAbs % b.natAbs := ⟨_, rfl⟩
  rw [← hQ] at d1 hQl
  rw [← hR] at d2
  have d3 : IntKind.u64.wrap ((Q : Int) + 1) = ((Q + 1 : Nat) : Int) := by rw [← Num.wrapN (Q + 1) (by omega)]; simp
  obtain ⟨U, hU⟩ : ∃ U, U = Ex.up neg a.natAbs b.natAbs := ⟨_, rfl⟩
  rw [← hU]
  have hnum : ∀ t, t = U → t < 18446744073709551616 → ∀ w' : World, Calls Try.prog 74 #[.bool neg, .agg #[.int .u64 0, .int .u64 t]] w' fun e w'' => e = .returned (.tuple #[.int .i64 (valI (Ex.fitI (Ex.sg neg U))), .bool (okI (Ex.fitI (Ex.sg neg U)))]) ∧ Below w'.heap.size w' w'' := by
    intro t ht hlt w'
    rw [← ht]
    exact rwhole_any neg _ _ t w' (hi_small hlt) (lo_small hlt)
  obtain ⟨V, hV⟩ : ∃ V, V = valI (Ex.fitI (Ex.sg neg U)) := ⟨_, rfl⟩
  obtain ⟨O, hO⟩ : ∃ O, O = okI (Ex.fitI (Ex.sg neg U)) := ⟨_, rfl⟩
  rw [← hV, ← hO] at hnum ⊢
  have hu0 : neg = false → Q = U := fun h => by rw [hU, h, Ex.up_false, hQ]
  have hu1 : R = 0 → Q = U := fun h => by
    rw [hU]
    cases neg
    · rw [Ex.up_false, hQ]
    · rw [Ex.up_true0 _ _ (by rw [← hR]; exact h), hQ]
  have hu2 : neg = true → R ≠ 0 → Q + 1 = U := fun h h' => by rw [hU, h, Ex.up_true1 _ _ (by rw [← hR]; exact h'), hQ]
  replace hnum := hide hnum
  have hQb : Q ≤ 9223372036854775808 := by omega
  clear hneg hfit hQ hR hV hO hU hA hQl
  cases neg
  · have k := hu0 rfl
    have hnum' := (unhide hnum) Q k (by omega)
    clear hu0 hu1 hu2 k hnum
    have hxy := xy_f (unhide s3)
    clear s3
    rcases hxy with ⟨rfl, rfl⟩ | ⟨rfl, rfl⟩
    all_goals
      go_enter Try.func67, Try.ntmps67
      go_wp2_with (go_at_call 73; refine (size_any _ _ (by assumption)).mono ?_; rintro e w' ⟨rfl, rfl⟩)
      refine (hnum' _).mono ?_
      rintro e w1 ⟨rfl, hb1⟩
      go_wp2_with fail
      go_ret2
      exact ⟨rfl, hb1⟩
  · by_cases hR0 : R = 0
    · have k := hu1 hR0
      have hnum' := (unhide hnum) Q k (by omega)
      subst hR0
      clear hu0 hu1 hu2 k hnum
      have hxy := xy_t (unhide s3)
      clear s3
      rcases hxy with ⟨rfl, rfl⟩ | ⟨rfl, rfl⟩
      all_goals
        go_enter Try.func67, Try.ntmps67
        go_wp2_with (go_at_call 73; refine (size_any _ _ (by assumption)).mono ?_; rintro e w' ⟨rfl, rfl⟩)
        refine (hnum' _).mono ?_
        rintro e w1 ⟨rfl, hb1⟩
        go_wp2_with fail
        go_ret2
        exact ⟨rfl, hb1⟩
    · have k := hu2 rfl hR0
      have hnum' := (unhide hnum) (Q + 1) k (by omega)
      have t1 : decide (0 < R) = true := by simp; omega
      have t2 : 0 < R := by omega
      have t3 : ((R : Int) != 0) = true := by simp; omega
      clear hu0 hu1 hu2 k hnum hR0
      have hxy := xy_t (unhide s3)
      clear s3
      rcases hxy with ⟨rfl, rfl⟩ | ⟨rfl, rfl⟩
      all_goals
        go_enter Try.func67, Try.ntmps67
        go_wp2_with (go_at_call 73; refine (size_any _ _ (by assumption)).mono ?_; rintro e w' ⟨rfl, rfl⟩)
        refine (hnum' _).mono ?_
        rintro e w1 ⟨rfl, hb1⟩
        go_wp2_with fail
        go_ret2
        exact ⟨rfl, hb1⟩

end Go.Proofs.Ytbodidhggdggmaa
-- @@XTail
/- Drawn regions: quiet operations in front (their callees may make memory), a forced tail: one walk in the order of the text. -/
namespace Go.Proofs.Ytbodidhggdggmaa
open Go.RowKit
section
variable {P : Program} {l : List Oper} {Q : Exit → Act → World → Prop}

theorem front_facts {m : Nat} (hB : frontB .any l m = true) (i : Nat) (hi : i < m) :
    ∃ o, l[i]? = some o ∧ plainOp o = true ∧ (∀ j, depsOf .any l i j = true → j < i) ∧
      (∀ j, j < m → ∀ o', l[j]? = some o' → (j ≠ i → o.dst = none ∨ o.dst ≠ o'.dst) ∧ ∀ t, .tmp t ∈ o.op.operands → o'.dst = some t → depsOf .any l i j = true) := by
  simp only [frontB, Bool.and_eq_true, List.all_eq_true, List.mem_range] at hB
  have h := hB.1.1.2 i hi
  cases ho : l[i]? with
  | none => simp [ho] at h
  | some o =>
    simp only [ho, Bool.and_eq_true] at h
    obtain ⟨⟨h1, h2⟩, h3⟩ := h
    refine ⟨o, rfl, h2, fun j hj => ?_, fun j hj o' ho' => ?_⟩
    · simp only [depsOf, ho, Array.any_eq_true', Bool.and_eq_true, beq_iff_eq] at hj
      obtain ⟨e, he, hb, rfl⟩ := hj
      have := (Array.all_eq_true'.1 h1) e he
      simpa [hb] using this
    · have hj2 := (List.all_eq_true.1 h3) j (List.mem_range.2 hj)
      simp only [ho', Bool.and_eq_true, Bool.or_eq_true, beq_iff_eq, bne_iff_ne, ne_eq, Option.isNone_iff_eq_none] at hj2
      refine ⟨fun hne => ?_, fun t ht hd => ?_⟩
      · rcases hj2.1 with (h | h) | h
        · exact absurd h hne
        · exact Or.inl h
        · exact Or.inr h
      · have h5 := (Array.all_eq_true'.1 hj2.2) _ ht
        simp only [Bool.or_eq_true, bne_iff_ne, ne_eq] at h5
        rcases h5 with h5 | h5
        · exact absurd hd h5
        · exact h5

theorem plain_wanted {o : Oper} (hp : plainOp o = true) (y : Nat → Option Bool) : Region.wanted o y = true := by
  simp only [plainOp, Bool.and_eq_true, Option.isNone_iff_eq_none] at hp
  simp [Region.wanted, hp.1]

theorem lexv {m : Nat} {C : World → Prop} {K : Act → Prop} {a : Act} (hB : frontB .any l m = true) (hml : m ≤ l.length) : ∀ (n k : Nat) (vs : Nat → Value), k + n = m →
    wpQuiet P l.toArray C K ((l.take m).drop k) (putSome l (fun j => decide (j < k)) vs a (List.range m)) →
    ∃ vs' : Nat → Value, (∀ j, j < k → vs' j = vs j) ∧ (∀ i, k ≤ i → i < m → ∀ o, l[i]? = some o → ∀ w, C w → o.quietAt P (putSome l (fun j => decide (j < i)) vs' a (List.range m)) C w (vs' i)) ∧
      K (putSome l (fun j => decide (j < m)) vs' a (List.range m)) := by
  intro n
  induction n with
  | zero =>
    intro k vs hk h
    obtain rfl : k = m := by omega
    rw [List.drop_of_length_le (by simp; omega)] at h
    exact ⟨vs, fun _ _ => rfl, fun i h1 h2 => by omega, h⟩
  | succ n ih =>
    intro k vs hk h
    obtain ⟨o, ho, hp, hdl, hd⟩ := front_facts hB k (by omega)
    have hcons : (l.take m).drop k = o :: (l.take m).drop (k + 1) := by
      have hlt : k < (l.take m).length := by simp; omega
      rw [List.drop_eq_getElem_cons hlt]
      congr 1
      rw [List.getElem_take]
      exact Option.some.inj ((List.getElem?_eq_getElem (by omega)).symm.trans ho)
    rw [hcons] at h
    unfold wpQuiet at h
    rw [plain_wanted hp, if_pos rfl] at h
    obtain ⟨v, hv, hn⟩ := h
    have hmore := putSome_more (front := l) (l := fun j => decide (j < k)) (vs := vs) (i := k) (o := o) (v := v) ho (js := List.range m) List.nodup_range (List.mem_range.2 (by omega)) (by simp)
      (fun j hj o' ho' hne => (hd j (List.mem_range.1 hj) o' ho').1 hne) a
    rw [← hmore] at hn
    have hc : putSome l (fun j => decide (j < k) || j == k) (fun j => if j = k then v else vs j) a (List.range m) = putSome l (fun j => decide (j < k + 1)) (fun j => if j = k then v else vs j) a (List.range m) :=
      putSome_congr (fun i _ => ⟨by rw [Bool.eq_iff_iff]; simp; omega, fun _ => rfl⟩) a
    rw [hc] at hn
    obtain ⟨vs', h1, h2, h3⟩ := ih (k + 1) _ (by omega) hn
    refine ⟨vs', fun j hj => ?_, fun i hki him o' ho' w hw => ?_, h3⟩
    · rw [h1 j (by omega), if_neg (by omega)]
    · by_cases hik : i = k
      · subst hik
        obtain rfl : o = o' := Option.some.inj (ho.symm.trans ho')
        have e1 : vs' i = v := by rw [h1 i (by omega), if_pos rfl]
        have e2 : putSome l (fun j => decide (j < i)) vs' a (List.range m) = putSome l (fun j => decide (j < i)) vs a (List.range m) :=
          putSome_congr (fun j _ => ⟨rfl, fun hj => by
            have hj := of_decide_eq_true hj
            rw [h1 j (by omega), if_neg (by omega)]⟩) a
        rw [e1, e2]
        exact hv w hw
      · exact h2 i (by omega) him o' ho' w hw

/-- A region that draws its order: its first m operations are quiet over a class of worlds; the others come last, in order. -/
theorem wp_region_tail {id : Nat} {a : Act} {w : World} (m : Nat) (C : World → Prop)
    (hm : P.follows .mixedOrders = true) (hB : frontB .any l m = true) (hC : C { w with drawn := w.drawn + 1 })
    (h : wpQuiet P l.toArray C (fun a' => ∀ w', C w' → wpList P l.toArray Q (l.drop m) a' w') (l.take m) a) :
    (Code.region id l.toArray true).wp P Q a w := by
  have hml : m ≤ l.length := by
    have := hB
    simp only [frontB, Bool.and_eq_true, decide_eq_true_eq] at this
    exact this.1.1.1
  have h0 : putSome l (fun j => decide (j < 0)) (fun _ => undef) a (List.range m) = a := by
    rw [putSome_list, List.filter_eq_nil_iff.2 (by simp)]; rfl
  obtain ⟨vs, _, hq, hK⟩ := lexv (P := P) (C := C) (a := a) hB hml m 0 (fun _ => undef) (by omega) (by rw [h0, List.drop_zero]; exact h)
  refine wp_region_front m (fun _ _ w' => C w') (fun _ _ => True) (fun i v _ => v = vs i) hm hB hC (fun _ _ _ _ _ h => h) ?_ ?_
  · intro i hi o ho vs' L w1 _ hC1 hf
    obtain ⟨o', ho', hp, hdl, hd⟩ := front_facts hB i hi
    obtain rfl : o = o' := Option.some.inj (ho.symm.trans ho')
    have e1 : putSome l (depsOf .any l i) vs' a (List.range m) = putSome l (depsOf .any l i) vs a (List.range m) :=
      putSome_congr (fun j hj => ⟨rfl, fun hdj => hf j (List.mem_range.1 hj) hdj⟩) a
    rw [e1]
    generalize hb : putSome l (depsOf .any l i) vs a (List.range m) = b
    have hev : execOp b.eval o = execOp (putSome l (fun j => decide (j < i)) vs a (List.range m)).eval o := by
      refine execOp_same hp fun t ht => ?_
      rw [← hb]
      refine putSome_at (fun j hj o'' ho'' hdt => ?_) a a rfl rfl
      have hdep := (hd j (List.mem_range.1 hj) o'' ho'').2 t ht hdt
      rw [hdep]
      have := hdl j hdep
      simp [this]
    unfold wpList
    rw [plain_wanted hp, if_pos rfl]
    refine Or.inl (Oper.wp_of_quiet (C := C) (K := fun a' => a' = b.put o.dst (vs i)) hC1 ?_ ⟨vs i, fun w hw => ?_, rfl⟩)
    · rintro a' w' hw' rfl
      exact ⟨rfl, vs i, rfl, hw', trivial, rfl⟩
    · have := hq i (by omega) hi o ho w hw
      unfold Oper.quietAt at *
      rw [hev]
      exact this
  · intro vs' L w' _ hC' hf
    have e1 : putSome l (fun _ => true) vs' a (List.range m) = putSome l (fun j => decide (j < m)) vs a (List.range m) :=
      putSome_congr (fun j hj => ⟨by have := List.mem_range.1 hj; simp [this], fun _ => hf j (List.mem_range.1 hj)⟩) a
    rw [e1]
    exact hK w' hC'
end

/-- The same, where the callees make memory alone: the class of the worlds that grew out of this one. -/
theorem wp_region_ext_tail {P : Program} {id : Nat} {Q : Exit → Act → World → Prop} {a : Act} {w : World} {l : List Oper} (m : Nat) (hm : P.follows .mixedOrders = true) (hB : frontB .any l m = true)
    (h : wpQuiet P l.toArray (fun w' => ∃ x : Ext w, w' = x.get) (fun a' => ∀ w', (∃ x : Ext w, w' = x.get) → wpList P l.toArray Q (l.drop m) a' w') (l.take m) a) : (Code.region id l.toArray true).wp P Q a w :=
  wp_region_tail (C := fun w' => ∃ x : Ext w, w' = x.get) m hm hB ⟨⟨w.drew, (Below.refl _ _).drew⟩, rfl⟩ h
end Go.Proofs.Ytbodidhggdggmaa
-- @@XExC
/- Plain arithmetic of comparing. No program in sight. -/
namespace Go.Proofs.Ytbodidhggdggmaa
namespace Ex
def sgnI (x : Int) : Int := if x < 0 then -1 else if 0 < x then 1 else 0
def ordI (x y : Int) : Int := if x < y then -1 else if y < x then 1 else 0
theorem ord_sign (x : Int) : ordI x 0 = sgnI x := rfl
theorem ord_sub (x y : Int) : ordI x y = sgnI (x - y) := by
  unfold ordI sgnI
  by_cases h1 : x < y
  · rw [if_pos h1, if_pos (by omega)]
  · by_cases h2 : y < x
    · rw [if_neg h1, if_pos h2, if_neg (by omega), if_pos (by omega)]
    · rw [if_neg h1, if_neg h2, if_neg (by omega), if_neg (by omega)]
def cmpS (xn xd yn yd : Int) : Int := if xd < 1 ∨ yd < 1 then 0 else ordI (xn * yd) (yn * xd)
theorem cmp_diff (xn xd yn yd : Int) (hx : 1 ≤ xd) (hy : 1 ≤ yd) (h : ordI xn 0 ≠ ordI yn 0) : ordI (ordI xn 0) (ordI yn 0) = ordI (xn * yd) (yn * xd) := by
  have pn : ∀ a b : Int, a < 0 → 1 ≤ b → a * b < 0 := fun a b h1 h2 => Int.mul_neg_of_neg_of_pos h1 (by omega)
  have pp : ∀ a b : Int, 0 < a → 1 ≤ b → 0 < a * b := fun a b h1 h2 => Int.mul_pos h1 (by omega)
  have hxx : xn < 0 ∨ xn = 0 ∨ 0 < xn := by omega
  have hyy : yn < 0 ∨ yn = 0 ∨ 0 < yn := by omega
  have m1 : ∀ a : Int, a < 0 → ordI a 0 = -1 := fun a h => by unfold ordI; rw [if_pos h]
  have m0 : ordI 0 0 = 0 := rfl
  have mp : ∀ a : Int, 0 < a → ordI a 0 = 1 := fun a h => by unfold ordI; rw [if_neg (by omega), if_pos h]
  rcases hxx with hx1 | hx1 | hx1 <;> rcases hyy with hy1 | hy1 | hy1
  · exact absurd (by rw [m1 _ hx1, m1 _ hy1]) h
  · subst hy1; rw [m1 _ hx1, m0, Int.zero_mul, m1 _ (pn _ _ hx1 hy)]; rfl
  · rw [m1 _ hx1, mp _ hy1]
    have a := pn _ _ hx1 hy; have b := pp _ _ hy1 hx
    unfold ordI; rw [if_pos (by omega), if_pos (by omega)]
  · subst hx1; rw [m0, m1 _ hy1, Int.zero_mul]
    have b := pn _ _ hy1 hx
    unfold ordI; rw [if_neg (by omega), if_pos (by omega), if_neg (by omega), if_pos (by omega)]
  · subst hx1; subst hy1; exact absurd rfl h
  · subst hx1; rw [m0, mp _ hy1, Int.zero_mul]
    have b := pp _ _ hy1 hx
    unfold ordI; rw [if_pos (by omega), if_pos (by omega)]
  · rw [mp _ hx1, m1 _ hy1]
    have a := pp _ _ hx1 hy; have b := pn _ _ hy1 hx
    unfold ordI; rw [if_neg (by omega), if_pos (by omega), if_neg (by omega), if_pos (by omega)]
  · subst hy1; rw [mp _ hx1, m0, Int.zero_mul]
    have a := pp _ _ hx1 hy
    unfold ordI; rw [if_neg (by omega), if_pos (by omega), if_neg (by omega), if_pos (by omega)]
  · exact absurd (by rw [mp _ hx1, mp _ hy1]) h
theorem ord_neg (a b : Int) : ordI (-a) (-b) = -ordI a b := by
  unfold ordI
  by_cases h1 : a < b
  · rw [if_pos h1, if_neg (by omega), if_pos (by omega)]; rfl
  · by_cases h2 : b < a
    · rw [if_neg h1, if_pos h2, if_pos (by omega)]
    · rw [if_neg h1, if_neg h2, if_neg (by omega), if_neg (by omega)]; rfl
theorem cmp_same (xn xd yn yd : Int) (hx : 1 ≤ xd) (hy : 1 ≤ yd) (h : ordI xn 0 = ordI yn 0) :
    ordI xn 0 * ordI ((xn.natAbs * yd.natAbs : Nat) : Int) ((yn.natAbs * xd.natAbs : Nat) : Int) = ordI (xn * yd) (yn * xd) := by
  have m1 : ∀ a : Int, a < 0 → ordI a 0 = -1 := fun a h => by unfold ordI; rw [if_pos h]
  have m0 : ordI 0 0 = 0 := rfl
  have mp : ∀ a : Int, 0 < a → ordI a 0 = 1 := fun a h => by unfold ordI; rw [if_neg (by omega), if_pos h]
  have ey : (yd.natAbs : Int) = yd := by omega
  have ex : (xd.natAbs : Int) = xd := by omega
  have hxx : xn < 0 ∨ xn = 0 ∨ 0 < xn := by omega
  have hyy : yn < 0 ∨ yn = 0 ∨ 0 < yn := by omega
  rw [Int.natCast_mul, Int.natCast_mul, ex, ey]
  rcases hxx with hx1 | hx1 | hx1 <;> rcases hyy with hy1 | hy1 | hy1
  · rw [m1 _ hx1, show ((xn.natAbs : Nat) : Int) = -xn by omega, show ((yn.natAbs : Nat) : Int) = -yn by omega, show (-xn) * yd = -(xn * yd) from Int.neg_mul _ _, show (-yn) * xd = -(yn * xd) from Int.neg_mul _ _, ord_neg]; omega
  · subst hy1; rw [m1 _ hx1, m0] at h; omega
  · rw [m1 _ hx1, mp _ hy1] at h; omega
  · subst hx1; rw [m1 _ hy1, m0] at h; omega
  · subst hx1; subst hy1; rw [m0]; simp [ordI]
  · subst hx1; rw [mp _ hy1, m0] at h; omega
  · rw [mp _ hx1, m1 _ hy1] at h; omega
  · subst hy1; rw [mp _ hx1, m0] at h; omega
  · rw [mp _ hx1, show ((xn.natAbs : Nat) : Int) = xn by omega, show ((yn.natAbs : Nat) : Int) = yn by omega]; omega
theorem ord_bd (x y : Int) : -1 ≤ ordI x y ∧ ordI x y ≤ 1 := by unfold ordI; split; omega; split <;> omega
end Ex
end Go.Proofs.Ytbodidhggdggmaa
-- @@XEx5
/- Cmp, the program's. -/
namespace Go.Proofs.Ytbodidhggdggmaa
open Go.RowKit

theorem cmp_ord (x y : Int) : cmpI x y = Ex.ordI x y := rfl
theorem ext2 {w : World} {o1 o2 : Obj} {n : Nat} (x : Ext (((w.alloc o1).alloc o2).drewN n)) : (∀ i v, ((w.alloc o1).alloc o2).cell? ⟨w.heap.size, i, none⟩ = some v → x.get.cell? ⟨w.heap.size, i, none⟩ = some v) ∧
    (∀ i v, ((w.alloc o1).alloc o2).cell? ⟨w.heap.size + 1, i, none⟩ = some v → x.get.cell? ⟨w.heap.size + 1, i, none⟩ = some v) :=
  ⟨fun i v h => x.cell (by simpa using h), fun i v h => x.cell (by simpa using h)⟩

end Go.Proofs.Ytbodidhggdggmaa
-- @@XEx6
/- Lowest, the program's and the reference's. -/
namespace Go.Proofs.Ytbodidhggdggmaa
open Go.RowKit

/-- what there is to know of a ratio in lowest terms -/
structure LowFacts (xn xd : Int) (G : Nat) : Prop where
  g1 : 1 ≤ G
  g2 : (G : Int) ≤ xd
  num : xn / (G : Int) = (Ex.rat xn xd).num
  den : xd / (G : Int) = ((Ex.rat xn xd).den : Int)
  tnum : IntKind.i64.wrap (xn.tdiv (G : Int)) = (Ex.rat xn xd).num
  tden : IntKind.i64.wrap (xd.tdiv (G : Int)) = ((Ex.rat xn xd).den : Int)
  tden' : IntKind.i64.wrap (xd / (G : Int)) = ((Ex.rat xn xd).den : Int)
  inum : I64 (Ex.rat xn xd).num
  iden : 1 ≤ ((Ex.rat xn xd).den : Int) ∧ ((Ex.rat xn xd).den : Int) ≤ xd
theorem low_facts (xn xd : Int) (hn : I64 xn) (hd : I64 xd) (h1 : 1 ≤ xd) : LowFacts xn xd (Nat.gcd xn.natAbs xd.natAbs) := by
  obtain ⟨e1, e2⟩ := Ex.rat_num_den xn xd h1
  have hG := Nat.gcd_pos_of_pos_right xn.natAbs (show 0 < xd.natAbs by omega)
  have hdv := Nat.gcd_dvd_left xn.natAbs xd.natAbs
  have hdd := Nat.gcd_dvd_right xn.natAbs xd.natAbs
  have hle := Nat.le_of_dvd (show 0 < xd.natAbs by omega) hdd
  generalize Nat.gcd xn.natAbs xd.natAbs = G at *
  have dn : (G : Int) ∣ xn := Int.ofNat_dvd_left.2 hdv
  have dd : (G : Int) ∣ xd := Int.ofNat_dvd_left.2 hdd
  have ed : xd / (G : Int) = ((Ex.rat xn xd).den : Int) := by
    rw [e2, Int.natCast_ediv, show ((xd.natAbs : Nat) : Int) = xd by omega]
  have fn := floor_i64 (a := xn) (b := (G : Int)) (by omega) hn.1 hn.2
  have fd := floor_i64 (a := xd) (b := (G : Int)) (by omega) hd.1 hd.2
  have hden : 1 ≤ ((Ex.rat xn xd).den : Int) := by
    have := (Ex.rat xn xd).den_pos; omega
  have hden2 : xd / (G : Int) ≤ xd := Int.ediv_le_self _ (by omega)
  refine ⟨hG, by omega, e1.symm, ed, ?_, ?_, ?_, ?_, hden, by rw [← ed]; exact hden2⟩
  · rw [Int.tdiv_eq_ediv_of_dvd dn, ← e1] at *; rw [e1]; exact IntWalk.i64_in _ fn
  · rw [Int.tdiv_eq_ediv_of_dvd dd, IntWalk.i64_in _ fd, ed]
  · rw [IntWalk.i64_in _ fd, ed]
  · rw [e1]; exact fn

theorem i64_nat (G : Nat) (h : (G : Int) ≤ 9223372036854775807) : IntKind.i64.wrap (G : Int) = (G : Int) := IntWalk.i64_in _ ⟨by omega, h⟩
theorem blk_new2 (w : World) (o1 o2 : Obj) (n : Nat) : (((w.alloc o1).alloc o2).drewN n).heap[w.heap.size + 1]? = some o2 := by
  have := heap_alloc_new (w.alloc o1) o2
  simpa using this

theorem elow_bad (xn xd : Int) (w : World) (h : xd < 1) :
    Calls Try.prog 83 #[.agg #[.int .i64 xn, .int .i64 xd]] w fun e w' => e = .returned (.tuple #[.agg #[.int .i64 0, .int .i64 0], .bool false]) ∧ Below w.heap.size w w' := by
  have t1 : decide (xd < 1) = true := by simpa using h
  go_enter Try.func83, Try.ntmps83
  go_wp2
  refine bodyPost_ret (v := .tuple #[.agg #[.int .i64 0, .int .i64 0], .bool false]) (by simp [results, Try.results83, go_sem]) rfl ⟨rfl, ?_⟩
  first | exact (((Below.refl _ _).alloc (Nat.le_refl _) _).alloc (by simp) _) | exact ((((Below.refl _ _).alloc (Nat.le_refl _) _).alloc (by simp) _).setCell (by simp) _).setCell (by simp) _
theorem rlow_bad (xn xd : Int) (w : World) (h : xd < 1) :
    Calls Try.prog 71 #[.agg #[.int .i64 xn, .int .i64 xd]] w fun e w' => e = .returned (.tuple #[.agg #[.int .i64 0, .int .i64 0], .bool false]) ∧ Below w.heap.size w w' := by
  have t1 : decide (xd < 1) = true := by simpa using h
  go_enter Try.func71, Try.ntmps71
  go_wp2
  refine bodyPost_ret (v := .tuple #[.agg #[.int .i64 0, .int .i64 0], .bool false]) (by simp [results, Try.results71, go_sem]) rfl ⟨rfl, ?_⟩
  first | exact (((Below.refl _ _).alloc (Nat.le_refl _) _).alloc (by simp) _) | exact ((((Below.refl _ _).alloc (Nat.le_refl _) _).alloc (by simp) _).setCell (by simp) _).setCell (by simp) _

set_option maxHeartbeats 1000000 in
theorem elow_any (xn xd : Int) (w : World) (hn : I64 xn) (hd : I64 xd) (h1 : 1 ≤ xd) :
    Calls Try.prog 83 #[.agg #[.int .i64 xn, .int .i64 xd]] w fun e w' => e = .returned (.tuple #[.agg #[.int .i64 (Ex.rat xn xd).num, .int .i64 (Ex.rat xn xd).den], .bool true]) ∧ Below w.heap.size w w' := by
  have F := low_facts xn xd hn hd h1
  have hgc := fun w => gcd_int xn xd w
  obtain ⟨G, hG⟩ : ∃ G, G = Nat.gcd xn.natAbs xd.natAbs := ⟨_, rfl⟩
  rw [← hG] at F hgc
  obtain ⟨V, hV⟩ : ∃ V, V = (Ex.rat xn xd).num := ⟨_, rfl⟩
  obtain ⟨D, hD⟩ : ∃ D, D = (((Ex.rat xn xd).den : Nat) : Int) := ⟨_, rfl⟩
  obtain ⟨g1, g2, _, _, f1, f2, f3, _, _⟩ := F
  rw [← hV] at f1 ⊢
  rw [← hD] at f2 f3 ⊢
  have t1 : decide (xd < 1) = false := by simp; omega
  have z1 : ¬ (G : Int) = 0 := by omega
  have z2 : ¬ G = 0 := by omega
  have g3 : (G : Int) ≤ 9223372036854775807 := by unfold I64 at hd; omega
  clear hG hV hD g2
  go_enter Try.func83, Try.ntmps83
  go_wp2_with fail
  refine (hgc _).mono ?_
  rintro e w1 ⟨g, hg, rfl, n, rfl⟩
  clear hgc
  by_cases hneg : g < 0
  · have t2 : decide (g < 0) = true := by simpa using hneg
    have eg : wrap64 (-g) = (G : Int) := by rw [IntWalk.wrap64_in _ (by omega)]; omega
    clear hg hneg
    go_wp2
    have hx : ∀ x : Ext (((w.alloc (Obj.cells #[.int .i64 xn, .int .i64 xd] 60)).alloc (Obj.cells #[.int .i64 0, .int .i64 0] 60)).drewN n), x.get.cell? ⟨w.heap.size, 0, none⟩ = some (.int .i64 xn) ∧ x.get.cell? ⟨w.heap.size, 1, none⟩ = some (.int .i64 xd) :=
      fun x => ⟨x.cell (by go_simp), x.cell (by go_simp)⟩
    have hx1 := fun x => (hx x).1
    have hx2 := fun x => (hx x).2
    clear hx
    refine wp_region_ext_tail 9 (by rfl) (by kernel_rfl) ?_
    simp only [List.take_succ_cons, List.take_zero, List.drop_succ_cons, List.drop_zero]
    repeat (quiet_step (fail))
    refine wpQuiet_nil ?_
    rintro w' ⟨x, rfl⟩
    have hbel := x.le
    have hblk : x.get.heap[w.heap.size + 1]? = some (.cells #[.int .i64 0, .int .i64 0] 60 (0, 0)) := (hbel.block _ (by simp)).trans (blk_new2 _ _ _ _)
    have c0 : x.get.cell? ⟨w.heap.size + 1, 0, none⟩ = some (.int .i64 0) := by simp [World.cell?, hblk]
    have c1 : x.get.cell? ⟨w.heap.size + 1, 1, none⟩ = some (.int .i64 0) := by simp [World.cell?, hblk]
    have f0 : x.get.frozen? ⟨w.heap.size + 1, 0, none⟩ = false := by simp [World.frozen?, hblk]
    have f1 : x.get.frozen? ⟨w.heap.size + 1, 1, none⟩ = false := by simp [World.frozen?, hblk]
    clear hblk hx1 hx2
    go_wp2
    refine bodyPost_ret (v := .tuple #[.agg #[.int .i64 V, .int .i64 D], .bool true]) (by simp [results, Try.results83, go_sem, c0, c1]) rfl ⟨rfl, ?_⟩
    exact (((((Below.refl _ _).alloc (Nat.le_refl _) _).alloc (by simp) _).trans ((below_drewN _ _).mono (by simp; omega))).trans (hbel.mono (by simp; omega))).setCell (by simp) _ |>.setCell (by simp) _
  · have t2 : decide (g < 0) = false := by simpa using hneg
    obtain rfl : g = (G : Int) := by omega
    clear hg hneg
    go_wp2
    have hx : ∀ x : Ext (((w.alloc (Obj.cells #[.int .i64 xn, .int .i64 xd] 60)).alloc (Obj.cells #[.int .i64 0, .int .i64 0] 60)).drewN n), x.get.cell? ⟨w.heap.size, 0, none⟩ = some (.int .i64 xn) ∧ x.get.cell? ⟨w.heap.size, 1, none⟩ = some (.int .i64 xd) :=
      fun x => ⟨x.cell (by go_simp), x.cell (by go_simp)⟩
    have hx1 := fun x => (hx x).1
    have hx2 := fun x => (hx x).2
    clear hx
    refine wp_region_ext_tail 9 (by rfl) (by kernel_rfl) ?_
    simp only [List.take_succ_cons, List.take_zero, List.drop_succ_cons, List.drop_zero]
    repeat (quiet_step (fail))
    refine wpQuiet_nil ?_
    rintro w' ⟨x, rfl⟩
    have hbel := x.le
    have hblk : x.get.heap[w.heap.size + 1]? = some (.cells #[.int .i64 0, .int .i64 0] 60 (0, 0)) := (hbel.block _ (by simp)).trans (blk_new2 _ _ _ _)
    have c0 : x.get.cell? ⟨w.heap.size + 1, 0, none⟩ = some (.int .i64 0) := by simp [World.cell?, hblk]
    have c1 : x.get.cell? ⟨w.heap.size + 1, 1, none⟩ = some (.int .i64 0) := by simp [World.cell?, hblk]
    have f0 : x.get.frozen? ⟨w.heap.size + 1, 0, none⟩ = false := by simp [World.frozen?, hblk]
    have f1 : x.get.frozen? ⟨w.heap.size + 1, 1, none⟩ = false := by simp [World.frozen?, hblk]
    clear hblk hx1 hx2
    go_wp2
    refine bodyPost_ret (v := .tuple #[.agg #[.int .i64 V, .int .i64 D], .bool true]) (by simp [results, Try.results83, go_sem, c0, c1]) rfl ⟨rfl, ?_⟩
    exact (((((Below.refl _ _).alloc (Nat.le_refl _) _).alloc (by simp) _).trans ((below_drewN _ _).mono (by simp; omega))).trans (hbel.mono (by simp; omega))).setCell (by simp) _ |>.setCell (by simp) _

set_option maxHeartbeats 1000000 in
theorem rlow_any (xn xd : Int) (w : World) (hn : I64 xn) (hd : I64 xd) (h1 : 1 ≤ xd) :
    Calls Try.prog 71 #[.agg #[.int .i64 xn, .int .i64 xd]] w fun e w' => e = .returned (.tuple #[.agg #[.int .i64 (Ex.rat xn xd).num, .int .i64 (Ex.rat xn xd).den], .bool true]) ∧ Below w.heap.size w w' := by
  have F := low_facts xn xd hn hd h1
  have hgc := fun w => rgcd_any xn.natAbs xd.natAbs w
  obtain ⟨G, hG⟩ : ∃ G, G = Nat.gcd xn.natAbs xd.natAbs := ⟨_, rfl⟩
  rw [← hG] at F hgc
  obtain ⟨V, hV⟩ : ∃ V, V = (Ex.rat xn xd).num := ⟨_, rfl⟩
  obtain ⟨D, hD⟩ : ∃ D, D = (((Ex.rat xn xd).den : Nat) : Int) := ⟨_, rfl⟩
  obtain ⟨g1, g2, _, _, f1, f2, f3, _, _⟩ := F
  rw [← hV] at f1 ⊢
  rw [← hD] at f2 f3 ⊢
  have t1 : decide (xd < 1) = false := by simp; omega
  have z1 : ¬ (G : Int) = 0 := by omega
  have z2 : ¬ G = 0 := by omega
  have g3 : (G : Int) ≤ 9223372036854775807 := by unfold I64 at hd; omega
  have ew : wrap64 (G : Int) = (G : Int) := IntWalk.wrap64_in _ (by omega)
  have ew2 : IntKind.i64.wrap (G : Int) = (G : Int) := i64_nat G g3
  clear hG hV hD g2
  go_enter Try.func71, Try.ntmps71
  have sz : ∀ z w, I64 z → Calls Try.prog 73 #[.int .i64 z] w fun e w' => e = .returned (.int .u64 z.natAbs) ∧ w' = w := fun z w h => size_any z w h
  go_wp2
  go_quiet ((first | (go_at_call 73; exact Calls.quiet_of_same (sz _ _ (by assumption))) | (go_at_call 72; exact Calls.quiet_of (hgc _))))
  go_wp2
  have hx : ∀ x : Ext (((w.alloc (Obj.cells #[.int .i64 xn, .int .i64 xd] 60)).alloc (Obj.cells #[.int .i64 0, .int .i64 0] 60)).drewN nq), x.get.cell? ⟨w.heap.size, 0, none⟩ = some (.int .i64 xn) ∧ x.get.cell? ⟨w.heap.size, 1, none⟩ = some (.int .i64 xd) :=
    fun x => ⟨x.cell (by go_simp), x.cell (by go_simp)⟩
  have hx1 := fun x => (hx x).1
  have hx2 := fun x => (hx x).2
  clear hx
  refine wp_region_ext_tail 9 (by rfl) (by kernel_rfl) ?_
  simp only [List.take_succ_cons, List.take_zero, List.drop_succ_cons, List.drop_zero]
  repeat (quiet_step (fail))
  refine wpQuiet_nil ?_
  rintro w' ⟨x, rfl⟩
  have hbel := x.le
  have hblk : x.get.heap[w.heap.size + 1]? = some (.cells #[.int .i64 0, .int .i64 0] 60 (0, 0)) := (hbel.block _ (by simp)).trans (blk_new2 _ _ _ _)
  have c0 : x.get.cell? ⟨w.heap.size + 1, 0, none⟩ = some (.int .i64 0) := by simp [World.cell?, hblk]
  have c1 : x.get.cell? ⟨w.heap.size + 1, 1, none⟩ = some (.int .i64 0) := by simp [World.cell?, hblk]
  have f0 : x.get.frozen? ⟨w.heap.size + 1, 0, none⟩ = false := by simp [World.frozen?, hblk]
  have f1 : x.get.frozen? ⟨w.heap.size + 1, 1, none⟩ = false := by simp [World.frozen?, hblk]
  clear hblk hx1 hx2
  go_wp2
  refine bodyPost_ret (v := .tuple #[.agg #[.int .i64 V, .int .i64 D], .bool true]) (by simp [results, Try.results71, go_sem, c0, c1]) rfl ⟨rfl, ?_⟩
  exact (((((Below.refl _ _).alloc (Nat.le_refl _) _).alloc (by simp) _).trans ((below_drewN _ _).mono (by simp; omega))).trans (hbel.mono (by simp; omega))).setCell (by simp) _ |>.setCell (by simp) _
end Go.Proofs.Ytbodidhggdggmaa
-- @@XExQ
/- Plain arithmetic of sums and products of ratios. No program in sight. -/
namespace Go.Proofs.Ytbodidhggdggmaa
namespace Ex
theorem rmul_parts (a b : Rat) : (a * b).num = (a.num / (Nat.gcd a.num.natAbs b.den : Nat)) * (b.num / (Nat.gcd b.num.natAbs a.den : Nat)) ∧ (a*b).den = (a.den / Nat.gcd b.num.natAbs a.den) * (b.den / Nat.gcd a.num.natAbs b.den) := by
  have : a * b = Rat.mul a b := rfl
  rw [this]
  unfold Rat.mul
  simp
theorem radd_parts (a b : Rat) : (a + b).num = (a.num * ↑(b.den / (Nat.gcd a.den b.den)) + b.num * ↑(a.den / (Nat.gcd a.den b.den))) / (Nat.gcd (a.num * ↑(b.den / (Nat.gcd a.den b.den)) + b.num * ↑(a.den / (Nat.gcd a.den b.den))).natAbs (Nat.gcd a.den b.den) : Nat) ∧
  (a + b).den = (a.den / (Nat.gcd a.den b.den) * b.den) / (Nat.gcd (a.num * ↑(b.den / (Nat.gcd a.den b.den)) + b.num * ↑(a.den / (Nat.gcd a.den b.den))).natAbs (Nat.gcd a.den b.den)) := by
  have : a + b = Rat.add a b := rfl
  rw [this]
  unfold Rat.add
  by_cases hg : a.den.gcd b.den = 1
  · simp [hg]
  · simp only [hg, dite_false, Rat.maybeNormalize_eq]
    simp
/-- an exact quotient, by its size -/
theorem exact_quo (x : Int) (g : Nat) (hg : 1 ≤ g) (h : g ∣ x.natAbs) : (x / (g : Int)).natAbs = x.natAbs / g ∧ (x < 0 → x / (g : Int) < 0) ∧ (0 ≤ x → 0 ≤ x / (g : Int)) ∧ (x = 0 → x / (g : Int) = 0) := by
  have hd : (g : Int) ∣ x := Int.ofNat_dvd_left.2 h
  obtain ⟨k, rfl⟩ := hd
  have e : (g : Int) * k / (g : Int) = k := Int.mul_ediv_cancel_left k (by omega)
  rw [e]
  refine ⟨?_, fun h => ?_, fun h => ?_, fun h => ?_⟩
  · rw [Int.natAbs_mul, Int.natAbs_natCast, Nat.mul_div_cancel_left _ (by omega)]
  · apply Int.lt_of_not_ge
    intro hk
    have := Int.mul_nonneg (show (0 : Int) ≤ g by omega) hk
    omega
  · apply Int.le_of_not_gt
    intro hk
    have := Int.mul_neg_of_pos_of_neg (show (0 : Int) < g by omega) hk
    omega
  · rcases Int.mul_eq_zero.1 h with h | h
    · omega
    · exact h
theorem sg_quo (neg : Bool) (t h : Nat) (x : Int) (hx : sg neg t = x) (hh : 1 ≤ h) (hd : h ∣ t) : sg neg (t / h) = x / (h : Int) := by
  obtain ⟨k, rfl⟩ := hd
  rw [Nat.mul_div_cancel_left _ (by omega), ← hx]
  cases neg
  · simp only [sg, Bool.false_eq_true, if_false, Int.natCast_mul]
    exact (Int.mul_ediv_cancel_left _ (by omega)).symm
  · simp only [sg, if_true, Int.natCast_mul]
    rw [← Int.mul_neg]
    exact (Int.mul_ediv_cancel_left _ (by omega)).symm
theorem mul_form (A B : Rat) (neg : Bool) (h : neg = true → A.num < 0 ∧ 0 ≤ B.num ∨ 0 ≤ A.num ∧ B.num < 0) (h' : neg = false → A.num < 0 ∧ B.num < 0 ∨ 0 ≤ A.num ∧ 0 ≤ B.num ∨ A.num = 0 ∨ B.num = 0) :
    sg neg (A.num.natAbs / Nat.gcd A.num.natAbs B.den * (B.num.natAbs / Nat.gcd B.num.natAbs A.den)) = (A * B).num ∧
    A.den / Nat.gcd B.num.natAbs A.den * (B.den / Nat.gcd A.num.natAbs B.den) = (A * B).den := by
  obtain ⟨e1, e2⟩ := rmul_parts A B
  refine ⟨?_, e2.symm⟩
  have g1 : 1 ≤ Nat.gcd A.num.natAbs B.den := Nat.gcd_pos_of_pos_right _ B.den_pos
  have g2 : 1 ≤ Nat.gcd B.num.natAbs A.den := Nat.gcd_pos_of_pos_right _ A.den_pos
  obtain ⟨a1, a2, a3, a4⟩ := exact_quo A.num _ g1 (Nat.gcd_dvd_left _ _)
  obtain ⟨b1, b2, b3, b4⟩ := exact_quo B.num _ g2 (Nat.gcd_dvd_left _ _)
  rw [← a1, ← b1, e1]
  refine sg_mul _ _ neg (fun hn => ?_) (fun hn => ?_)
  · rcases h hn with ⟨x, y⟩ | ⟨x, y⟩
    · exact Or.inl ⟨a2 x, b3 y⟩
    · exact Or.inr ⟨a3 x, b2 y⟩
  · rcases h' hn with ⟨x, y⟩ | ⟨x, y⟩ | x | x
    · exact Or.inl ⟨a2 x, b2 y⟩
    · exact Or.inr (Or.inl ⟨a3 x, b3 y⟩)
    · exact Or.inr (Or.inr (Or.inl (a4 x)))
    · exact Or.inr (Or.inr (Or.inr (b4 x)))
theorem sg_one (x : Int) (y : Nat) : x * (y : Int) = sg (decide (x < 0)) (x.natAbs * y) := by
  by_cases h : x < 0
  · simp only [h, decide_true, sg, if_true, Int.natCast_mul]
    rw [show ((x.natAbs : Nat) : Int) = -x by omega, Int.neg_mul, Int.neg_neg]
  · simp only [h, decide_false, sg, Bool.false_eq_true, if_false, Int.natCast_mul]
    rw [show ((x.natAbs : Nat) : Int) = x by omega]
theorem add_same (x y : Int) (a b : Nat) (h : decide (x < 0) = decide (y < 0)) : x * (a : Int) + y * (b : Int) = sg (decide (x < 0)) (x.natAbs * a + y.natAbs * b) := by
  rw [sg_one x a, sg_one y b, ← h]
  cases decide (x < 0) <;> simp [sg] <;> omega
theorem add_lt (x y : Int) (a b : Nat) (h : decide (x < 0) = !decide (y < 0)) (hl : x.natAbs * a < y.natAbs * b) : x * (a : Int) + y * (b : Int) = sg (decide (y < 0)) (y.natAbs * b - x.natAbs * a) := by
  rw [sg_one x a, sg_one y b, h]
  generalize x.natAbs * a = p at *
  generalize y.natAbs * b = q at *
  cases decide (y < 0) <;> simp [sg] <;> omega
theorem add_ge (x y : Int) (a b : Nat) (h : decide (x < 0) = !decide (y < 0)) (hl : y.natAbs * b ≤ x.natAbs * a) : x * (a : Int) + y * (b : Int) = sg (decide (x < 0)) (x.natAbs * a - y.natAbs * b) := by
  rw [sg_one x a, sg_one y b]
  have h2 : decide (y < 0) = !decide (x < 0) := by rw [h]; simp
  rw [h2]
  generalize x.natAbs * a = p at *
  generalize y.natAbs * b = q at *
  cases decide (x < 0) <;> simp [sg] <;> omega
/-- a sum, by the way of the program -/
theorem add_form (A B : Rat) (neg : Bool) (t : Nat) (ht : A.num * ((B.den / Nat.gcd A.den B.den : Nat) : Int) + B.num * ((A.den / Nat.gcd A.den B.den : Nat) : Int) = sg neg t) :
    sg neg (t / Nat.gcd (t % Nat.gcd A.den B.den) (Nat.gcd A.den B.den)) = (A + B).num ∧
    A.den / Nat.gcd A.den B.den * (B.den / Nat.gcd (t % Nat.gcd A.den B.den) (Nat.gcd A.den B.den)) = (A + B).den ∧ 1 ≤ Nat.gcd (t % Nat.gcd A.den B.den) (Nat.gcd A.den B.den) := by
  obtain ⟨e1, e2⟩ := radd_parts A B
  have hg : 1 ≤ Nat.gcd A.den B.den := Nat.gcd_pos_of_pos_left _ A.den_pos
  have hgd : Nat.gcd A.den B.den ∣ B.den := Nat.gcd_dvd_right _ _
  generalize Nat.gcd A.den B.den = g at *
  have hm : Nat.gcd (t % g) g = Nat.gcd t g := by rw [← Nat.gcd_rec, Nat.gcd_comm]
  have hta : (sg neg t).natAbs = t := by cases neg <;> simp [sg]
  rw [ht, hta] at e1 e2
  rw [hm]
  have hh : 1 ≤ Nat.gcd t g := Nat.gcd_pos_of_pos_right _ hg
  refine ⟨?_, ?_, hh⟩
  · rw [sg_quo neg t _ _ rfl hh (Nat.gcd_dvd_left _ _), e1]
  · rw [e2, Nat.mul_div_assoc _ (Nat.dvd_trans (Nat.gcd_dvd_right t g) hgd)]
/-- a pair of numbers of which both are ints -/
def ratS (neg : Bool) (n d : Nat) : Option (Int × Int) :=
  match fitI (sg neg n), fitI (sg false d) with
  | some a, some b => some (a, b)
  | _, _ => none
theorem ratS_fit (neg : Bool) (n d : Nat) (q : Rat) (h1 : sg neg n = q.num) (h2 : d = q.den) : ratS neg n d = fitR q := by
  unfold ratS
  rw [h1, h2]
  unfold fitR fitI sg
  have hd := q.den_pos
  simp only [Bool.false_eq_true, if_false]
  by_cases a : -9223372036854775808 ≤ q.num ∧ q.num ≤ 9223372036854775807
  · by_cases b : (q.den : Int) ≤ 9223372036854775807
    · rw [if_pos a, if_pos (by omega), if_pos ⟨a.1, a.2, b⟩]
    · rw [if_pos a, if_neg (by omega), if_neg (by omega)]
  · rw [if_neg a, if_neg (show ¬ (-9223372036854775808 ≤ q.num ∧ q.num ≤ 9223372036854775807 ∧ (q.den : Int) ≤ 9223372036854775807) from fun h => a ⟨h.1, h.2.1⟩)]
def numR (o : Option (Int × Int)) : Int := (o.map Prod.fst).getD 0
def denR (o : Option (Int × Int)) : Int := (o.map Prod.snd).getD 0
def okR (o : Option (Int × Int)) : Bool := o.isSome
def sumS (xn xd yn yd : Int) : Option (Int × Int) := if xd < 1 ∨ yd < 1 then none else fitR (rat xn xd + rat yn yd)
def mulS (xn xd yn yd : Int) : Option (Int × Int) := if xd < 1 ∨ yd < 1 then none else fitR (rat xn xd * rat yn yd)
def lowS (xn xd : Int) : Option (Int × Int) := if xd < 1 then none else some ((rat xn xd).num, ((rat xn xd).den : Int))
end Ex
end Go.Proofs.Ytbodidhggdggmaa
-- @@XEx7
/- ratio, and the product of two ratios, the program's. -/
namespace Go.Proofs.Ytbodidhggdggmaa
open Go.RowKit

theorem kept {B b : Nat} {w w1 : World} {o : Obj} (hb : Below B w w1) (hlt : b < B) (h : w.heap[b]? = some o) : w1.heap[b]? = some o := (hb.block b hlt).trans h
theorem cells2 {w : World} {b T : Nat} {x y : Value} (h : w.heap[b]? = some (.cells #[x, y] T (0, 0))) : w.cell? ⟨b, 0, none⟩ = some x ∧ w.cell? ⟨b, 1, none⟩ = some y ∧ w.frozen? ⟨b, 0, none⟩ = false ∧ w.frozen? ⟨b, 1, none⟩ = false := by
  refine ⟨?_, ?_, ?_, ?_⟩ <;> simp [World.cell?, World.frozen?, h]
theorem new1 (w : World) (o : Obj) : (w.alloc o).heap[w.heap.size]? = some o := heap_alloc_new w o
theorem old1 {w : World} {b : Nat} {o o' : Obj} (h : w.heap[b]? = some o) : (w.alloc o').heap[b]? = some o :=
  kept ((Below.refl w.heap.size w).alloc (Nat.le_refl _) o') (Array.getElem?_eq_some_iff.1 h).1 h
theorem blk3 (w : World) (o1 o2 o3 : Obj) : (((w.alloc o1).alloc o2).alloc o3).heap[w.heap.size]? = some o1 ∧ (((w.alloc o1).alloc o2).alloc o3).heap[w.heap.size + 1]? = some o2 ∧ (((w.alloc o1).alloc o2).alloc o3).heap[w.heap.size + 1 + 1]? = some o3 :=
  ⟨old1 (old1 (new1 w o1)), old1 (by have := new1 (w.alloc o1) o2; simpa using this), by have := new1 ((w.alloc o1).alloc o2) o3; simpa using this⟩

theorem ratS_val (neg : Bool) (n d : Nat) :
    (okI (Ex.fitI (Ex.sg neg n)) = true → okI (Ex.fitI (Ex.sg false d)) = true → Ex.numR (Ex.ratS neg n d) = valI (Ex.fitI (Ex.sg neg n)) ∧ Ex.denR (Ex.ratS neg n d) = valI (Ex.fitI (Ex.sg false d)) ∧ Ex.okR (Ex.ratS neg n d) = true) ∧
    (okI (Ex.fitI (Ex.sg neg n)) = false ∨ okI (Ex.fitI (Ex.sg false d)) = false → Ex.numR (Ex.ratS neg n d) = 0 ∧ Ex.denR (Ex.ratS neg n d) = 0 ∧ Ex.okR (Ex.ratS neg n d) = false) := by
  unfold Ex.ratS
  cases Ex.fitI (Ex.sg neg n) <;> cases Ex.fitI (Ex.sg false d) <;> simp [okI, valI, Ex.numR, Ex.denR, Ex.okR]

set_option maxHeartbeats 1000000 in
theorem ratio_any (neg : Bool) (n d : Nat) (a b c e : Int) (w : World) (ha : a = hiW n) (hb : b = loW n) (hc : c = hiW d) (he : e = loW d) :
    Calls Try.prog 86 #[.bool neg, .agg #[.int .u64 a, .int .u64 b], .agg #[.int .u64 c, .int .u64 e]] w fun e w' => e = .returned (.tuple #[.agg #[.int .i64 (Ex.numR (Ex.ratS neg n d)), .int .i64 (Ex.denR (Ex.ratS neg n d))], .bool (Ex.okR (Ex.ratS neg n d))]) ∧ Below w.heap.size w w' := by
  subst ha; subst hb; subst hc; subst he
  obtain ⟨v1, v2⟩ := ratS_val neg n d
  have n1 := fun w => number_any neg _ _ n w rfl rfl
  have n2 := fun w => number_any false _ _ d w rfl rfl
  obtain ⟨x, hx⟩ : ∃ x, x = valI (Ex.fitI (Ex.sg neg n)) := ⟨_, rfl⟩
  obtain ⟨y, hy⟩ : ∃ y, y = valI (Ex.fitI (Ex.sg false d)) := ⟨_, rfl⟩
  obtain ⟨p, hp⟩ : ∃ p, p = okI (Ex.fitI (Ex.sg neg n)) := ⟨_, rfl⟩
  obtain ⟨q, hq⟩ : ∃ q, q = okI (Ex.fitI (Ex.sg false d)) := ⟨_, rfl⟩
  rw [← hx, ← hp] at n1
  rw [← hy, ← hq] at n2
  rw [← hx, ← hy, ← hp, ← hq] at v1
  rw [← hp, ← hq] at v2
  obtain ⟨X, hX⟩ : ∃ X, X = Ex.numR (Ex.ratS neg n d) := ⟨_, rfl⟩
  obtain ⟨Y, hY⟩ : ∃ Y, Y = Ex.denR (Ex.ratS neg n d) := ⟨_, rfl⟩
  obtain ⟨O, hO⟩ : ∃ O, O = Ex.okR (Ex.ratS neg n d) := ⟨_, rfl⟩
  rw [← hX, ← hY, ← hO] at v1 v2 ⊢
  clear hx hy hp hq hX hY hO
  replace n1 := hide n1; replace n2 := hide n2
  have hbw : ∀ o1 o2 o3, Below w.heap.size w (((w.alloc o1).alloc o2).alloc o3) := fun o1 o2 o3 => (((Below.refl _ _).alloc (Nat.le_refl _) _).alloc (by simp) _).alloc (by simp; omega) _
  have fin : (p = true ∧ q = true ∧ X = x ∧ Y = y ∧ O = true) ∨ ((p = false ∨ (p = true ∧ q = false)) ∧ X = 0 ∧ Y = 0 ∧ O = false) := by
    cases p <;> cases q
    · exact Or.inr ⟨Or.inl rfl, (v2 (Or.inl rfl)).1, (v2 (Or.inl rfl)).2.1, (v2 (Or.inl rfl)).2.2⟩
    · exact Or.inr ⟨Or.inl rfl, (v2 (Or.inl rfl)).1, (v2 (Or.inl rfl)).2.1, (v2 (Or.inl rfl)).2.2⟩
    · exact Or.inr ⟨Or.inr ⟨rfl, rfl⟩, (v2 (Or.inr rfl)).1, (v2 (Or.inr rfl)).2.1, (v2 (Or.inr rfl)).2.2⟩
    · exact Or.inl ⟨rfl, rfl, (v1 rfl rfl).1, (v1 rfl rfl).2.1, (v1 rfl rfl).2.2⟩
  clear v1 v2
  rcases fin with ⟨rfl, rfl, rfl, rfl, rfl⟩ | ⟨h, rfl, rfl, rfl⟩
  · go_enter Try.func86, Try.ntmps86
    go_wp2_with fail
    refine (unhide n1 _).mono ?_
    rintro e w1 ⟨rfl, hb1⟩
    clear n1
    obtain ⟨_, k2, k3⟩ := blk3 w (Obj.cells #[.int .u64 (hiW n), .int .u64 (loW n)] 120) (Obj.cells #[.int .u64 (hiW d), .int .u64 (loW d)] 120) (Obj.cells #[.int .i64 0, .int .i64 0] 60)
    replace k2 := kept hb1 (by simp) k2
    replace k3 := kept hb1 (by simp) k3
    replace hb1 := (hbw _ _ _).trans (hb1.mono (by simp; omega))
    obtain ⟨d0, d1, _, _⟩ := cells2 k2
    go_wp2_with fail
    refine (unhide n2 _).mono ?_
    rintro e w2 ⟨rfl, hb2⟩
    clear n2 d0 d1
    replace k3 := kept hb2 (Array.getElem?_eq_some_iff.1 k3).1 k3
    replace hb2 := hb1.trans (hb2.mono hb1.size)
    obtain ⟨c0, c1, f0, f1⟩ := cells2 k3
    clear k2 k3 hb1
    go_wp2_with fail
    refine bodyPost_ret (v := .tuple #[.agg #[.int .i64 X, .int .i64 Y], .bool true]) (by simp [results, Try.results86, go_sem, c0, c1]) rfl ⟨rfl, ?_⟩
    exact ((hb2.setCell (by simp; omega) _).setCell (by simp; omega) _)
  · rcases h with rfl | ⟨rfl, rfl⟩
    · go_enter Try.func86, Try.ntmps86
      go_wp2_with fail
      refine (unhide n1 _).mono ?_
      rintro e w1 ⟨rfl, hb1⟩
      clear n1
      obtain ⟨_, k2, k3⟩ := blk3 w (Obj.cells #[.int .u64 (hiW n), .int .u64 (loW n)] 120) (Obj.cells #[.int .u64 (hiW d), .int .u64 (loW d)] 120) (Obj.cells #[.int .i64 0, .int .i64 0] 60)
      replace k2 := kept hb1 (by simp) k2
      replace k3 := kept hb1 (by simp) k3
      replace hb1 := (hbw _ _ _).trans (hb1.mono (by simp; omega))
      obtain ⟨d0, d1, _, _⟩ := cells2 k2
      go_wp2_with fail
      refine (unhide n2 _).mono ?_
      rintro e w2 ⟨rfl, hb2⟩
      clear n2 d0 d1
      replace k3 := kept hb2 (Array.getElem?_eq_some_iff.1 k3).1 k3
      replace hb2 := hb1.trans (hb2.mono hb1.size)
      obtain ⟨c0, c1, f0, f1⟩ := cells2 k3
      clear k2 k3 hb1
      go_wp2_with fail
      refine bodyPost_ret (v := .tuple #[.agg #[.int .i64 0, .int .i64 0], .bool false]) (by simp [results, Try.results86, go_sem, c0, c1]) rfl ⟨rfl, ?_⟩
      exact ((hb2.setCell (by simp; omega) _).setCell (by simp; omega) _)
    · go_enter Try.func86, Try.ntmps86
      go_wp2_with fail
      refine (unhide n1 _).mono ?_
      rintro e w1 ⟨rfl, hb1⟩
      clear n1
      obtain ⟨_, k2, k3⟩ := blk3 w (Obj.cells #[.int .u64 (hiW n), .int .u64 (loW n)] 120) (Obj.cells #[.int .u64 (hiW d), .int .u64 (loW d)] 120) (Obj.cells #[.int .i64 0, .int .i64 0] 60)
      replace k2 := kept hb1 (by simp) k2
      replace k3 := kept hb1 (by simp) k3
      replace hb1 := (hbw _ _ _).trans (hb1.mono (by simp; omega))
      obtain ⟨d0, d1, _, _⟩ := cells2 k2
      go_wp2_with fail
      refine (unhide n2 _).mono ?_
      rintro e w2 ⟨rfl, hb2⟩
      clear n2 d0 d1
      replace k3 := kept hb2 (Array.getElem?_eq_some_iff.1 k3).1 k3
      replace hb2 := hb1.trans (hb2.mono hb1.size)
      obtain ⟨c0, c1, f0, f1⟩ := cells2 k3
      clear k2 k3 hb1
      go_wp2_with fail
      refine bodyPost_ret (v := .tuple #[.agg #[.int .i64 0, .int .i64 0], .bool false]) (by simp [results, Try.results86, go_sem, c0, c1]) rfl ⟨rfl, ?_⟩
      exact ((hb2.setCell (by simp; omega) _).setCell (by simp; omega) _)
end Go.Proofs.Ytbodidhggdggmaa
-- @@XEx8
/- The product of two ratios, the program's. -/
namespace Go.Proofs.Ytbodidhggdggmaa
open Go.RowKit

theorem elow_all (xn xd : Int) (w : World) (hn : I64 xn) (hd : I64 xd) :
    Calls Try.prog 83 #[.agg #[.int .i64 xn, .int .i64 xd]] w fun e w' => e = .returned (.tuple #[.agg #[.int .i64 (Ex.numR (Ex.lowS xn xd)), .int .i64 (Ex.denR (Ex.lowS xn xd))], .bool (Ex.okR (Ex.lowS xn xd))]) ∧ Below w.heap.size w w' := by
  by_cases h : xd < 1
  · have : Ex.lowS xn xd = none := by unfold Ex.lowS; rw [if_pos h]
    rw [this]
    exact elow_bad xn xd w h
  · have : Ex.lowS xn xd = some ((Ex.rat xn xd).num, ((Ex.rat xn xd).den : Int)) := by unfold Ex.lowS; rw [if_neg h]
    rw [this]
    exact elow_any xn xd w hn hd (by omega)
theorem rlow_all (xn xd : Int) (w : World) (hn : I64 xn) (hd : I64 xd) :
    Calls Try.prog 71 #[.agg #[.int .i64 xn, .int .i64 xd]] w fun e w' => e = .returned (.tuple #[.agg #[.int .i64 (Ex.numR (Ex.lowS xn xd)), .int .i64 (Ex.denR (Ex.lowS xn xd))], .bool (Ex.okR (Ex.lowS xn xd))]) ∧ Below w.heap.size w w' := by
  by_cases h : xd < 1
  · have : Ex.lowS xn xd = none := by unfold Ex.lowS; rw [if_pos h]
    rw [this]
    exact rlow_bad xn xd w h
  · have : Ex.lowS xn xd = some ((Ex.rat xn xd).num, ((Ex.rat xn xd).den : Int)) := by unfold Ex.lowS; rw [if_neg h]
    rw [this]
    exact rlow_any xn xd w hn hd (by omega)

theorem set2 {w : World} {b T : Nat} {x y : Value} (h : w.heap[b]? = some (.cells #[x, y] T (0, 0))) (u v : Value) :
    ((w.setCell ⟨b, 0, none⟩ u).setCell ⟨b, 1, none⟩ v).heap[b]? = some (.cells #[u, v] T (0, 0)) := by
  simp [World.setCell, Array.getElem?_modify, h]
theorem set2o {w : World} {b c : Nat} {o : Obj} (u v : Value) (hc : c ≠ b) (h : w.heap[c]? = some o) : ((w.setCell ⟨b, 0, none⟩ u).setCell ⟨b, 1, none⟩ v).heap[c]? = some o := by
  rw [Below.heap_setCell _ _ _ _ hc, Below.heap_setCell _ _ _ _ hc, h]
theorem set2z (w : World) (b : Nat) (u v : Value) : ((w.setCell ⟨b, 0, none⟩ u).setCell ⟨b, 1, none⟩ v).heap.size = w.heap.size := by simp [World.setCell]

theorem quo_u64 (a g : Nat) (h : a < 18446744073709551616) : IntKind.u64.wrap ((a : Int) / (g : Int)) = ((a / g : Nat) : Int) ∧ IntKind.u64.wrap ((a : Int).tdiv (g : Int)) = ((a / g : Nat) : Int) := by
  have e : (a : Int).tdiv (g : Int) = (a : Int) / (g : Int) := Int.tdiv_eq_ediv_of_nonneg (by omega)
  have : IntKind.u64.wrap ((a : Int) / (g : Int)) = ((a / g : Nat) : Int) := by
    rw [← Int.natCast_ediv, Dv.wrapN _ (Nat.lt_of_le_of_lt (Nat.div_le_self _ _) h)]
  exact ⟨this, by rw [e]; exact this⟩

/-- What the beginning of Sum and Mul leaves. -/
theorem low_ok {xn xd : Int} (h : 1 ≤ xd) : Ex.numR (Ex.lowS xn xd) = (Ex.rat xn xd).num ∧ Ex.denR (Ex.lowS xn xd) = ((Ex.rat xn xd).den : Int) ∧ Ex.okR (Ex.lowS xn xd) = true := by
  have : Ex.lowS xn xd = some ((Ex.rat xn xd).num, ((Ex.rat xn xd).den : Int)) := by unfold Ex.lowS; rw [if_neg (by omega)]
  rw [this]; exact ⟨rfl, rfl, rfl⟩
theorem low_no {xn xd : Int} (h : xd < 1) : Ex.okR (Ex.lowS xn xd) = false := by
  have : Ex.lowS xn xd = none := by unfold Ex.lowS; rw [if_pos h]
  rw [this]; rfl

set_option maxHeartbeats 2000000 in
theorem emul_bad (xn xd yn yd : Int) (w : World) (h1 : I64 xn) (h2 : I64 xd) (h3 : I64 yn) (h4 : I64 yd) (hbad : xd < 1 ∨ yd < 1) :
    Calls Try.prog 81 #[.agg #[.int .i64 xn, .int .i64 xd], .agg #[.int .i64 yn, .int .i64 yd]] w fun e w' => e = .returned (.tuple #[.agg #[.int .i64 0, .int .i64 0], .bool false]) ∧ Below w.heap.size w w' := by
  have l1 := fun w => elow_all xn xd w h1 h2
  have l2 := fun w => elow_all yn yd w h3 h4
  have hk : Ex.okR (Ex.lowS xn xd) = false ∨ (Ex.okR (Ex.lowS xn xd) = true ∧ Ex.okR (Ex.lowS yn yd) = false) := by
    by_cases h : xd < 1
    · exact Or.inl (low_no h)
    · exact Or.inr ⟨(low_ok (by omega)).2.2, low_no (by omega)⟩
  obtain ⟨a0, _⟩ : ∃ a, a = Ex.numR (Ex.lowS xn xd) := ⟨_, rfl⟩
  generalize Ex.numR (Ex.lowS xn xd) = x0 at *
  generalize Ex.denR (Ex.lowS xn xd) = x1 at *
  generalize Ex.okR (Ex.lowS xn xd) = p at *
  generalize Ex.numR (Ex.lowS yn yd) = y0 at *
  generalize Ex.denR (Ex.lowS yn yd) = y1 at *
  generalize Ex.okR (Ex.lowS yn yd) = q at *
  have hbw : ∀ o1 o2 o3, Below w.heap.size w (((w.alloc o1).alloc o2).alloc o3) := fun o1 o2 o3 => (((Below.refl _ _).alloc (Nat.le_refl _) _).alloc (by simp) _).alloc (by simp; omega) _
  clear hbad
  replace l1 := hide l1; replace l2 := hide l2
  rcases hk with rfl | ⟨rfl, rfl⟩
  all_goals
    go_enter Try.func81, Try.ntmps81
    go_wp2_with fail
    refine (unhide l1 _).mono ?_
    rintro e w1 ⟨rfl, hb1⟩
    clear l1
    obtain ⟨k1, k2, k3⟩ := blk3 w (Obj.cells #[.int .i64 xn, .int .i64 xd] 60) (Obj.cells #[.int .i64 yn, .int .i64 yd] 60) (Obj.cells #[.int .i64 0, .int .i64 0] 60)
    replace k1 := kept hb1 (by simp; omega) k1
    replace k2 := kept hb1 (by simp) k2
    replace k3 := kept hb1 (by simp) k3
    replace hb1 := (hbw _ _ _).trans (hb1.mono (by simp; omega))
    obtain ⟨c0, c1, f0, f1⟩ := cells2 k1
    obtain ⟨d0, d1, g0, g1⟩ := cells2 k2
    go_wp2_with fail
    refine (unhide l2 _).mono ?_
    rintro e w2 ⟨rfl, hb2⟩
    clear l2 c0 c1 f0 f1 d0 d1 g0 g1
    have hz1 := (Array.getElem?_eq_some_iff.1 k3).1
    have m2 := kept hb2 (by rw [set2z]; omega) (set2o _ _ (by omega) k2)
    have m3 := kept hb2 (by rw [set2z]; omega) (set2o _ _ (by omega) k3)
    replace hb2 := ((hb1.setCell (Nat.le_refl _) _).setCell (Nat.le_refl _) _).trans (hb2.mono (by rw [set2z]; omega))
    clear k1 k2 k3 hb1
    obtain ⟨c0, c1, f0, f1⟩ := cells2 m2
    obtain ⟨d0, d1, g0, g1⟩ := cells2 m3
    go_wp2_with fail
    refine bodyPost_ret (v := .tuple #[.agg #[.int .i64 0, .int .i64 0], .bool false]) (by simp [results, Try.results81, go_sem, d0, d1]) rfl ⟨rfl, ?_⟩
    exact (((hb2.setCell (by simp) _).setCell (by simp) _).setCell (by simp; omega) _).setCell (by simp; omega) _
end Go.Proofs.Ytbodidhggdggmaa
-- @@XEx9
/- The product of two ratios, the program's: valid ratios. -/
namespace Go.Proofs.Ytbodidhggdggmaa
open Go.RowKit

theorem esz_nat (n : Nat) (w : World) (h : n < 9223372036854775808) :
    Calls Try.prog 85 #[.int .i64 n] w fun e w' => e = .returned (.int .u64 n) ∧ w' = w := by
  have := esize_any (n : Int) w ⟨by omega, by omega⟩
  simpa using this
theorem rsz_nat (n : Nat) (w : World) (h : n < 9223372036854775808) :
    Calls Try.prog 73 #[.int .i64 n] w fun e w' => e = .returned (.int .u64 n) ∧ w' = w := by
  have := size_any (n : Int) w ⟨by omega, by omega⟩
  simpa using this

set_option maxHeartbeats 400000 in
theorem emul_ok (xn xd yn yd : Int) (w : World) (h1 : I64 xn) (h2 : I64 xd) (h3 : I64 yn) (h4 : I64 yd) (hx1 : 1 ≤ xd) (hy1 : 1 ≤ yd) :
    Calls Try.prog 81 #[.agg #[.int .i64 xn, .int .i64 xd], .agg #[.int .i64 yn, .int .i64 yd]] w fun e w' => e = .returned (.tuple #[.agg #[.int .i64 (Ex.numR (Ex.mulS xn xd yn yd)), .int .i64 (Ex.denR (Ex.mulS xn xd yn yd))], .bool (Ex.okR (Ex.mulS xn xd yn yd))]) ∧ Below w.heap.size w w' := by
  have hms : Ex.mulS xn xd yn yd = Ex.fitR (Ex.rat xn xd * Ex.rat yn yd) := by unfold Ex.mulS; rw [if_neg (by omega)]
  rw [hms]
  have l1 := fun w => elow_any xn xd w h1 h2 hx1
  have l2 := fun w => elow_any yn yd w h3 h4 hy1
  have FA := low_facts xn xd h1 h2 hx1
  have FB := low_facts yn yd h3 h4 hy1
  have ia := FA.inum
  have ib := FB.inum
  have da : (Ex.rat xn xd).den < 9223372036854775808 := by have := FA.iden; unfold I64 at h2; omega
  have db : (Ex.rat yn yd).den < 9223372036854775808 := by have := FB.iden; unfold I64 at h4; omega
  clear hms FA FB
  generalize hA : Ex.rat xn xd = A at *
  generalize hB : Ex.rat yn yd = B at *
  obtain ⟨s, s1, s2, s3⟩ := sgn_prod A.num B.num
  have s4 : IntKind.i64.wrap s = s := IntWalk.i64_in _ (by unfold wrap64 at s1; omega)
  obtain ⟨neg, hneg⟩ : ∃ neg, neg = sgnB A.num B.num := ⟨_, rfl⟩
  obtain ⟨m1, m2⟩ := Ex.mul_form A B neg (fun h => sgn_t (hneg ▸ h)) (fun h => sgn_f (hneg ▸ h))
  rw [← hneg] at s3
  have hr := Ex.ratS_fit neg _ _ (A * B) m1 m2
  rw [← hr]
  have pd := A.den_pos
  have pe := B.den_pos
  obtain ⟨an, han⟩ : ∃ a, a = A.num := ⟨_, rfl⟩
  obtain ⟨bn, hbn⟩ : ∃ a, a = B.num := ⟨_, rfl⟩
  obtain ⟨ad, had⟩ : ∃ a, a = A.den := ⟨_, rfl⟩
  obtain ⟨bd, hbd⟩ : ∃ a, a = B.den := ⟨_, rfl⟩
  rw [← han, ← had] at l1
  rw [← hbn, ← hbd] at l2
  rw [← han, ← hbn] at s2
  rw [← han, ← hbn, ← had, ← hbd]
  rw [← han] at ia
  rw [← hbn] at ib
  rw [← had] at da pd
  rw [← hbd] at db pe
  clear hr m1 m2 hneg han hbn had hbd hA hB s1
  have na : an.natAbs < 18446744073709551616 := by unfold I64 at ia; omega
  have nb : bn.natAbs < 18446744073709551616 := by unfold I64 at ib; omega
  have gp : 0 < Nat.gcd an.natAbs bd := Nat.gcd_pos_of_pos_right _ pe
  have hp : 0 < Nat.gcd bn.natAbs ad := Nat.gcd_pos_of_pos_right _ pd
  have gc1 := fun w => gcd_u64 an.natAbs bd w
  have gc2 := fun w => gcd_u64 bn.natAbs ad w
  generalize Nat.gcd an.natAbs bd = g at *
  generalize Nat.gcd bn.natAbs ad = h at *
  have q1 := quo_u64 an.natAbs g na
  have q2 := quo_u64 bn.natAbs h nb
  have q3 := quo_u64 ad h (by omega)
  have q4 := quo_u64 bd g (by omega)
  have b1 : an.natAbs / g < 18446744073709551616 := Nat.lt_of_le_of_lt (Nat.div_le_self _ _) na
  have b2 : bn.natAbs / h < 18446744073709551616 := Nat.lt_of_le_of_lt (Nat.div_le_self _ _) nb
  have b3 : ad / h < 18446744073709551616 := Nat.lt_of_le_of_lt (Nat.div_le_self _ _) (by omega)
  have b4 : bd / g < 18446744073709551616 := Nat.lt_of_le_of_lt (Nat.div_le_self _ _) (by omega)
  obtain ⟨q1, q1'⟩ := q1
  obtain ⟨q2, q2'⟩ := q2
  obtain ⟨q3, q3'⟩ := q3
  obtain ⟨q4, q4'⟩ := q4
  generalize an.natAbs / g = p1 at *
  generalize bn.natAbs / h = p2 at *
  generalize ad / h = p3 at *
  generalize bd / g = p4 at *
  have hra := fun w => ratio_any neg (p1 * p2) (p3 * p4) _ _ _ _ w rfl rfl rfl rfl
  have ht1 := fun w => times_any p1 p2 _ _ w rfl rfl b1 b2
  have ht2 := fun w => times_any p3 p4 _ _ w rfl rfl b3 b4
  generalize p1 * p2 = N at *
  generalize p3 * p4 = D at *
  generalize Ex.numR (Ex.ratS neg N D) = X at *
  generalize Ex.denR (Ex.ratS neg N D) = Y at *
  generalize Ex.okR (Ex.ratS neg N D) = O at *
  have z1 : ¬ (g : Int) = 0 := by omega
  have z2 : ¬ g = 0 := by omega
  have z3 : ¬ (h : Int) = 0 := by omega
  have z4 : ¬ h = 0 := by omega
  have hbw : ∀ o1 o2 o3, Below w.heap.size w (((w.alloc o1).alloc o2).alloc o3) := fun o1 o2 o3 => (((Below.refl _ _).alloc (Nat.le_refl _) _).alloc (by simp) _).alloc (by simp; omega) _
  replace l1 := hide l1; replace l2 := hide l2; replace gc1 := hide gc1; replace gc2 := hide gc2; replace hra := hide hra; replace ht1 := hide ht1; replace ht2 := hide ht2
  clear gp hp pd pe b1 b2 b3 b4
  go_enter Try.func81, Try.ntmps81
  go_wp2_with fail
  refine (unhide l1 _).mono ?_
  rintro e w1 ⟨rfl, hb1⟩
  clear l1
  obtain ⟨k1, k2, k3⟩ := blk3 w (Obj.cells #[.int .i64 xn, .int .i64 xd] 60) (Obj.cells #[.int .i64 yn, .int .i64 yd] 60) (Obj.cells #[.int .i64 0, .int .i64 0] 60)
  replace k1 := kept hb1 (by simp; omega) k1
  replace k2 := kept hb1 (by simp) k2
  replace k3 := kept hb1 (by simp) k3
  replace hb1 := (hbw _ _ _).trans (hb1.mono (by simp; omega))
  obtain ⟨c0, c1, f0, f1⟩ := cells2 k1
  obtain ⟨d0, d1, g0, g1⟩ := cells2 k2
  go_wp2_with fail
  refine (unhide l2 _).mono ?_
  rintro e w2 ⟨rfl, hb2⟩
  clear l2 c0 c1 f0 f1 d0 d1 g0 g1
  have hz1 := (Array.getElem?_eq_some_iff.1 k3).1
  have m1 := kept hb2 (by rw [set2z]; omega) (set2 k1 (.int .i64 an) (.int .i64 ad))
  have m2 := kept hb2 (by rw [set2z]; omega) (set2o _ _ (by omega) k2)
  have m3 := kept hb2 (by rw [set2z]; omega) (set2o _ _ (by omega) k3)
  replace hb2 := ((hb1.setCell (Nat.le_refl _) _).setCell (Nat.le_refl _) _).trans (hb2.mono (by rw [set2z]; omega))
  clear k1 k2 k3 hb1
  obtain ⟨c0, c1, f0, f1⟩ := cells2 m2
  go_upto_region 5 with fail
  have n1 := set2o (w := w2) (b := w.heap.size + 1) (.int .i64 bn) (.int .i64 bd) (by omega) m1
  have n2 := set2 m2 (.int .i64 bn) (.int .i64 bd)
  have n3 := set2o (w := w2) (b := w.heap.size + 1) (.int .i64 bn) (.int .i64 bd) (by omega) m3
  have hb3 := (hb2.setCell (p := ⟨w.heap.size + 1, 0, none⟩) (by simp) (.int .i64 bn)).setCell (p := ⟨w.heap.size + 1, 1, none⟩) (by simp) (.int .i64 bd)
  clear c0 c1 f0 f1 m1 m2 m3 hb2 hz1
  go_cut [8, 9] (fun v8 v9 wr => v8 = .int .u64 (g : Int) ∧ v9 = .int .u64 (h : Int) ∧ wr.heap[w.heap.size]? = some (.cells #[.int .i64 an, .int .i64 ad] 60 (0, 0)) ∧ wr.heap[w.heap.size + 1]? = some (.cells #[.int .i64 bn, .int .i64 bd] 60 (0, 0)) ∧
     wr.heap[w.heap.size + 1 + 1]? = some (.cells #[.int .i64 0, .int .i64 0] 60 (0, 0)) ∧ Below w.heap.size w wr)
  case first =>
    obtain ⟨wx, hwx⟩ : ∃ wx, wx = (w2.setCell ⟨w.heap.size + 1, 0, none⟩ (.int .i64 bn)).setCell ⟨w.heap.size + 1, 1, none⟩ (.int .i64 bd) := ⟨_, rfl⟩
    rw [← hwx] at n1 n2 n3 hb3 ⊢
    clear hwx
    obtain ⟨c0, c1, _, _⟩ := cells2 n1
    obtain ⟨d0, d1, _, _⟩ := cells2 n2
    go_quiet ((first | (go_at_call 85; first | with_reducible exact Calls.quiet_of_same (esz_nat _ _ (by assumption)) | with_reducible exact Calls.quiet_of_same (esize_any _ _ (by assumption))) | (go_at_call 84; first | with_reducible exact Calls.quiet_of (unhide gc1 _) | with_reducible exact Calls.quiet_of (unhide gc2 _))))
    go_wp2
    go_meet
    exact ⟨rfl, rfl, n1, n2, n3, hb3.trans ((below_drewN _ _).mono hb3.size)⟩
  case rest =>
    obtain ⟨rfl, rfl, n1, n2, n3, hb3⟩ := hcut
    obtain ⟨c0, c1, _, _⟩ := cells2 n1
    obtain ⟨d0, d1, _, _⟩ := cells2 n2
    have hx1 : ∀ x : Ext wc, x.get.cell? ⟨w.heap.size, 0, none⟩ = some (.int .i64 an) := fun x => x.cell c0
    have hx2 : ∀ x : Ext wc, x.get.cell? ⟨w.heap.size, 1, none⟩ = some (.int .i64 ad) := fun x => x.cell c1
    have hx3 : ∀ x : Ext wc, x.get.cell? ⟨w.heap.size + 1, 0, none⟩ = some (.int .i64 bn) := fun x => x.cell d0
    have hx4 : ∀ x : Ext wc, x.get.cell? ⟨w.heap.size + 1, 1, none⟩ = some (.int .i64 bd) := fun x => x.cell d1
    have sg1 : ∀ z w, Calls Try.prog 87 #[.int .i64 z] w fun e w' => e = .returned (.int .i64 (cmpI z 0)) ∧ Below w.heap.size w w' := fun z w => (sign_any z w).mono fun _ _ ⟨a, b⟩ => ⟨a, b ▸ Below.refl _ _⟩
    have sz1 : ∀ z w, I64 z → Calls Try.prog 85 #[.int .i64 z] w fun e w' => e = .returned (.int .u64 z.natAbs) ∧ Below w.heap.size w w' := fun z w h => (esize_any z w h).mono fun _ _ ⟨a, b⟩ => ⟨a, b ▸ Below.refl _ _⟩
    have sz2 : ∀ (n : Nat) w, n < 9223372036854775808 → Calls Try.prog 85 #[.int .i64 n] w fun e w' => e = .returned (.int .u64 n) ∧ Below w.heap.size w w' := fun z w h => (esz_nat z w h).mono fun _ _ ⟨a, b⟩ => ⟨a, b ▸ Below.refl _ _⟩
    clear c0 c1 d0 d1 n1 n2
    replace sg1 := hide sg1; replace sz1 := hide sz1; replace sz2 := hide sz2
    go_wp2
    refine wp_region_ext_tail 33 (by rfl) (by kernel_rfl) ?_
    simp only [List.take_succ_cons, List.take_zero, List.drop_succ_cons, List.drop_zero]
    repeat (quiet_step ((first
      | (go_at_call 85; first | with_reducible exact Ext.calls (unhide sz2 _ _ (by assumption)) | with_reducible exact Ext.calls (unhide sz1 _ _ (by assumption)))
      | (go_at_call 87; with_reducible exact Ext.calls (unhide sg1 _ _))
      | (go_at_call 88; first | with_reducible exact Ext.calls (unhide ht1 _) | with_reducible exact Ext.calls (unhide ht2 _))
      | (go_at_call 86; with_reducible exact Ext.calls (unhide hra _)))))
    refine wpQuiet_nil ?_
    rintro w' ⟨x, rfl⟩
    have hbel := x.le
    have n4 := kept hbel (Array.getElem?_eq_some_iff.1 n3).1 n3
    obtain ⟨c0, c1, f0, f1⟩ := cells2 n4
    clear hx1 hx2 hx3 hx4 n3 n4
    go_wp2
    refine bodyPost_ret (v := .tuple #[.agg #[.int .i64 X, .int .i64 Y], .bool O]) (by simp [results, Try.results81, go_sem, c0, c1]) rfl ⟨rfl, ?_⟩
    exact ((hb3.trans (hbel.mono hb3.size)).setCell (by simp; omega) _).setCell (by simp; omega) _
end Go.Proofs.Ytbodidhggdggmaa
-- @@XMul
/- The product of two ratios, the reference's: valid ratios. -/
namespace Go.Proofs.Ytbodidhggdggmaa
open Go.RowKit
set_option maxHeartbeats 4000000 in
set_option maxRecDepth 100000 in
theorem rmul_ok (xn xd yn yd : Int) (w : World) (h1 : I64 xn) (h2 : I64 xd) (h3 : I64 yn) (h4 : I64 yd) (hx1 : 1 ≤ xd) (hy1 : 1 ≤ yd) :
    Calls Try.prog 54 #[.agg #[.int .i64 xn, .int .i64 xd], .agg #[.int .i64 yn, .int .i64 yd]] w fun e w' => e = .returned (.tuple #[.agg #[.int .i64 (Ex.numR (Ex.mulS xn xd yn yd)), .int .i64 (Ex.denR (Ex.mulS xn xd yn yd))], .bool (Ex.okR (Ex.mulS xn xd yn yd))]) ∧ Below w.heap.size w w' := by
  have hms : Ex.mulS xn xd yn yd = Ex.fitR (Ex.rat xn xd * Ex.rat yn yd) := by unfold Ex.mulS; rw [if_neg (by omega)]
  rw [hms]
  have l1 := fun w => rlow_any xn xd w h1 h2 hx1
  have l2 := fun w => rlow_any yn yd w h3 h4 hy1
  have FA := low_facts xn xd h1 h2 hx1
  have FB := low_facts yn yd h3 h4 hy1
  have ia := FA.inum
  have ib := FB.inum
  have da : (Ex.rat xn xd).den < 9223372036854775808 := by have := FA.iden; unfold I64 at h2; omega
  have db : (Ex.rat yn yd).den < 9223372036854775808 := by have := FB.iden; unfold I64 at h4; omega
  clear hms FA FB
  generalize hA : Ex.rat xn xd = A at *
  generalize hB : Ex.rat yn yd = B at *
  obtain ⟨sa, hsa⟩ : ∃ s, decide (A.num < 0) = s := ⟨_, rfl⟩
  obtain ⟨sb, hsb⟩ : ∃ s, decide (B.num < 0) = s := ⟨_, rfl⟩
  obtain ⟨m1, m2⟩ := Ex.mul_form A B (sa != sb) (fun h => by rw [← hsa, ← hsb] at h; by_cases x : A.num < 0 <;> by_cases y : B.num < 0 <;> simp [x, y] at h <;> omega) (fun h => by rw [← hsa, ← hsb] at h; by_cases x : A.num < 0 <;> by_cases y : B.num < 0 <;> simp [x, y] at h <;> omega)
  have hr := Ex.ratS_fit (sa != sb) _ _ (A * B) m1 m2
  rw [← hr]
  have pd := A.den_pos
  have pe := B.den_pos
  obtain ⟨an, han⟩ : ∃ a, a = A.num := ⟨_, rfl⟩
  obtain ⟨bn, hbn⟩ : ∃ a, a = B.num := ⟨_, rfl⟩
  obtain ⟨ad, had⟩ : ∃ a, a = A.den := ⟨_, rfl⟩
  obtain ⟨bd, hbd⟩ : ∃ a, a = B.den := ⟨_, rfl⟩
  rw [← han, ← had] at l1
  rw [← hbn, ← hbd] at l2
  rw [← han] at hsa
  rw [← hbn] at hsb
  rw [← han, ← hbn, ← had, ← hbd]
  rw [← han] at ia
  rw [← hbn] at ib
  rw [← had] at da pd
  rw [← hbd] at db pe
  clear hr m1 m2 han hbn had hbd hA hB
  have na : an.natAbs < 18446744073709551616 := by unfold I64 at ia; omega
  have nb : bn.natAbs < 18446744073709551616 := by unfold I64 at ib; omega
  have gp : 0 < Nat.gcd an.natAbs bd := Nat.gcd_pos_of_pos_right _ pe
  have hp : 0 < Nat.gcd bn.natAbs ad := Nat.gcd_pos_of_pos_right _ pd
  have sA := fun w => (size_any an w ia).mono fun e w' (h : e = .returned (.int .u64 an.natAbs) ∧ w' = w) => (⟨h.1, h.2 ▸ Below.refl _ _⟩ : e = .returned (.int .u64 an.natAbs) ∧ Below w.heap.size w w')
  have sB := fun w => (size_any bn w ib).mono fun e w' (h : e = .returned (.int .u64 bn.natAbs) ∧ w' = w) => (⟨h.1, h.2 ▸ Below.refl _ _⟩ : e = .returned (.int .u64 bn.natAbs) ∧ Below w.heap.size w w')
  have sAd := fun w => (rsz_nat ad w da).mono fun e w' (h : e = .returned (.int .u64 ad) ∧ w' = w) => (⟨h.1, h.2 ▸ Below.refl _ _⟩ : e = .returned (.int .u64 ad) ∧ Below w.heap.size w w')
  have sBd := fun w => (rsz_nat bd w db).mono fun e w' (h : e = .returned (.int .u64 bd) ∧ w' = w) => (⟨h.1, h.2 ▸ Below.refl _ _⟩ : e = .returned (.int .u64 bd) ∧ Below w.heap.size w w')
  have gc1 := fun w => (rgcd_any an.natAbs bd w).mono fun e w' (h : e = .returned (.int .u64 ((Nat.gcd an.natAbs bd : Nat) : Int)) ∧ ∃ n, w' = w.drewN n) => (⟨h.1, by obtain ⟨n, hn⟩ := h.2; rw [hn]; exact below_drewN _ _⟩ : e = .returned (.int .u64 ((Nat.gcd an.natAbs bd : Nat) : Int)) ∧ Below w.heap.size w w')
  have gc2 := fun w => (rgcd_any bn.natAbs ad w).mono fun e w' (h : e = .returned (.int .u64 ((Nat.gcd bn.natAbs ad : Nat) : Int)) ∧ ∃ n, w' = w.drewN n) => (⟨h.1, by obtain ⟨n, hn⟩ := h.2; rw [hn]; exact below_drewN _ _⟩ : e = .returned (.int .u64 ((Nat.gcd bn.natAbs ad : Nat) : Int)) ∧ Below w.heap.size w w')
  generalize Nat.gcd an.natAbs bd = g at *
  generalize Nat.gcd bn.natAbs ad = h at *
  have q1 := quo_u64 an.natAbs g na
  have q2 := quo_u64 bn.natAbs h nb
  have q3 := quo_u64 ad h (by omega)
  have q4 := quo_u64 bd g (by omega)
  have b1 : an.natAbs / g < 18446744073709551616 := Nat.lt_of_le_of_lt (Nat.div_le_self _ _) na
  have b2 : bn.natAbs / h < 18446744073709551616 := Nat.lt_of_le_of_lt (Nat.div_le_self _ _) nb
  have b3 : ad / h < 18446744073709551616 := Nat.lt_of_le_of_lt (Nat.div_le_self _ _) (by omega)
  have b4 : bd / g < 18446744073709551616 := Nat.lt_of_le_of_lt (Nat.div_le_self _ _) (by omega)
  obtain ⟨q1, q1d⟩ := q1
  obtain ⟨q2, q2d⟩ := q2
  obtain ⟨q3, q3d⟩ := q3
  obtain ⟨q4, q4d⟩ := q4
  generalize an.natAbs / g = p1 at *
  generalize bn.natAbs / h = p2 at *
  generalize ad / h = p3 at *
  generalize bd / g = p4 at *
  obtain ⟨nA, enA⟩ : ∃ x, an.natAbs = x := ⟨_, rfl⟩
  obtain ⟨nB, enB⟩ : ∃ x, bn.natAbs = x := ⟨_, rfl⟩
  simp only [enA] at sA gc1 q1 q1d na
  simp only [enB] at sB gc2 q2 q2d nb
  clear enA enB
  have pr1 := fun w => product_any p1 p2 _ _ rfl rfl b1 b2 w
  have pr2 := fun w => product_any p3 p4 _ _ rfl rfl b3 b4 w
  have hrv := ratS_val (sa != sb) (p1 * p2) (p3 * p4)
  generalize p1 * p2 = N at *
  generalize p3 * p4 = D at *
  have wh1 := fun w => rwhole_any (sa != sb) _ _ N w rfl rfl
  have wh2 := fun w => rwhole_any false _ _ D w rfl rfl
  generalize valI (Ex.fitI (Ex.sg (sa != sb) N)) = X at *
  generalize okI (Ex.fitI (Ex.sg (sa != sb) N)) = O1 at *
  generalize valI (Ex.fitI (Ex.sg false D)) = Y at *
  generalize okI (Ex.fitI (Ex.sg false D)) = O2 at *
  generalize Ex.ratS (sa != sb) N D = R at *
  have z1 : ¬ (g : Int) = 0 := by omega
  have z2 : ¬ g = 0 := by omega
  have z3 : ¬ (h : Int) = 0 := by omega
  have z4 : ¬ h = 0 := by omega
  obtain ⟨b2x, V2, hb2, hV2, st⟩ := (St.start w).new (Obj.cells #[.int .i64 xn, .int .i64 xd] 60)
  obtain ⟨b3x, V3, hb3, hV3, st⟩ := st.new (Obj.cells #[.int .i64 yn, .int .i64 yd] 60)
  obtain ⟨b4, V4, hb4, hV4, st⟩ := st.new (Obj.cells #[.int .i64 0, .int .i64 0] 60)
  have hc3 : b2x + 1 = b3x := by rw [← hb3, ← hV2, World.size_alloc, hb2]
  have hc4 : b3x + 1 = b4 := by rw [← hb4, ← hV3, World.size_alloc, hb3]
  have hb4w : w.heap.size ≤ b4 := by omega
  have d20 := st.cell 2 rfl 0 (v := .int .i64 xn) rfl
  have d21 := st.cell 2 rfl 1 (v := .int .i64 xd) rfl
  have k3 := st.get 1 rfl
  have k4 := st.get 0 rfl
  have hz := st.below
  clear st hb3 hb4 gp hp pd pe b1 b2 b3
  replace l1 := hide l1; replace l2 := hide l2; replace gc1 := hide gc1; replace gc2 := hide gc2; replace sA := hide sA; replace sB := hide sB; replace sAd := hide sAd; replace sBd := hide sBd; replace pr1 := hide pr1; replace pr2 := hide pr2; replace wh1 := hide wh1; replace wh2 := hide wh2; replace hrv := hide hrv
  replace q1 := hide q1; replace q2 := hide q2; replace q3 := hide q3; replace q4 := hide q4; replace q1d := hide q1d; replace q2d := hide q2d; replace q3d := hide q3d; replace q4d := hide q4d; replace hsa := hide hsa; replace hsb := hide hsb
  replace hz := hide hz; replace k3 := hide k3; replace k4 := hide k4; replace hb2 := hide hb2; replace hc3 := hide hc3; replace hc4 := hide hc4; replace hV2 := hide hV2; replace hV3 := hide hV3; replace hV4 := hide hV4
  go_enter Try.func54, Try.ntmps54
  go_upto_region 1 with fail
  rw [unhide hb2, unhide hc3, unhide hc4, unhide hV2, unhide hV3, unhide hV4]
  clear hb2 hc3 hc4 hV2 hV3 hV4
  go_wp2_with fail
  refine (unhide l1 _).mono ?_
  rintro e w1 ⟨rfl, hb1⟩
  have hzx := (unhide hz).trans (hb1.mono (unhide hz).size)
  have k3x := kept hb1 (Array.getElem?_eq_some_iff.1 (unhide k3)).1 (unhide k3)
  have k4x := kept hb1 (Array.getElem?_eq_some_iff.1 (unhide k4)).1 (unhide k4)
  clear hz k3 k4 l1 hb1 d20 d21
  obtain ⟨b6, V6, hb6, hV6, st⟩ := (St.start w1).new (Obj.cells #[.int .i64 an, .int .i64 ad] 60)
  have hz := hide (hzx.trans (st.below.mono hzx.size))
  have k3 := kept st.below (Array.getElem?_eq_some_iff.1 k3x).1 k3x
  have k4 := hide (kept st.below (Array.getElem?_eq_some_iff.1 k4x).1 k4x)
  have k6 := hide (st.get 0 rfl)
  have d30 : V6.cell? ⟨b3x, 0, none⟩ = some (.int .i64 yn) := (cell_of_row _ _ 0 _ _ _ k3).trans rfl
  have d31 : V6.cell? ⟨b3x, 1, none⟩ = some (.int .i64 yd) := (cell_of_row _ _ 1 _ _ _ k3).trans rfl
  clear st k3 k3x k4x hzx
  replace hb6 := hide hb6; replace hV6 := hide hV6; replace d30 := hide d30; replace d31 := hide d31
  go_upto_region 2 with fail
  rw [unhide hV6]
  try rw [unhide hb6]
  clear hb6 hV6
  replace d30 := unhide d30; replace d31 := unhide d31
  go_wp2_with fail
  refine (unhide l2 _).mono ?_
  rintro e w2 ⟨rfl, hb1⟩
  have hzx := (unhide hz).trans (hb1.mono (unhide hz).size)
  have k4x := kept hb1 (Array.getElem?_eq_some_iff.1 (unhide k4)).1 (unhide k4)
  have k6x := kept hb1 (Array.getElem?_eq_some_iff.1 (unhide k6)).1 (unhide k6)
  clear hz k4 k6 l2 hb1 d30 d31
  obtain ⟨b8, V8, hb8, hV8, st⟩ := (St.start w2).new (Obj.cells #[.int .i64 bn, .int .i64 bd] 60)
  have hz := hide (hzx.trans (st.below.mono hzx.size))
  have k4 := hide (kept st.below (Array.getElem?_eq_some_iff.1 k4x).1 k4x)
  have k6 := kept st.below (Array.getElem?_eq_some_iff.1 k6x).1 k6x
  have k8 := st.get 0 rfl
  have f60 : V8.cell? ⟨b6, 0, none⟩ = some (.int .i64 an) := (cell_of_row _ _ 0 _ _ _ k6).trans rfl
  have f61 : V8.cell? ⟨b6, 1, none⟩ = some (.int .i64 (ad : Int)) := (cell_of_row _ _ 1 _ _ _ k6).trans rfl
  have f80 : V8.cell? ⟨b8, 0, none⟩ = some (.int .i64 bn) := (cell_of_row _ _ 0 _ _ _ k8).trans rfl
  have f81 : V8.cell? ⟨b8, 1, none⟩ = some (.int .i64 (bd : Int)) := (cell_of_row _ _ 1 _ _ _ k8).trans rfl
  clear st k6 k8 k6x k4x hzx
  replace hb8 := hide hb8; replace hV8 := hide hV8
  go_upto_region 5 with fail
  rw [unhide hV8]
  try rw [unhide hb8]
  clear hb8 hV8
  obtain ⟨w6, rfl⟩ : ∃ W : World, W = V8 := ⟨_, rfl⟩
  refine wp_region_frontG 7 (fun _ _ w' => Below w6.heap.size w6 w') (fun wa wb => Below wa.heap.size wa wb)
    (fun ix v w' => match ix with
      | 0 => v = .pointer (some ⟨b6, 0, none⟩)
      | 1 => v = .int .i64 an
      | 2 => v = .int .u64 (nA : Int)
      | 3 => v = .pointer (some ⟨b8, 1, none⟩)
      | 4 => v = .int .i64 (bd : Int)
      | 5 => v = .int .u64 (bd : Int)
      | 6 => v = .int .u64 (g : Int)
      | _ => True) (by rfl) (by kernel_rfl) ?_ ?_ ?_ ?_
  · exact (Below.refl _ _).drew
  · intro wa wb hR ix v hv
    match ix, hv with
    | 0, h => exact h
    | 1, h => exact h
    | 2, h => exact h
    | 3, h => exact h
    | 4, h => exact h
    | 5, h => exact h
    | 6, h => exact h
    | _ + 7, _ => trivial
  · intro ix hix
    obtain rfl | rfl | rfl | rfl | rfl | rfl | rfl : ix = 0 ∨ ix = 1 ∨ ix = 2 ∨ ix = 3 ∨ ix = 4 ∨ ix = 5 ∨ ix = 6 := by omega
    · refine FrontStep.of [] _ rfl (by kernel_rfl) ?_
      intro vs LL wq hLL hC hf
      simp only [putL, List.foldl_nil]
      go_wp2_with fail
      first | exact Below.refl _ _ | exact hC | exact ⟨hC, Below.refl _ _⟩ | exact ⟨hC, Below.refl _ _, by omega⟩ | exact ⟨Below.refl _ _, by omega⟩
    · refine FrontStep.of [0] _ rfl (by kernel_rfl) ?_
      intro vs LL wq hLL hC hf
      simp only [putL, List.foldl_nil, List.foldl_cons, List.getElem?_cons_zero]
      have e0 : vs 0 = _ := hf 0 (by simp)
      rw [e0]
      have g0 := cell_under f60 hC
      go_wp2_with fail
      first | exact Below.refl _ _ | exact hC | exact ⟨hC, Below.refl _ _⟩ | exact ⟨hC, Below.refl _ _, by omega⟩ | exact ⟨Below.refl _ _, by omega⟩
    · refine FrontStep.of [1] _ rfl (by kernel_rfl) ?_
      intro vs LL wq hLL hC hf
      simp only [putL, List.foldl_nil, List.foldl_cons, List.getElem?_cons_zero, List.getElem?_cons_succ]
      have e1 : vs 1 = _ := hf 1 (by simp)
      rw [e1]
      have hcq := unhide sA wq
      replace hcq := hide hcq
      go_wp2_with fail
      refine (unhide hcq).mono ?_
      rintro e wz ⟨rfl, hbz⟩
      clear hcq
      replace hbz := hide hbz
      go_wp2_with fail
      first | exact ⟨hC.trans ((unhide hbz).mono hC.size), unhide hbz⟩ | exact hC.trans ((unhide hbz).mono hC.size) | exact ⟨hC.trans ((unhide hbz).mono hC.size), unhide hbz, rfl⟩
    · refine FrontStep.of [] _ rfl (by kernel_rfl) ?_
      intro vs LL wq hLL hC hf
      simp only [putL, List.foldl_nil]
      go_wp2_with fail
      first | exact Below.refl _ _ | exact hC | exact ⟨hC, Below.refl _ _⟩ | exact ⟨hC, Below.refl _ _, by omega⟩ | exact ⟨Below.refl _ _, by omega⟩
    · refine FrontStep.of [3] _ rfl (by kernel_rfl) ?_
      intro vs LL wq hLL hC hf
      simp only [putL, List.foldl_nil, List.foldl_cons, List.getElem?_cons_zero, List.getElem?_cons_succ]
      have e3 : vs 3 = _ := hf 3 (by simp)
      rw [e3]
      have g0 := cell_under f81 hC
      go_wp2_with fail
      first | exact Below.refl _ _ | exact hC | exact ⟨hC, Below.refl _ _⟩ | exact ⟨hC, Below.refl _ _, by omega⟩ | exact ⟨Below.refl _ _, by omega⟩
    · refine FrontStep.of [2, 4] _ rfl (by kernel_rfl) ?_
      intro vs LL wq hLL hC hf
      simp only [putL, List.foldl_nil, List.foldl_cons, List.getElem?_cons_zero, List.getElem?_cons_succ]
      have e2 : vs 2 = _ := hf 2 (by simp)
      rw [e2]
      have e4 : vs 4 = _ := hf 4 (by simp)
      rw [e4]
      have hcq := unhide sBd wq
      replace hcq := hide hcq
      go_wp2_with fail
      refine (unhide hcq).mono ?_
      rintro e wz ⟨rfl, hbz⟩
      clear hcq
      replace hbz := hide hbz
      go_wp2_with fail
      first | exact ⟨hC.trans ((unhide hbz).mono hC.size), unhide hbz⟩ | exact hC.trans ((unhide hbz).mono hC.size) | exact ⟨hC.trans ((unhide hbz).mono hC.size), unhide hbz, rfl⟩
    · refine FrontStep.of [2, 5] _ rfl (by kernel_rfl) ?_
      intro vs LL wq hLL hC hf
      simp only [putL, List.foldl_nil, List.foldl_cons, List.getElem?_cons_zero, List.getElem?_cons_succ]
      have e2 : vs 2 = _ := hf 2 (by simp)
      rw [e2]
      have e5 : vs 5 = _ := hf 5 (by simp)
      rw [e5]
      have hcq := unhide gc1 wq
      replace hcq := hide hcq
      go_wp2_with fail
      refine (unhide hcq).mono ?_
      rintro e wz ⟨rfl, hbz⟩
      clear hcq
      replace hbz := hide hbz
      go_wp2_with fail
      first | exact ⟨hC.trans ((unhide hbz).mono hC.size), unhide hbz⟩ | exact hC.trans ((unhide hbz).mono hC.size) | exact ⟨hC.trans ((unhide hbz).mono hC.size), unhide hbz, rfl⟩
  · intro vs LL wq hLL hC hf
    have e6 : vs 6 = _ := hf 6 (by omega)
    rw [putSome_all]
    simp only [putL, List.range, List.range.loop, List.foldl_nil, List.foldl_cons, List.getElem?_cons_zero, List.getElem?_cons_succ, List.drop_succ_cons, List.drop_zero]
    rw [e6]
    replace f60 := cell_under f60 hC
    replace f61 := cell_under f61 hC
    replace f80 := cell_under f80 hC
    replace f81 := cell_under f81 hC
    replace hz := hide ((unhide hz).trans (hC.mono (unhide hz).size))
    replace k4 := hide (kept hC (Array.getElem?_eq_some_iff.1 (unhide k4)).1 (unhide k4))
    clear e6 hf hLL hC
    obtain ⟨w6, rfl⟩ : ∃ W : World, W = wq := ⟨_, rfl⟩
    go_simp
    go_wp2_with fail
    refine wp_region_frontG 7 (fun _ _ w' => Below w6.heap.size w6 w') (fun wa wb => Below wa.heap.size wa wb)
      (fun ix v w' => match ix with
        | 0 => v = .pointer (some ⟨b8, 0, none⟩)
        | 1 => v = .int .i64 bn
        | 2 => v = .int .u64 (nB : Int)
        | 3 => v = .pointer (some ⟨b6, 1, none⟩)
        | 4 => v = .int .i64 (ad : Int)
        | 5 => v = .int .u64 (ad : Int)
        | 6 => v = .int .u64 (h : Int)
        | _ => True) (by rfl) (by kernel_rfl) ?_ ?_ ?_ ?_
    · exact (Below.refl _ _).drew
    · intro wa wb hR ix v hv
      match ix, hv with
      | 0, h => exact h
      | 1, h => exact h
      | 2, h => exact h
      | 3, h => exact h
      | 4, h => exact h
      | 5, h => exact h
      | 6, h => exact h
      | _ + 7, _ => trivial
    · intro ix hix
      obtain rfl | rfl | rfl | rfl | rfl | rfl | rfl : ix = 0 ∨ ix = 1 ∨ ix = 2 ∨ ix = 3 ∨ ix = 4 ∨ ix = 5 ∨ ix = 6 := by omega
      · refine FrontStep.of [] _ rfl (by kernel_rfl) ?_
        intro vs LL wq hLL hC hf
        simp only [putL, List.foldl_nil]
        go_wp2_with fail
        first | exact Below.refl _ _ | exact hC | exact ⟨hC, Below.refl _ _⟩ | exact ⟨hC, Below.refl _ _, by omega⟩ | exact ⟨Below.refl _ _, by omega⟩
      · refine FrontStep.of [0] _ rfl (by kernel_rfl) ?_
        intro vs LL wq hLL hC hf
        simp only [putL, List.foldl_nil, List.foldl_cons, List.getElem?_cons_zero]
        have e0 : vs 0 = _ := hf 0 (by simp)
        rw [e0]
        have g0 := cell_under f80 hC
        go_wp2_with fail
        first | exact Below.refl _ _ | exact hC | exact ⟨hC, Below.refl _ _⟩ | exact ⟨hC, Below.refl _ _, by omega⟩ | exact ⟨Below.refl _ _, by omega⟩
      · refine FrontStep.of [1] _ rfl (by kernel_rfl) ?_
        intro vs LL wq hLL hC hf
        simp only [putL, List.foldl_nil, List.foldl_cons, List.getElem?_cons_zero, List.getElem?_cons_succ]
        have e1 : vs 1 = _ := hf 1 (by simp)
        rw [e1]
        have hcq := unhide sB wq
        replace hcq := hide hcq
        go_wp2_with fail
        refine (unhide hcq).mono ?_
        rintro e wz ⟨rfl, hbz⟩
        clear hcq
        replace hbz := hide hbz
        go_wp2_with fail
        first | exact ⟨hC.trans ((unhide hbz).mono hC.size), unhide hbz⟩ | exact hC.trans ((unhide hbz).mono hC.size) | exact ⟨hC.trans ((unhide hbz).mono hC.size), unhide hbz, rfl⟩
      · refine FrontStep.of [] _ rfl (by kernel_rfl) ?_
        intro vs LL wq hLL hC hf
        simp only [putL, List.foldl_nil]
        go_wp2_with fail
        first | exact Below.refl _ _ | exact hC | exact ⟨hC, Below.refl _ _⟩ | exact ⟨hC, Below.refl _ _, by omega⟩ | exact ⟨Below.refl _ _, by omega⟩
      · refine FrontStep.of [3] _ rfl (by kernel_rfl) ?_
        intro vs LL wq hLL hC hf
        simp only [putL, List.foldl_nil, List.foldl_cons, List.getElem?_cons_zero, List.getElem?_cons_succ]
        have e3 : vs 3 = _ := hf 3 (by simp)
        rw [e3]
        have g0 := cell_under f61 hC
        go_wp2_with fail
        first | exact Below.refl _ _ | exact hC | exact ⟨hC, Below.refl _ _⟩ | exact ⟨hC, Below.refl _ _, by omega⟩ | exact ⟨Below.refl _ _, by omega⟩
      · refine FrontStep.of [2, 4] _ rfl (by kernel_rfl) ?_
        intro vs LL wq hLL hC hf
        simp only [putL, List.foldl_nil, List.foldl_cons, List.getElem?_cons_zero, List.getElem?_cons_succ]
        have e2 : vs 2 = _ := hf 2 (by simp)
        rw [e2]
        have e4 : vs 4 = _ := hf 4 (by simp)
        rw [e4]
        have hcq := unhide sAd wq
        replace hcq := hide hcq
        go_wp2_with fail
        refine (unhide hcq).mono ?_
        rintro e wz ⟨rfl, hbz⟩
        clear hcq
        replace hbz := hide hbz
        go_wp2_with fail
        first | exact ⟨hC.trans ((unhide hbz).mono hC.size), unhide hbz⟩ | exact hC.trans ((unhide hbz).mono hC.size) | exact ⟨hC.trans ((unhide hbz).mono hC.size), unhide hbz, rfl⟩
      · refine FrontStep.of [2, 5] _ rfl (by kernel_rfl) ?_
        intro vs LL wq hLL hC hf
        simp only [putL, List.foldl_nil, List.foldl_cons, List.getElem?_cons_zero, List.getElem?_cons_succ]
        have e2 : vs 2 = _ := hf 2 (by simp)
        rw [e2]
        have e5 : vs 5 = _ := hf 5 (by simp)
        rw [e5]
        have hcq := unhide gc2 wq
        replace hcq := hide hcq
        go_wp2_with fail
        refine (unhide hcq).mono ?_
        rintro e wz ⟨rfl, hbz⟩
        clear hcq
        replace hbz := hide hbz
        go_wp2_with fail
        first | exact ⟨hC.trans ((unhide hbz).mono hC.size), unhide hbz⟩ | exact hC.trans ((unhide hbz).mono hC.size) | exact ⟨hC.trans ((unhide hbz).mono hC.size), unhide hbz, rfl⟩
    · intro vs LL wq hLL hC hf
      have e6 : vs 6 = _ := hf 6 (by omega)
      rw [putSome_all]
      simp only [putL, List.range, List.range.loop, List.foldl_nil, List.foldl_cons, List.getElem?_cons_zero, List.getElem?_cons_succ, List.drop_succ_cons, List.drop_zero]
      rw [e6]
      replace f60 := cell_under f60 hC
      replace f61 := cell_under f61 hC
      replace f80 := cell_under f80 hC
      replace f81 := cell_under f81 hC
      replace hz := hide ((unhide hz).trans (hC.mono (unhide hz).size))
      replace k4 := hide (kept hC (Array.getElem?_eq_some_iff.1 (unhide k4)).1 (unhide k4))
      clear e6 hf hLL hC
      obtain ⟨w6, rfl⟩ : ∃ W : World, W = wq := ⟨_, rfl⟩
      go_simp
      go_wp2_with fail
      refine wp_region_frontG 23 (fun _ _ w' => Below w6.heap.size w6 w') (fun wa wb => Below wa.heap.size wa wb)
        (fun ix v w' => match ix with
          | 0 => v = .pointer (some ⟨b6, 0, none⟩)
          | 1 => v = .int .i64 an
          | 2 => v = .bool sa
          | 3 => v = .pointer (some ⟨b8, 0, none⟩)
          | 4 => v = .int .i64 bn
          | 5 => v = .bool sb
          | 6 => v = .bool (sa != sb)
          | 7 => v = .pointer (some ⟨b6, 0, none⟩)
          | 8 => v = .int .i64 an
          | 9 => v = .int .u64 (nA : Int)
          | 10 => v = .int .u64 (g : Int)
          | 11 => v = .int .u64 (p1 : Int)
          | 12 => v = .pointer (some ⟨b8, 0, none⟩)
          | 13 => v = .int .i64 bn
          | 14 => v = .int .u64 (nB : Int)
          | 15 => v = .int .u64 (h : Int)
          | 16 => v = .int .u64 (p2 : Int)
          | 17 => v = .agg #[.int .u64 (hiW N), .int .u64 (loW N)]
          | 18 => v = .tuple #[.int .i64 X, .bool O1]
          | 19 => v = .tuple #[.int .i64 X, .bool O1]
          | 20 => v = .int .i64 X
          | 21 => v = .bool O1
          | 22 => v = .int .i64 X
          | _ => True) (by rfl) (by kernel_rfl) ?_ ?_ ?_ ?_
      · exact (Below.refl _ _).drew
      · intro wa wb hR ix v hv
        match ix, hv with
        | 0, h => exact h
        | 1, h => exact h
        | 2, h => exact h
        | 3, h => exact h
        | 4, h => exact h
        | 5, h => exact h
        | 6, h => exact h
        | 7, h => exact h
        | 8, h => exact h
        | 9, h => exact h
        | 10, h => exact h
        | 11, h => exact h
        | 12, h => exact h
        | 13, h => exact h
        | 14, h => exact h
        | 15, h => exact h
        | 16, h => exact h
        | 17, h => exact h
        | 18, h => exact h
        | 19, h => exact h
        | 20, h => exact h
        | 21, h => exact h
        | 22, h => exact h
        | _ + 23, _ => trivial
      · intro ix hix
        obtain rfl | rfl | rfl | rfl | rfl | rfl | rfl | rfl | rfl | rfl | rfl | rfl | rfl | rfl | rfl | rfl | rfl | rfl | rfl | rfl | rfl | rfl | rfl : ix = 0 ∨ ix = 1 ∨ ix = 2 ∨ ix = 3 ∨ ix = 4 ∨ ix = 5 ∨ ix = 6 ∨ ix = 7 ∨ ix = 8 ∨ ix = 9 ∨ ix = 10 ∨ ix = 11 ∨ ix = 12 ∨ ix = 13 ∨ ix = 14 ∨ ix = 15 ∨ ix = 16 ∨ ix = 17 ∨ ix = 18 ∨ ix = 19 ∨ ix = 20 ∨ ix = 21 ∨ ix = 22 := by omega
        · refine FrontStep.of [] _ rfl (by kernel_rfl) ?_
          intro vs LL wq hLL hC hf
          simp only [putL, List.foldl_nil]
          go_wp2_with fail
          first | exact Below.refl _ _ | exact hC | exact ⟨hC, Below.refl _ _⟩ | exact ⟨hC, Below.refl _ _, by omega⟩ | exact ⟨Below.refl _ _, by omega⟩
        · refine FrontStep.of [0] _ rfl (by kernel_rfl) ?_
          intro vs LL wq hLL hC hf
          simp only [putL, List.foldl_nil, List.foldl_cons, List.getElem?_cons_zero]
          have e0 : vs 0 = _ := hf 0 (by simp)
          rw [e0]
          have g0 := cell_under f60 hC
          go_wp2_with fail
          first | exact Below.refl _ _ | exact hC | exact ⟨hC, Below.refl _ _⟩ | exact ⟨hC, Below.refl _ _, by omega⟩ | exact ⟨Below.refl _ _, by omega⟩
        · refine FrontStep.of [1] _ rfl (by kernel_rfl) ?_
          intro vs LL wq hLL hC hf
          simp only [putL, List.foldl_nil, List.foldl_cons, List.getElem?_cons_zero, List.getElem?_cons_succ]
          have e1 : vs 1 = _ := hf 1 (by simp)
          rw [e1]
          have z1 := unhide hsa
          go_wp2_with fail
          first | exact Below.refl _ _ | exact hC | exact ⟨hC, Below.refl _ _⟩ | exact ⟨hC, Below.refl _ _, by omega⟩ | exact ⟨Below.refl _ _, by omega⟩
        · refine FrontStep.of [] _ rfl (by kernel_rfl) ?_
          intro vs LL wq hLL hC hf
          simp only [putL, List.foldl_nil]
          go_wp2_with fail
          first | exact Below.refl _ _ | exact hC | exact ⟨hC, Below.refl _ _⟩ | exact ⟨hC, Below.refl _ _, by omega⟩ | exact ⟨Below.refl _ _, by omega⟩
        · refine FrontStep.of [3] _ rfl (by kernel_rfl) ?_
          intro vs LL wq hLL hC hf
          simp only [putL, List.foldl_nil, List.foldl_cons, List.getElem?_cons_zero, List.getElem?_cons_succ]
          have e3 : vs 3 = _ := hf 3 (by simp)
          rw [e3]
          have g0 := cell_under f80 hC
          go_wp2_with fail
          first | exact Below.refl _ _ | exact hC | exact ⟨hC, Below.refl _ _⟩ | exact ⟨hC, Below.refl _ _, by omega⟩ | exact ⟨Below.refl _ _, by omega⟩
        · refine FrontStep.of [4] _ rfl (by kernel_rfl) ?_
          intro vs LL wq hLL hC hf
          simp only [putL, List.foldl_nil, List.foldl_cons, List.getElem?_cons_zero, List.getElem?_cons_succ]
          have e4 : vs 4 = _ := hf 4 (by simp)
          rw [e4]
          have z1 := unhide hsb
          go_wp2_with fail
          first | exact Below.refl _ _ | exact hC | exact ⟨hC, Below.refl _ _⟩ | exact ⟨hC, Below.refl _ _, by omega⟩ | exact ⟨Below.refl _ _, by omega⟩
        · refine FrontStep.of [2, 5] _ rfl (by kernel_rfl) ?_
          intro vs LL wq hLL hC hf
          simp only [putL, List.foldl_nil, List.foldl_cons, List.getElem?_cons_zero, List.getElem?_cons_succ]
          have e2 : vs 2 = _ := hf 2 (by simp)
          rw [e2]
          have e5 : vs 5 = _ := hf 5 (by simp)
          rw [e5]
          go_wp2_with fail
          cases sa <;> cases sb <;> first | exact Below.refl _ _ | exact ⟨Below.refl _ _, rfl⟩ | exact ⟨rfl, Below.refl _ _⟩ | (simp; exact Below.refl _ _)
        · refine FrontStep.of [] _ rfl (by kernel_rfl) ?_
          intro vs LL wq hLL hC hf
          simp only [putL, List.foldl_nil]
          go_wp2_with fail
          first | exact Below.refl _ _ | exact hC | exact ⟨hC, Below.refl _ _⟩ | exact ⟨hC, Below.refl _ _, by omega⟩ | exact ⟨Below.refl _ _, by omega⟩
        · refine FrontStep.of [7] _ rfl (by kernel_rfl) ?_
          intro vs LL wq hLL hC hf
          simp only [putL, List.foldl_nil, List.foldl_cons, List.getElem?_cons_zero, List.getElem?_cons_succ]
          have e7 : vs 7 = _ := hf 7 (by simp)
          rw [e7]
          have g0 := cell_under f60 hC
          go_wp2_with fail
          first | exact Below.refl _ _ | exact hC | exact ⟨hC, Below.refl _ _⟩ | exact ⟨hC, Below.refl _ _, by omega⟩ | exact ⟨Below.refl _ _, by omega⟩
        · refine FrontStep.of [8] _ rfl (by kernel_rfl) ?_
          intro vs LL wq hLL hC hf
          simp only [putL, List.foldl_nil, List.foldl_cons, List.getElem?_cons_zero, List.getElem?_cons_succ]
          have e8 : vs 8 = _ := hf 8 (by simp)
          rw [e8]
          have hcq := unhide sA wq
          replace hcq := hide hcq
          go_wp2_with fail
          refine (unhide hcq).mono ?_
          rintro e wz ⟨rfl, hbz⟩
          clear hcq
          replace hbz := hide hbz
          go_wp2_with fail
          first | exact ⟨hC.trans ((unhide hbz).mono hC.size), unhide hbz⟩ | exact hC.trans ((unhide hbz).mono hC.size) | exact ⟨hC.trans ((unhide hbz).mono hC.size), unhide hbz, rfl⟩
        · refine FrontStep.of [] _ rfl (by kernel_rfl) ?_
          intro vs LL wq hLL hC hf
          simp only [putL, List.foldl_nil]
          go_wp2_with fail
          first | exact Below.refl _ _ | exact hC | exact ⟨hC, Below.refl _ _⟩ | exact ⟨hC, Below.refl _ _, by omega⟩ | exact ⟨Below.refl _ _, by omega⟩
        · refine FrontStep.of [9, 10] _ rfl (by kernel_rfl) ?_
          intro vs LL wq hLL hC hf
          simp only [putL, List.foldl_nil, List.foldl_cons, List.getElem?_cons_zero, List.getElem?_cons_succ]
          have e9 : vs 9 = _ := hf 9 (by simp)
          rw [e9]
          have e10 : vs 10 = _ := hf 10 (by simp)
          rw [e10]
          have z1 := unhide q1
          have z2 := unhide q1d
          go_wp2_with fail
          first | exact Below.refl _ _ | exact hC | exact ⟨hC, Below.refl _ _⟩ | exact ⟨hC, Below.refl _ _, by omega⟩ | exact ⟨Below.refl _ _, by omega⟩
        · refine FrontStep.of [] _ rfl (by kernel_rfl) ?_
          intro vs LL wq hLL hC hf
          simp only [putL, List.foldl_nil]
          go_wp2_with fail
          first | exact Below.refl _ _ | exact hC | exact ⟨hC, Below.refl _ _⟩ | exact ⟨hC, Below.refl _ _, by omega⟩ | exact ⟨Below.refl _ _, by omega⟩
        · refine FrontStep.of [12] _ rfl (by kernel_rfl) ?_
          intro vs LL wq hLL hC hf
          simp only [putL, List.foldl_nil, List.foldl_cons, List.getElem?_cons_zero, List.getElem?_cons_succ]
          have e12 : vs 12 = _ := hf 12 (by simp)
          rw [e12]
          have g0 := cell_under f80 hC
          go_wp2_with fail
          first | exact Below.refl _ _ | exact hC | exact ⟨hC, Below.refl _ _⟩ | exact ⟨hC, Below.refl _ _, by omega⟩ | exact ⟨Below.refl _ _, by omega⟩
        · refine FrontStep.of [9, 13] _ rfl (by kernel_rfl) ?_
          intro vs LL wq hLL hC hf
          simp only [putL, List.foldl_nil, List.foldl_cons, List.getElem?_cons_zero, List.getElem?_cons_succ]
          have e9 : vs 9 = _ := hf 9 (by simp)
          rw [e9]
          have e13 : vs 13 = _ := hf 13 (by simp)
          rw [e13]
          have hcq := unhide sB wq
          replace hcq := hide hcq
          go_wp2_with fail
          refine (unhide hcq).mono ?_
          rintro e wz ⟨rfl, hbz⟩
          clear hcq
          replace hbz := hide hbz
          go_wp2_with fail
          first | exact ⟨hC.trans ((unhide hbz).mono hC.size), unhide hbz⟩ | exact hC.trans ((unhide hbz).mono hC.size) | exact ⟨hC.trans ((unhide hbz).mono hC.size), unhide hbz, rfl⟩
        · refine FrontStep.of [] _ rfl (by kernel_rfl) ?_
          intro vs LL wq hLL hC hf
          simp only [putL, List.foldl_nil]
          go_wp2_with fail
          first | exact Below.refl _ _ | exact hC | exact ⟨hC, Below.refl _ _⟩ | exact ⟨hC, Below.refl _ _, by omega⟩ | exact ⟨Below.refl _ _, by omega⟩
        · refine FrontStep.of [14, 15] _ rfl (by kernel_rfl) ?_
          intro vs LL wq hLL hC hf
          simp only [putL, List.foldl_nil, List.foldl_cons, List.getElem?_cons_zero, List.getElem?_cons_succ]
          have e14 : vs 14 = _ := hf 14 (by simp)
          rw [e14]
          have e15 : vs 15 = _ := hf 15 (by simp)
          rw [e15]
          have z1 := unhide q2
          have z2 := unhide q2d
          go_wp2_with fail
          first | exact Below.refl _ _ | exact hC | exact ⟨hC, Below.refl _ _⟩ | exact ⟨hC, Below.refl _ _, by omega⟩ | exact ⟨Below.refl _ _, by omega⟩
        · refine FrontStep.of [11, 14, 16] _ rfl (by kernel_rfl) ?_
          intro vs LL wq hLL hC hf
          simp only [putL, List.foldl_nil, List.foldl_cons, List.getElem?_cons_zero, List.getElem?_cons_succ]
          have e11 : vs 11 = _ := hf 11 (by simp)
          rw [e11]
          have e14 : vs 14 = _ := hf 14 (by simp)
          rw [e14]
          have e16 : vs 16 = _ := hf 16 (by simp)
          rw [e16]
          have hcq := unhide pr1 wq
          replace hcq := hide hcq
          go_wp2_with fail
          refine (unhide hcq).mono ?_
          rintro e wz ⟨rfl, hbz⟩
          clear hcq
          replace hbz := hide hbz
          go_wp2_with fail
          first | exact ⟨hC.trans ((unhide hbz).mono hC.size), unhide hbz⟩ | exact hC.trans ((unhide hbz).mono hC.size) | exact ⟨hC.trans ((unhide hbz).mono hC.size), unhide hbz, rfl⟩
        · refine FrontStep.of [6, 17] _ rfl (by kernel_rfl) ?_
          intro vs LL wq hLL hC hf
          simp only [putL, List.foldl_nil, List.foldl_cons, List.getElem?_cons_zero, List.getElem?_cons_succ]
          have e6 : vs 6 = _ := hf 6 (by simp)
          rw [e6]
          have e17 : vs 17 = _ := hf 17 (by simp)
          rw [e17]
          have hcq := unhide wh1 wq
          replace hcq := hide hcq
          go_wp2_with fail
          refine (unhide hcq).mono ?_
          rintro e wz ⟨rfl, hbz⟩
          clear hcq
          replace hbz := hide hbz
          go_wp2_with fail
          first | exact ⟨hC.trans ((unhide hbz).mono hC.size), unhide hbz⟩ | exact hC.trans ((unhide hbz).mono hC.size) | exact ⟨hC.trans ((unhide hbz).mono hC.size), unhide hbz, rfl⟩
        · refine FrontStep.of [18] _ rfl (by kernel_rfl) ?_
          intro vs LL wq hLL hC hf
          simp only [putL, List.foldl_nil, List.foldl_cons, List.getElem?_cons_zero, List.getElem?_cons_succ]
          have e18 : vs 18 = _ := hf 18 (by simp)
          rw [e18]
          go_wp2_with fail
          first | exact Below.refl _ _ | exact hC | exact ⟨hC, Below.refl _ _⟩ | exact ⟨hC, Below.refl _ _, by omega⟩ | exact ⟨Below.refl _ _, by omega⟩
        · refine FrontStep.of [19] _ rfl (by kernel_rfl) ?_
          intro vs LL wq hLL hC hf
          simp only [putL, List.foldl_nil, List.foldl_cons, List.getElem?_cons_zero, List.getElem?_cons_succ]
          have e19 : vs 19 = _ := hf 19 (by simp)
          rw [e19]
          go_wp2_with fail
          first | exact Below.refl _ _ | exact hC | exact ⟨hC, Below.refl _ _⟩ | exact ⟨hC, Below.refl _ _, by omega⟩ | exact ⟨Below.refl _ _, by omega⟩
        · refine FrontStep.of [19] _ rfl (by kernel_rfl) ?_
          intro vs LL wq hLL hC hf
          simp only [putL, List.foldl_nil, List.foldl_cons, List.getElem?_cons_zero, List.getElem?_cons_succ]
          have e19 : vs 19 = _ := hf 19 (by simp)
          rw [e19]
          go_wp2_with fail
          first | exact Below.refl _ _ | exact hC | exact ⟨hC, Below.refl _ _⟩ | exact ⟨hC, Below.refl _ _, by omega⟩ | exact ⟨Below.refl _ _, by omega⟩
        · refine FrontStep.of [0, 1, 2, 3, 4, 5, 6, 7, 8, 9, 10, 11, 12, 13, 14, 15, 16, 17, 18, 19, 20] _ rfl (by kernel_rfl) ?_
          intro vs LL wq hLL hC hf
          simp only [putL, List.foldl_nil, List.foldl_cons, List.getElem?_cons_zero, List.getElem?_cons_succ]
          have e0 : vs 0 = _ := hf 0 (by simp)
          rw [e0]
          have e1 : vs 1 = _ := hf 1 (by simp)
          rw [e1]
          have e2 : vs 2 = _ := hf 2 (by simp)
          rw [e2]
          have e3 : vs 3 = _ := hf 3 (by simp)
          rw [e3]
          have e4 : vs 4 = _ := hf 4 (by simp)
          rw [e4]
          have e5 : vs 5 = _ := hf 5 (by simp)
          rw [e5]
          have e6 : vs 6 = _ := hf 6 (by simp)
          rw [e6]
          have e7 : vs 7 = _ := hf 7 (by simp)
          rw [e7]
          have e8 : vs 8 = _ := hf 8 (by simp)
          rw [e8]
          have e9 : vs 9 = _ := hf 9 (by simp)
          rw [e9]
          have e10 : vs 10 = _ := hf 10 (by simp)
          rw [e10]
          have e11 : vs 11 = _ := hf 11 (by simp)
          rw [e11]
          have e12 : vs 12 = _ := hf 12 (by simp)
          rw [e12]
          have e13 : vs 13 = _ := hf 13 (by simp)
          rw [e13]
          have e14 : vs 14 = _ := hf 14 (by simp)
          rw [e14]
          have e15 : vs 15 = _ := hf 15 (by simp)
          rw [e15]
          have e16 : vs 16 = _ := hf 16 (by simp)
          rw [e16]
          have e17 : vs 17 = _ := hf 17 (by simp)
          rw [e17]
          have e18 : vs 18 = _ := hf 18 (by simp)
          rw [e18]
          have e19 : vs 19 = _ := hf 19 (by simp)
          rw [e19]
          have e20 : vs 20 = _ := hf 20 (by simp)
          rw [e20]
          go_wp2_with fail
          first | exact Below.refl _ _ | exact hC | exact ⟨hC, Below.refl _ _⟩ | exact ⟨hC, Below.refl _ _, by omega⟩ | exact ⟨Below.refl _ _, by omega⟩
      · intro vs LL wq hLL hC hf
        have e22 : vs 22 = _ := hf 22 (by omega)
        have e21 : vs 21 = _ := hf 21 (by omega)
        rw [putSome_all]
        simp only [putL, List.range, List.range.loop, List.foldl_nil, List.foldl_cons, List.getElem?_cons_zero, List.getElem?_cons_succ, List.drop_succ_cons, List.drop_zero]
        rw [e22, e21]
        replace f60 := cell_under f60 hC
        replace f61 := cell_under f61 hC
        replace f80 := cell_under f80 hC
        replace f81 := cell_under f81 hC
        replace hz := hide ((unhide hz).trans (hC.mono (unhide hz).size))
        replace k4 := hide (kept hC (Array.getElem?_eq_some_iff.1 (unhide k4)).1 (unhide k4))
        clear e22 e21 hf hLL hC
        obtain ⟨w6, rfl⟩ : ∃ W : World, W = wq := ⟨_, rfl⟩
        go_simp
        go_wp2_with fail
        refine wp_region_frontG 16 (fun _ _ w' => Below w6.heap.size w6 w') (fun wa wb => Below wa.heap.size wa wb)
          (fun ix v w' => match ix with
            | 0 => v = .pointer (some ⟨b6, 1, none⟩)
            | 1 => v = .int .i64 (ad : Int)
            | 2 => v = .int .u64 (ad : Int)
            | 3 => v = .int .u64 (h : Int)
            | 4 => v = .int .u64 (p3 : Int)
            | 5 => v = .pointer (some ⟨b8, 1, none⟩)
            | 6 => v = .int .i64 (bd : Int)
            | 7 => v = .int .u64 (bd : Int)
            | 8 => v = .int .u64 (g : Int)
            | 9 => v = .int .u64 (p4 : Int)
            | 10 => v = .agg #[.int .u64 (hiW D), .int .u64 (loW D)]
            | 11 => v = .tuple #[.int .i64 Y, .bool O2]
            | 12 => v = .tuple #[.int .i64 Y, .bool O2]
            | 13 => v = .int .i64 Y
            | 14 => v = .bool O2
            | 15 => v = .int .i64 Y
            | _ => True) (by rfl) (by kernel_rfl) ?_ ?_ ?_ ?_
        · exact (Below.refl _ _).drew
        · intro wa wb hR ix v hv
          match ix, hv with
          | 0, h => exact h
          | 1, h => exact h
          | 2, h => exact h
          | 3, h => exact h
          | 4, h => exact h
          | 5, h => exact h
          | 6, h => exact h
          | 7, h => exact h
          | 8, h => exact h
          | 9, h => exact h
          | 10, h => exact h
          | 11, h => exact h
          | 12, h => exact h
          | 13, h => exact h
          | 14, h => exact h
          | 15, h => exact h
          | _ + 16, _ => trivial
        · intro ix hix
          obtain rfl | rfl | rfl | rfl | rfl | rfl | rfl | rfl | rfl | rfl | rfl | rfl | rfl | rfl | rfl | rfl : ix = 0 ∨ ix = 1 ∨ ix = 2 ∨ ix = 3 ∨ ix = 4 ∨ ix = 5 ∨ ix = 6 ∨ ix = 7 ∨ ix = 8 ∨ ix = 9 ∨ ix = 10 ∨ ix = 11 ∨ ix = 12 ∨ ix = 13 ∨ ix = 14 ∨ ix = 15 := by omega
          · refine FrontStep.of [] _ rfl (by kernel_rfl) ?_
            intro vs LL wq hLL hC hf
            simp only [putL, List.foldl_nil]
            go_wp2_with fail
            first | exact Below.refl _ _ | exact hC | exact ⟨hC, Below.refl _ _⟩ | exact ⟨hC, Below.refl _ _, by omega⟩ | exact ⟨Below.refl _ _, by omega⟩
          · refine FrontStep.of [0] _ rfl (by kernel_rfl) ?_
            intro vs LL wq hLL hC hf
            simp only [putL, List.foldl_nil, List.foldl_cons, List.getElem?_cons_zero]
            have e0 : vs 0 = _ := hf 0 (by simp)
            rw [e0]
            have g0 := cell_under f61 hC
            go_wp2_with fail
            first | exact Below.refl _ _ | exact hC | exact ⟨hC, Below.refl _ _⟩ | exact ⟨hC, Below.refl _ _, by omega⟩ | exact ⟨Below.refl _ _, by omega⟩
          · refine FrontStep.of [1] _ rfl (by kernel_rfl) ?_
            intro vs LL wq hLL hC hf
            simp only [putL, List.foldl_nil, List.foldl_cons, List.getElem?_cons_zero, List.getElem?_cons_succ]
            have e1 : vs 1 = _ := hf 1 (by simp)
            rw [e1]
            have hcq := unhide sAd wq
            replace hcq := hide hcq
            go_wp2_with fail
            refine (unhide hcq).mono ?_
            rintro e wz ⟨rfl, hbz⟩
            clear hcq
            replace hbz := hide hbz
            go_wp2_with fail
            first | exact ⟨hC.trans ((unhide hbz).mono hC.size), unhide hbz⟩ | exact hC.trans ((unhide hbz).mono hC.size) | exact ⟨hC.trans ((unhide hbz).mono hC.size), unhide hbz, rfl⟩
          · refine FrontStep.of [] _ rfl (by kernel_rfl) ?_
            intro vs LL wq hLL hC hf
            simp only [putL, List.foldl_nil]
            go_wp2_with fail
            first | exact Below.refl _ _ | exact hC | exact ⟨hC, Below.refl _ _⟩ | exact ⟨hC, Below.refl _ _, by omega⟩ | exact ⟨Below.refl _ _, by omega⟩
          · refine FrontStep.of [2, 3] _ rfl (by kernel_rfl) ?_
            intro vs LL wq hLL hC hf
            simp only [putL, List.foldl_nil, List.foldl_cons, List.getElem?_cons_zero, List.getElem?_cons_succ]
            have e2 : vs 2 = _ := hf 2 (by simp)
            rw [e2]
            have e3 : vs 3 = _ := hf 3 (by simp)
            rw [e3]
            have z1 := unhide q3
            have z2 := unhide q3d
            go_wp2_with fail
            first | exact Below.refl _ _ | exact hC | exact ⟨hC, Below.refl _ _⟩ | exact ⟨hC, Below.refl _ _, by omega⟩ | exact ⟨Below.refl _ _, by omega⟩
          · refine FrontStep.of [] _ rfl (by kernel_rfl) ?_
            intro vs LL wq hLL hC hf
            simp only [putL, List.foldl_nil]
            go_wp2_with fail
            first | exact Below.refl _ _ | exact hC | exact ⟨hC, Below.refl _ _⟩ | exact ⟨hC, Below.refl _ _, by omega⟩ | exact ⟨Below.refl _ _, by omega⟩
          · refine FrontStep.of [5] _ rfl (by kernel_rfl) ?_
            intro vs LL wq hLL hC hf
            simp only [putL, List.foldl_nil, List.foldl_cons, List.getElem?_cons_zero, List.getElem?_cons_succ]
            have e5 : vs 5 = _ := hf 5 (by simp)
            rw [e5]
            have g0 := cell_under f81 hC
            go_wp2_with fail
            first | exact Below.refl _ _ | exact hC | exact ⟨hC, Below.refl _ _⟩ | exact ⟨hC, Below.refl _ _, by omega⟩ | exact ⟨Below.refl _ _, by omega⟩
          · refine FrontStep.of [2, 6] _ rfl (by kernel_rfl) ?_
            intro vs LL wq hLL hC hf
            simp only [putL, List.foldl_nil, List.foldl_cons, List.getElem?_cons_zero, List.getElem?_cons_succ]
            have e2 : vs 2 = _ := hf 2 (by simp)
            rw [e2]
            have e6 : vs 6 = _ := hf 6 (by simp)
            rw [e6]
            have hcq := unhide sBd wq
            replace hcq := hide hcq
            go_wp2_with fail
            refine (unhide hcq).mono ?_
            rintro e wz ⟨rfl, hbz⟩
            clear hcq
            replace hbz := hide hbz
            go_wp2_with fail
            first | exact ⟨hC.trans ((unhide hbz).mono hC.size), unhide hbz⟩ | exact hC.trans ((unhide hbz).mono hC.size) | exact ⟨hC.trans ((unhide hbz).mono hC.size), unhide hbz, rfl⟩
          · refine FrontStep.of [] _ rfl (by kernel_rfl) ?_
            intro vs LL wq hLL hC hf
            simp only [putL, List.foldl_nil]
            go_wp2_with fail
            first | exact Below.refl _ _ | exact hC | exact ⟨hC, Below.refl _ _⟩ | exact ⟨hC, Below.refl _ _, by omega⟩ | exact ⟨Below.refl _ _, by omega⟩
          · refine FrontStep.of [7, 8] _ rfl (by kernel_rfl) ?_
            intro vs LL wq hLL hC hf
            simp only [putL, List.foldl_nil, List.foldl_cons, List.getElem?_cons_zero, List.getElem?_cons_succ]
            have e7 : vs 7 = _ := hf 7 (by simp)
            rw [e7]
            have e8 : vs 8 = _ := hf 8 (by simp)
            rw [e8]
            have z1 := unhide q4
            have z2 := unhide q4d
            go_wp2_with fail
            first | exact Below.refl _ _ | exact hC | exact ⟨hC, Below.refl _ _⟩ | exact ⟨hC, Below.refl _ _, by omega⟩ | exact ⟨Below.refl _ _, by omega⟩
          · refine FrontStep.of [4, 7, 9] _ rfl (by kernel_rfl) ?_
            intro vs LL wq hLL hC hf
            simp only [putL, List.foldl_nil, List.foldl_cons, List.getElem?_cons_zero, List.getElem?_cons_succ]
            have e4 : vs 4 = _ := hf 4 (by simp)
            rw [e4]
            have e7 : vs 7 = _ := hf 7 (by simp)
            rw [e7]
            have e9 : vs 9 = _ := hf 9 (by simp)
            rw [e9]
            have hcq := unhide pr2 wq
            replace hcq := hide hcq
            go_wp2_with fail
            refine (unhide hcq).mono ?_
            rintro e wz ⟨rfl, hbz⟩
            clear hcq
            replace hbz := hide hbz
            go_wp2_with fail
            first | exact ⟨hC.trans ((unhide hbz).mono hC.size), unhide hbz⟩ | exact hC.trans ((unhide hbz).mono hC.size) | exact ⟨hC.trans ((unhide hbz).mono hC.size), unhide hbz, rfl⟩
          · refine FrontStep.of [10] _ rfl (by kernel_rfl) ?_
            intro vs LL wq hLL hC hf
            simp only [putL, List.foldl_nil, List.foldl_cons, List.getElem?_cons_zero, List.getElem?_cons_succ]
            have e10 : vs 10 = _ := hf 10 (by simp)
            rw [e10]
            have hcq := unhide wh2 wq
            replace hcq := hide hcq
            go_wp2_with fail
            refine (unhide hcq).mono ?_
            rintro e wz ⟨rfl, hbz⟩
            clear hcq
            replace hbz := hide hbz
            go_wp2_with fail
            first | exact ⟨hC.trans ((unhide hbz).mono hC.size), unhide hbz⟩ | exact hC.trans ((unhide hbz).mono hC.size) | exact ⟨hC.trans ((unhide hbz).mono hC.size), unhide hbz, rfl⟩
          · refine FrontStep.of [11] _ rfl (by kernel_rfl) ?_
            intro vs LL wq hLL hC hf
            simp only [putL, List.foldl_nil, List.foldl_cons, List.getElem?_cons_zero, List.getElem?_cons_succ]
            have e11 : vs 11 = _ := hf 11 (by simp)
            rw [e11]
            go_wp2_with fail
            first | exact Below.refl _ _ | exact hC | exact ⟨hC, Below.refl _ _⟩ | exact ⟨hC, Below.refl _ _, by omega⟩ | exact ⟨Below.refl _ _, by omega⟩
          · refine FrontStep.of [12] _ rfl (by kernel_rfl) ?_
            intro vs LL wq hLL hC hf
            simp only [putL, List.foldl_nil, List.foldl_cons, List.getElem?_cons_zero, List.getElem?_cons_succ]
            have e12 : vs 12 = _ := hf 12 (by simp)
            rw [e12]
            go_wp2_with fail
            first | exact Below.refl _ _ | exact hC | exact ⟨hC, Below.refl _ _⟩ | exact ⟨hC, Below.refl _ _, by omega⟩ | exact ⟨Below.refl _ _, by omega⟩
          · refine FrontStep.of [12] _ rfl (by kernel_rfl) ?_
            intro vs LL wq hLL hC hf
            simp only [putL, List.foldl_nil, List.foldl_cons, List.getElem?_cons_zero, List.getElem?_cons_succ]
            have e12 : vs 12 = _ := hf 12 (by simp)
            rw [e12]
            go_wp2_with fail
            first | exact Below.refl _ _ | exact hC | exact ⟨hC, Below.refl _ _⟩ | exact ⟨hC, Below.refl _ _, by omega⟩ | exact ⟨Below.refl _ _, by omega⟩
          · refine FrontStep.of [0, 1, 2, 3, 4, 5, 6, 7, 8, 9, 10, 11, 12, 13] _ rfl (by kernel_rfl) ?_
            intro vs LL wq hLL hC hf
            simp only [putL, List.foldl_nil, List.foldl_cons, List.getElem?_cons_zero, List.getElem?_cons_succ]
            have e0 : vs 0 = _ := hf 0 (by simp)
            rw [e0]
            have e1 : vs 1 = _ := hf 1 (by simp)
            rw [e1]
            have e2 : vs 2 = _ := hf 2 (by simp)
            rw [e2]
            have e3 : vs 3 = _ := hf 3 (by simp)
            rw [e3]
            have e4 : vs 4 = _ := hf 4 (by simp)
            rw [e4]
            have e5 : vs 5 = _ := hf 5 (by simp)
            rw [e5]
            have e6 : vs 6 = _ := hf 6 (by simp)
            rw [e6]
            have e7 : vs 7 = _ := hf 7 (by simp)
            rw [e7]
            have e8 : vs 8 = _ := hf 8 (by simp)
            rw [e8]
            have e9 : vs 9 = _ := hf 9 (by simp)
            rw [e9]
            have e10 : vs 10 = _ := hf 10 (by simp)
            rw [e10]
            have e11 : vs 11 = _ := hf 11 (by simp)
            rw [e11]
            have e12 : vs 12 = _ := hf 12 (by simp)
            rw [e12]
            have e13 : vs 13 = _ := hf 13 (by simp)
            rw [e13]
            go_wp2_with fail
            first | exact Below.refl _ _ | exact hC | exact ⟨hC, Below.refl _ _⟩ | exact ⟨hC, Below.refl _ _, by omega⟩ | exact ⟨Below.refl _ _, by omega⟩
        · intro vs LL wq hLL hC hf
          have e15 : vs 15 = _ := hf 15 (by omega)
          have e14 : vs 14 = _ := hf 14 (by omega)
          rw [putSome_all]
          simp only [putL, List.range, List.range.loop, List.foldl_nil, List.foldl_cons, List.getElem?_cons_zero, List.getElem?_cons_succ, List.drop_succ_cons, List.drop_zero]
          rw [e15, e14]
          replace f60 := cell_under f60 hC
          replace f61 := cell_under f61 hC
          replace f80 := cell_under f80 hC
          replace f81 := cell_under f81 hC
          replace hz := hide ((unhide hz).trans (hC.mono (unhide hz).size))
          replace k4 := hide (kept hC (Array.getElem?_eq_some_iff.1 (unhide k4)).1 (unhide k4))
          clear e15 e14 hf hLL hC
          obtain ⟨w6, rfl⟩ : ∃ W : World, W = wq := ⟨_, rfl⟩
          go_simp
          have hk4 := unhide k4
          obtain ⟨c0, c1, g0, g1⟩ := cells2 hk4
          have hz' := unhide hz
          clear hk4 k4 hz sA sB sAd sBd gc1 gc2 pr1 pr2 wh1 wh2 f60 f61 f80 f81 q1 q2 q3 q4 q1d q2d q3d q4d hsa hsb
          cases O1 with
          | false =>
            have hv := (unhide hrv).2 (Or.inl rfl)
            clear hrv
            replace hz' := hide hz'; replace hv := hide hv
            go_wp2_with fail
            refine bodyPost_ret (v := .tuple #[.agg #[.int .i64 0, .int .i64 0], .bool false]) (by simp [results, Try.results54, go_sem, c0, c1]) rfl ⟨by rw [(unhide hv).1, (unhide hv).2.1, (unhide hv).2.2], ?_⟩
            exact ((unhide hz').setCell hb4w _).setCell hb4w _
          | true =>
            cases O2 with
            | false =>
              have hv := (unhide hrv).2 (Or.inr rfl)
              clear hrv
              replace hz' := hide hz'; replace hv := hide hv
              go_wp2_with fail
              refine bodyPost_ret (v := .tuple #[.agg #[.int .i64 0, .int .i64 0], .bool false]) (by simp [results, Try.results54, go_sem, c0, c1]) rfl ⟨by rw [(unhide hv).1, (unhide hv).2.1, (unhide hv).2.2], ?_⟩
              exact ((unhide hz').setCell hb4w _).setCell hb4w _
            | true =>
              have hv := (unhide hrv).1 rfl rfl
              clear hrv
              replace hz' := hide hz'; replace hv := hide hv
              go_wp2_with fail
              refine bodyPost_ret (v := .tuple #[.agg #[.int .i64 X, .int .i64 Y], .bool true]) (by simp [results, Try.results54, go_sem, c0, c1]) rfl ⟨by rw [(unhide hv).1, (unhide hv).2.1, (unhide hv).2.2], ?_⟩
              exact ((unhide hz').setCell hb4w _).setCell hb4w _
end Go.Proofs.Ytbodidhggdggmaa
