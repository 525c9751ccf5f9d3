/- Plain law of the serialization of integers. No program in sight. -/
import Derived.WalkKit
namespace Go.Proofs.Ytcliegeooooonaa
namespace Wi
/-- the code of an integer -/
def zig (n : Int) : Nat := if n < 0 then (-2 * n - 1).toNat else (2 * n).toNat
/-- a code in groups of seven bits, the lowest ones first -/
def enc : Nat → Nat → List UInt8
  | 0, c => [UInt8.ofNat c]
  | f + 1, c => if c < 128 then [UInt8.ofNat c] else UInt8.ofNat (c % 128 + 128) :: enc f (c / 128)
def int (n : Int) : List UInt8 := enc 10 (zig n)
def txt (s : List UInt8) : List UInt8 := int s.length ++ s
def ints (l : List Int) : List UInt8 := int l.length ++ l.flatMap int
def txts (l : List (List UInt8)) : List UInt8 := int l.length ++ l.flatMap txt
def btxt (x : ByteArray) : List UInt8 := txt x.data.toList
def btxts (l : List ByteArray) : List UInt8 := int l.length ++ l.flatMap btxt
theorem zig_lt {n : Int} (h : -9223372036854775808 ≤ n ∧ n ≤ 9223372036854775807) : zig n < 18446744073709551616 := by unfold zig; split <;> omega
theorem enc_done (f c : Nat) (h : c < 128) : enc f c = [UInt8.ofNat c] := by
  cases f
  · rfl
  · simp [enc, h]
theorem enc_more (f c : Nat) (h : ¬ c < 128) : enc (f + 1) c = UInt8.ofNat (c % 128 + 128) :: enc f (c / 128) := by simp [enc, h]
theorem enc_len (f c : Nat) : 1 ≤ (enc f c).length ∧ (enc f c).length ≤ f + 1 := by
  induction f generalizing c with
  | zero => simp [enc]
  | succ f ih =>
    unfold enc
    split
    · simp
    · have := ih (c / 128)
      simp
      omega
theorem enc_fuel (f g c : Nat) (hf : c < 128 ^ (f + 1)) (hg : c < 128 ^ (g + 1)) : enc f c = enc g c := by
  induction f generalizing g c with
  | zero => rw [enc_done 0 c (by simpa using hf), enc_done g c (by simpa using hf)]
  | succ f ih =>
    by_cases h : c < 128
    · rw [enc_done _ c h, enc_done _ c h]
    · cases g with
      | zero => simp at hg; omega
      | succ g =>
        rw [enc_more _ c h, enc_more _ c h, ih g (c / 128)]
        · rw [Nat.pow_succ] at hf; exact Nat.div_lt_of_lt_mul (by omega)
        · rw [Nat.pow_succ] at hg; exact Nat.div_lt_of_lt_mul (by omega)
end Wi
end Go.Proofs.Ytcliegeooooonaa
