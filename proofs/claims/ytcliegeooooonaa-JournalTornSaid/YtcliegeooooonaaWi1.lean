/- wire.Int and the reference's Int. -/
import Derived.Test.YtcliegeooooonaaBui
import Derived.Test.YtcliegeooooonaaWiP
import Derived.Test.YtcliegeooooonaaSt
import Derived.Test.YtcliegeooooonaaShelf
namespace Go.Proofs.Ytcliegeooooonaa
open Go.RowKit

theorem byte_app (l : List UInt8) (u : UInt8) : Lib.byteCells (l ++ [u]) = Lib.byteCells l ++ [.int .u8 u.toNat] := by simp [Lib.byteCells]
theorem zig_neg (n : Int) (hn : I64 n) (h : n < 0) : bits .xor .u64 IntKind.u64.max (IntKind.u64.wrap (IntKind.u64.wrap n * 2)) = ((Wi.zig n : Nat) : Int) := by
  obtain ⟨h1, h2⟩ := hn
  have e : IntKind.u64.wrap (IntKind.u64.wrap n * 2) = ((2 * n + 18446744073709551616).toNat : Int) := by simp only [IntKind.wrap_u64]; omega
  have em : IntKind.u64.max = ((18446744073709551615 : Nat) : Int) := rfl
  rw [e, em, u64_xor_nat _ _ (by omega) (by omega)]
  have := Nat.xor_comm 18446744073709551615 (2 * n + 18446744073709551616).toNat
  have hx : (18446744073709551615 : Nat) ^^^ (2 * n + 18446744073709551616).toNat = 18446744073709551615 - (2 * n + 18446744073709551616).toNat := by
    have hk : (2 * n + 18446744073709551616).toNat < 2 ^ 64 := by omega
    generalize (2 * n + 18446744073709551616).toNat = k at *
    have h := BitVec.toNat_not (x := BitVec.ofNat 64 k)
    have h3 : (~~~ BitVec.ofNat 64 k) = BitVec.allOnes 64 ^^^ BitVec.ofNat 64 k := (BitVec.allOnes_xor).symm
    rw [h3, BitVec.toNat_xor, BitVec.toNat_allOnes, BitVec.toNat_ofNat, Nat.mod_eq_of_lt hk] at h
    exact h
  rw [hx]
  unfold Wi.zig
  rw [if_pos h]
  omega
theorem zig_pos (n : Int) (hn : I64 n) (h : ¬ n < 0) : IntKind.u64.wrap (IntKind.u64.wrap n * 2) = ((Wi.zig n : Nat) : Int) := by
  obtain ⟨h1, h2⟩ := hn
  unfold Wi.zig
  rw [if_neg h]
  simp only [IntKind.wrap_u64]
  omega
theorem or_top : ∀ d : Fin 256, d.val ||| 128 = d.val % 128 + 128 := by decide +kernel
theorem top_bit (c : Nat) : bits .or .u8 ((c : Int) % 256) 128 = (c : Int) % 128 + 128 := by
  have e : (c : Int) % 256 = ((c % 256 : Nat) : Int) := by omega
  rw [e, show (128 : Int) = ((128 : Nat) : Int) from rfl, u8_or_nat _ _ (by omega) (by omega)]
  have h := or_top ⟨c % 256, by omega⟩
  simp only at h
  rw [h]
  omega
theorem low_byte (c : Nat) (h : c < 128) : (c : Int) % 256 = (c : Int) := by omega
theorem bytes_low (pre : List UInt8) (c : Nat) (h : c < 128) : Lib.byteCells (pre ++ [UInt8.ofNat c]) = Lib.byteCells pre ++ [.int .u8 (c : Int)] := by
  rw [byte_app]
  have : (((UInt8.ofNat c).toNat : Nat) : Int) = (c : Int) := by simp; omega
  rw [this]
theorem bytes_top (pre : List UInt8) (c : Nat) : Lib.byteCells (pre ++ [UInt8.ofNat (c % 128 + 128)]) = Lib.byteCells pre ++ [.int .u8 ((c : Int) % 128 + 128)] := by
  rw [byte_app]
  have : (((UInt8.ofNat (c % 128 + 128)).toNat : Nat) : Int) = (c : Int) % 128 + 128 := by simp; omega
  rw [this]

set_option maxHeartbeats 1000000 in
theorem wint_any (n : Int) (w : World) (hn : I64 n) :
    Calls Try.prog 49 #[.int .i64 n] w fun e w' => e = .returned (.string ⟨(Wi.int n).toArray⟩) ∧ Below w.heap.size w w' := by
  have hz := Wi.zig_lt hn
  have e1 := zig_neg n hn
  have e2 := zig_pos n hn
  obtain ⟨Z, hZ⟩ : ∃ Z, Wi.zig n = Z := ⟨_, rfl⟩
  have hI : Wi.int n = Wi.enc 9 Z := by
    unfold Wi.int
    rw [hZ]
    rw [hZ] at hz
    exact Wi.enc_fuel 10 9 Z (Nat.lt_of_lt_of_le hz (by decide)) (Nat.lt_of_lt_of_le hz (by decide))
  rw [hI]
  rw [hZ] at hz e1 e2
  have hz' : Z < 128 ^ (9 + 1) := Nat.lt_of_lt_of_le hz (by decide)
  clear hI hZ hz
  have hB := Lib.fresh_isBuilder 88 5 w
  have hbel : Below w.heap.size w (w.alloc (Obj.cells #[.pointer none, .slice none 0 0] 88)) := (Below.refl _ _).alloc (Nat.le_refl _) _
  obtain ⟨W0, hW0⟩ : ∃ W0, w.heap.size = W0 := ⟨_, rfl⟩
  rw [hW0] at hB hbel ⊢
  have hle : W0 ≤ w.heap.size := by omega
  replace hB := hide hB
  replace hz' := hide hz'
  by_cases h0 : n < 0
  · have t0 : decide (n < 0) = true := by simpa using h0
    have e := e1 h0
    clear e1 e2
    go_enter Try.func49, Try.ntmps49
    go_wp2_with fail
    clear hW0 e t0
    go_loopw [3] (fun v wr => ∃ (c f : Nat) (pre : List UInt8), v = .int .u64 (c : Int) ∧ c < 128 ^ (f + 1) ∧ pre.length + f = 9 ∧ pre ++ Wi.enc f c = Wi.enc 9 Z ∧ IsBui W0 W0 (Lib.byteCells pre) wr ∧ Below W0 w wr) (fun v _ => (intOf v).toNat)
    case atStart => exact ⟨Z, 9, [], rfl, unhide hz', rfl, rfl, unhide hB, hbel⟩
    case round =>
      obtain ⟨c, f, pre, rfl, hc, hp, he, hb, hbel2⟩ := hrel
      replace hc := hide hc
      replace he := hide he
      replace hp := hide hp
      clear hB hbel hz'
      by_cases h128 : c < 128
      · have t1 : decide (128 ≤ (c : Int)) = false := by simp; omega
        have lb := low_byte c h128
        go_wp2_with fail
        refine (bwrite_any W0 W0 _ _ _ hb (by rw [Lib.byteCells_length]; have := unhide hp; omega) (Nat.le_trans hle hbel2.size)).mono ?_
        rintro e w1 ⟨rfl, hb1, hbl1⟩
        replace hbel2 := hbel2.trans hbl1
        rw [← bytes_low pre c h128] at hb1
        have hfin : pre ++ [UInt8.ofNat c] = Wi.enc 9 Z := by rw [← unhide he, Wi.enc_done f c h128]
        rw [hfin] at hb1
        clear hfin lb t1
        go_wp2_with fail
        refine (Try.Builder_String_any W0 W0 _ _ (Or.inr hb1) (Nat.le_trans hle hbel2.size)).mono ?_
        rintro e w2 ⟨rfl, hbl2⟩
        replace hbel2 := hbel2.trans hbl2
        go_wp2_with fail
        go_ret
        exact ⟨rfl, hbel2⟩
      · have t1 : decide (128 ≤ (c : Int)) = true := by simp; omega
        have tb := top_bit c
        obtain ⟨f, rfl⟩ : ∃ g, f = g + 1 := by
          cases f with
          | zero => have := unhide hc; simp at this; omega
          | succ g => exact ⟨g, rfl⟩
        go_wp2_with fail
        refine (bwrite_any W0 W0 _ _ _ hb (by rw [Lib.byteCells_length]; have := unhide hp; omega) (Nat.le_trans hle hbel2.size)).mono ?_
        rintro e w1 ⟨rfl, hb1, hbl1⟩
        replace hbel2 := hbel2.trans hbl1
        rw [← bytes_top pre c] at hb1
        clear tb t1
        go_wp2_with fail
        go_roundw
        case rel => exact ⟨c / 128, f, pre ++ [UInt8.ofNat (c % 128 + 128)], by simp, by have := unhide hc; rw [Nat.pow_succ] at this; exact Nat.div_lt_of_lt_mul (by omega), by have := unhide hp; simp; omega, by rw [← unhide he, Wi.enc_more f c h128, List.append_assoc]; rfl, Or.inr hb1, hbel2⟩
        case measure => simp [intOf]; omega
  · have t0 : decide (n < 0) = false := by simpa using h0
    have e := e2 h0
    clear e1 e2
    go_enter Try.func49, Try.ntmps49
    go_wp2_with fail
    clear hW0 e t0
    go_loopw [3] (fun v wr => ∃ (c f : Nat) (pre : List UInt8), v = .int .u64 (c : Int) ∧ c < 128 ^ (f + 1) ∧ pre.length + f = 9 ∧ pre ++ Wi.enc f c = Wi.enc 9 Z ∧ IsBui W0 W0 (Lib.byteCells pre) wr ∧ Below W0 w wr) (fun v _ => (intOf v).toNat)
    case atStart => exact ⟨Z, 9, [], rfl, unhide hz', rfl, rfl, unhide hB, hbel⟩
    case round =>
      obtain ⟨c, f, pre, rfl, hc, hp, he, hb, hbel2⟩ := hrel
      replace hc := hide hc
      replace he := hide he
      replace hp := hide hp
      clear hB hbel hz'
      by_cases h128 : c < 128
      · have t1 : decide (128 ≤ (c : Int)) = false := by simp; omega
        have lb := low_byte c h128
        go_wp2_with fail
        refine (bwrite_any W0 W0 _ _ _ hb (by rw [Lib.byteCells_length]; have := unhide hp; omega) (Nat.le_trans hle hbel2.size)).mono ?_
        rintro e w1 ⟨rfl, hb1, hbl1⟩
        replace hbel2 := hbel2.trans hbl1
        rw [← bytes_low pre c h128] at hb1
        have hfin : pre ++ [UInt8.ofNat c] = Wi.enc 9 Z := by rw [← unhide he, Wi.enc_done f c h128]
        rw [hfin] at hb1
        clear hfin lb t1
        go_wp2_with fail
        refine (Try.Builder_String_any W0 W0 _ _ (Or.inr hb1) (Nat.le_trans hle hbel2.size)).mono ?_
        rintro e w2 ⟨rfl, hbl2⟩
        replace hbel2 := hbel2.trans hbl2
        go_wp2_with fail
        go_ret
        exact ⟨rfl, hbel2⟩
      · have t1 : decide (128 ≤ (c : Int)) = true := by simp; omega
        have tb := top_bit c
        obtain ⟨f, rfl⟩ : ∃ g, f = g + 1 := by
          cases f with
          | zero => have := unhide hc; simp at this; omega
          | succ g => exact ⟨g, rfl⟩
        go_wp2_with fail
        refine (bwrite_any W0 W0 _ _ _ hb (by rw [Lib.byteCells_length]; have := unhide hp; omega) (Nat.le_trans hle hbel2.size)).mono ?_
        rintro e w1 ⟨rfl, hb1, hbl1⟩
        replace hbel2 := hbel2.trans hbl1
        rw [← bytes_top pre c] at hb1
        clear tb t1
        go_wp2_with fail
        go_roundw
        case rel => exact ⟨c / 128, f, pre ++ [UInt8.ofNat (c % 128 + 128)], by simp, by have := unhide hc; rw [Nat.pow_succ] at this; exact Nat.div_lt_of_lt_mul (by omega), by have := unhide hp; simp; omega, by rw [← unhide he, Wi.enc_more f c h128, List.append_assoc]; rfl, Or.inr hb1, hbel2⟩
        case measure => simp [intOf]; omega
end Go.Proofs.Ytcliegeooooonaa
