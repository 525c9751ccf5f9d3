/- The reference's Int. -/
import Derived.Test.YtcliegeooooonaaWi1
namespace Go.Proofs.Ytcliegeooooonaa
open Go.RowKit

theorem and_low (c : Nat) (h : c < 18446744073709551616) : bits .and .u64 (c : Int) 127 = (c : Int) % 128 := by
  rw [show (127 : Int) = ((127 : Nat) : Int) from rfl, u64_and_nat _ _ h (by omega), nat_mask7]
  omega
theorem int9 (n : Int) (hn : I64 n) : Wi.int n = Wi.enc 9 (Wi.zig n) := by
  have hz := Wi.zig_lt hn
  unfold Wi.int
  exact Wi.enc_fuel 10 9 _ (Nat.lt_of_lt_of_le hz (by decide)) (Nat.lt_of_lt_of_le hz (by decide))
set_option maxHeartbeats 1000000 in
theorem rint_any (n : Int) (w : World) (hn : I64 n) :
    Calls Try.prog 38 #[.int .i64 n] w fun e w' => e = .returned (.string ⟨(Wi.int n).toArray⟩) ∧ Below w.heap.size w w' := by
  have hz := Wi.zig_lt hn
  have e1 := zig_neg n hn
  have e2 := zig_pos n hn
  rw [int9 n hn]
  generalize Wi.zig n = Z at *
  have hz' : Z < 128 ^ (9 + 1) := Nat.lt_of_lt_of_le hz (by decide)
  obtain ⟨W0, hW0⟩ : ∃ W0, w.heap.size = W0 := ⟨_, rfl⟩
  rw [hW0]
  have hle : W0 ≤ w.heap.size := by omega
  replace hz' := hide hz'
  replace hz := hide hz
  obtain ⟨i0, hi, hz0, hz1, hz2⟩ := info_parts byte_info
  replace hi := hide hi; replace hz0 := hide hz0; replace hz1 := hide hz1; replace hz2 := hide hz2
  by_cases h0 : n < 0
  · have t0 : decide (n < 0) = true := by simpa using h0
    have e := e1 h0
    clear e1 e2
    go_enter Try.func38, Try.ntmps38
    go_wp2_with fail
    clear hW0 e t0
    go_loopw [3, 4] (fun v3 v4 wr => ∃ (c f : Nat) (pre : List UInt8), v3 = .int .u64 (c : Int) ∧ c ≤ Z ∧ c < 128 ^ (f + 1) ∧ pre.length + f = 9 ∧ pre ++ Wi.enc f c = Wi.enc 9 Z ∧ wr.ownsRow W0 5 1 v4 pre.length (Lib.byteCells pre) ∧ Below W0 w wr) (fun v _ _ => (intOf v).toNat)
    case atStart => exact ⟨Z, 9, [], rfl, Nat.le_refl _, unhide hz', rfl, rfl, World.ownsRow_nil _ _ _ _, Below.refl _ _⟩
    case round =>
      obtain ⟨c, f, pre, rfl, hcz, hc, hp, he, hb, hbel2⟩ := hrel
      have ha := and_low c (Nat.lt_of_le_of_lt hcz (unhide hz))
      replace hc := hide hc
      replace he := hide he
      replace hp := hide hp
      clear hz'
      by_cases h128 : c < 128
      · have t1 : decide (127 < (c : Int)) = false := by simp; omega
        have lb := low_byte c h128
        go_wp2_with (at_builtin; refine wpList_append_own _ rfl _ _ 51 rfl W0 5 i0 (.int .u8 0) 1 1 Try.underlying51 (unhide hi) (unhide hz0) (unhide hz1) (unhide hz2) rfl (by decide) _ _ _ rfl (hb.alloc _) ⟨wr.heap.size, 0, none⟩ 1 1 [.int .u8 (c : Int)] rfl rfl ?c1 ?c2 ?c3 ?c4 ?c5 ?_)
        case c1 =>
          intro j u hj
          match j, hj with
          | 0, hj => simp at hj; subst hj; simp [Addr.add]
        case c2 => intro u hu; simp at hu; subst hu; rfl
        case c3 => have := unhide hp; unfold maxLen; omega
        case c4 => have := unhide hp; omega
        case c5 => have := hbel2.size; simp; omega
        intro v' w1 hown hgrow _
        have hbel3 := (hbel2.alloc (Nat.le_trans hle hbel2.size) (Obj.cells #[.int .u8 (c : Int)] 5)).grown hgrow (by have := hbel2.size; simp; omega) (fun k hk => (hb.lt k hk).1)
        have hfin : pre ++ [UInt8.ofNat c] = Wi.enc 9 Z := by rw [← unhide he, Wi.enc_done f c h128]
        rw [← bytes_low pre c h128, hfin] at hown
        have hlen : (Wi.enc 9 Z).length = pre.length + 1 := by rw [← hfin]; simp
        obtain ⟨g, cap, rfl, _, _⟩ := hown.form (by omega)
        have hcell := hown.cells (g := g) rfl
        have hconv := run_convert_bytes_back (P := Try.prog) w1 51 9 5 ⟨g, 0, none⟩ cap (Wi.enc 9 Z) Try.underlying51 Try.underlying5 Try.underlying9
          (fun j hj => hcell j _ (by simp [Lib.byteCells, hj]))
        rw [hlen] at hconv
        clear hown hcell hfin hlen hgrow hb lb ha t1
        go_wp2_with fail
        go_ret
        exact ⟨rfl, hbel3⟩
      · have t1 : decide (127 < (c : Int)) = true := by simp; omega
        obtain ⟨f, rfl⟩ : ∃ g, f = g + 1 := by
          cases f with
          | zero => have := unhide hc; simp at this; omega
          | succ g => exact ⟨g, rfl⟩
        go_wp2_with (at_builtin; refine wpList_append_own _ rfl _ _ 51 rfl W0 5 i0 (.int .u8 0) 1 1 Try.underlying51 (unhide hi) (unhide hz0) (unhide hz1) (unhide hz2) rfl (by decide) _ _ _ rfl (hb.alloc _) ⟨wr.heap.size, 0, none⟩ 1 1 [.int .u8 ((c : Int) % 128 + 128)] rfl rfl ?c1 ?c2 ?c3 ?c4 ?c5 ?_)
        case c1 =>
          intro j u hj
          match j, hj with
          | 0, hj => simp at hj; subst hj; simp [Addr.add]
        case c2 => intro u hu; simp at hu; subst hu; rfl
        case c3 => have := unhide hp; unfold maxLen; omega
        case c4 => have := unhide hp; omega
        case c5 => have := hbel2.size; simp; omega
        intro v' w1 hown hgrow _
        have hbel3 := (hbel2.alloc (Nat.le_trans hle hbel2.size) (Obj.cells #[.int .u8 ((c : Int) % 128 + 128)] 5)).grown hgrow (by have := hbel2.size; simp; omega) (fun k hk => (hb.lt k hk).1)
        go_wp2_with fail
        go_roundw
        case rel => exact ⟨c / 128, f, pre ++ [UInt8.ofNat (c % 128 + 128)], by simp, by omega, by have := unhide hc; rw [Nat.pow_succ] at this; exact Nat.div_lt_of_lt_mul (by omega), by have := unhide hp; simp; omega, by rw [← unhide he, Wi.enc_more f c h128, List.append_assoc]; rfl, by rw [bytes_top]; simpa using hown, hbel3⟩
        case measure => simp [intOf]; omega
  · have t0 : decide (n < 0) = false := by simpa using h0
    have e := e2 h0
    clear e1 e2
    go_enter Try.func38, Try.ntmps38
    go_wp2_with fail
    clear hW0 e t0
    go_loopw [3, 4] (fun v3 v4 wr => ∃ (c f : Nat) (pre : List UInt8), v3 = .int .u64 (c : Int) ∧ c ≤ Z ∧ c < 128 ^ (f + 1) ∧ pre.length + f = 9 ∧ pre ++ Wi.enc f c = Wi.enc 9 Z ∧ wr.ownsRow W0 5 1 v4 pre.length (Lib.byteCells pre) ∧ Below W0 w wr) (fun v _ _ => (intOf v).toNat)
    case atStart => exact ⟨Z, 9, [], rfl, Nat.le_refl _, unhide hz', rfl, rfl, World.ownsRow_nil _ _ _ _, Below.refl _ _⟩
    case round =>
      obtain ⟨c, f, pre, rfl, hcz, hc, hp, he, hb, hbel2⟩ := hrel
      have ha := and_low c (Nat.lt_of_le_of_lt hcz (unhide hz))
      replace hc := hide hc
      replace he := hide he
      replace hp := hide hp
      clear hz'
      by_cases h128 : c < 128
      · have t1 : decide (127 < (c : Int)) = false := by simp; omega
        have lb := low_byte c h128
        go_wp2_with (at_builtin; refine wpList_append_own _ rfl _ _ 51 rfl W0 5 i0 (.int .u8 0) 1 1 Try.underlying51 (unhide hi) (unhide hz0) (unhide hz1) (unhide hz2) rfl (by decide) _ _ _ rfl (hb.alloc _) ⟨wr.heap.size, 0, none⟩ 1 1 [.int .u8 (c : Int)] rfl rfl ?c1 ?c2 ?c3 ?c4 ?c5 ?_)
        case c1 =>
          intro j u hj
          match j, hj with
          | 0, hj => simp at hj; subst hj; simp [Addr.add]
        case c2 => intro u hu; simp at hu; subst hu; rfl
        case c3 => have := unhide hp; unfold maxLen; omega
        case c4 => have := unhide hp; omega
        case c5 => have := hbel2.size; simp; omega
        intro v' w1 hown hgrow _
        have hbel3 := (hbel2.alloc (Nat.le_trans hle hbel2.size) (Obj.cells #[.int .u8 (c : Int)] 5)).grown hgrow (by have := hbel2.size; simp; omega) (fun k hk => (hb.lt k hk).1)
        have hfin : pre ++ [UInt8.ofNat c] = Wi.enc 9 Z := by rw [← unhide he, Wi.enc_done f c h128]
        rw [← bytes_low pre c h128, hfin] at hown
        have hlen : (Wi.enc 9 Z).length = pre.length + 1 := by rw [← hfin]; simp
        obtain ⟨g, cap, rfl, _, _⟩ := hown.form (by omega)
        have hcell := hown.cells (g := g) rfl
        have hconv := run_convert_bytes_back (P := Try.prog) w1 51 9 5 ⟨g, 0, none⟩ cap (Wi.enc 9 Z) Try.underlying51 Try.underlying5 Try.underlying9
          (fun j hj => hcell j _ (by simp [Lib.byteCells, hj]))
        rw [hlen] at hconv
        clear hown hcell hfin hlen hgrow hb lb ha t1
        go_wp2_with fail
        go_ret
        exact ⟨rfl, hbel3⟩
      · have t1 : decide (127 < (c : Int)) = true := by simp; omega
        obtain ⟨f, rfl⟩ : ∃ g, f = g + 1 := by
          cases f with
          | zero => have := unhide hc; simp at this; omega
          | succ g => exact ⟨g, rfl⟩
        go_wp2_with (at_builtin; refine wpList_append_own _ rfl _ _ 51 rfl W0 5 i0 (.int .u8 0) 1 1 Try.underlying51 (unhide hi) (unhide hz0) (unhide hz1) (unhide hz2) rfl (by decide) _ _ _ rfl (hb.alloc _) ⟨wr.heap.size, 0, none⟩ 1 1 [.int .u8 ((c : Int) % 128 + 128)] rfl rfl ?c1 ?c2 ?c3 ?c4 ?c5 ?_)
        case c1 =>
          intro j u hj
          match j, hj with
          | 0, hj => simp at hj; subst hj; simp [Addr.add]
        case c2 => intro u hu; simp at hu; subst hu; rfl
        case c3 => have := unhide hp; unfold maxLen; omega
        case c4 => have := unhide hp; omega
        case c5 => have := hbel2.size; simp; omega
        intro v' w1 hown hgrow _
        have hbel3 := (hbel2.alloc (Nat.le_trans hle hbel2.size) (Obj.cells #[.int .u8 ((c : Int) % 128 + 128)] 5)).grown hgrow (by have := hbel2.size; simp; omega) (fun k hk => (hb.lt k hk).1)
        go_wp2_with fail
        go_roundw
        case rel => exact ⟨c / 128, f, pre ++ [UInt8.ofNat (c % 128 + 128)], by simp, by omega, by have := unhide hc; rw [Nat.pow_succ] at this; exact Nat.div_lt_of_lt_mul (by omega), by have := unhide hp; simp; omega, by rw [← unhide he, Wi.enc_more f c h128, List.append_assoc]; rfl, by rw [bytes_top]; simpa using hown, hbel3⟩
        case measure => simp [intOf]; omega
end Go.Proofs.Ytcliegeooooonaa
