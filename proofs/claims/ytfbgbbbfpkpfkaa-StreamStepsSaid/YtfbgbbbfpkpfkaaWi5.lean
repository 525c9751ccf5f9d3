/- Merged: XBui XWiP XWi1 XWi2 XWi3 XWi4 XWi5 -/
import Derived.Test.YtfbgbbbfpkpfkaaRows
import Derived.Test.YtfbgbbbfpkpfkaaPre
import Derived.Lib.Builder
import Derived.Lib.AppendStr
import Derived.Laws.Externs
import Derived.WalkKit
import Derived.Test.YtfbgbbbfpkpfkaaSt
import Derived.Test.YtfbgbbbfpkpfkaaShelf
import Derived.Test.YtfbgbbbfpkpfkaaLst
import Derived.Laws.Concat
-- @@XBui
/- strings.Builder: the writers, walked over this program's own translation. -/
namespace Go.Proofs.Ytfbgbbbfpkpfkaa
open Go.RowKit

theorem bui_info : (Try.prog.info? 77).map (·.size) = some 2 := by kernel_rfl
theorem byte_info : (Try.prog.info? 5).map (fun i => (i.zero, i.size, i.bytes)) = some (some (.int .u8 0), 1, 1) := by kernel_rfl
abbrev IsBui (B b : Nat) (bs : List Value) (w : World) : Prop := Lib.IsBuilder 77 5 B b bs w
abbrev BuiAt (B b : Nat) (bs : List Value) (w : World) : Prop := Lib.BuilderAt 77 5 B b (.pointer (some ⟨b, 0, none⟩)) bs w

theorem copyCheck_fresh (b : Nat) (w : World) (h0 : w.cell? ⟨b, 0, none⟩ = some (.pointer none)) (hsh : w.shape? b = some (77, 2)) (hfz : w.frozen? ⟨b, 0, none⟩ = false) :
    Calls Try.prog 58 #[.pointer (some ⟨b, 0, none⟩)] w fun e w' => e = .returned (.tuple #[]) ∧ w' = w.setCell ⟨b, 0, none⟩ (.pointer (some ⟨b, 0, none⟩)) := by
  obtain ⟨j, hj, hjs⟩ := Option.map_eq_some_iff.1 bui_info
  have r1 := Lib.run_to_unsafe (P := Try.prog) w ⟨b, 0, none⟩ Try.underlying74 Try.underlying107 hj (by rw [hjs]; decide) hsh (Nat.zero_lt_succ 1)
  go_enter Try.func58, Try.ntmps58
  go_wp2
  rw [run_callFunc_extern Try.func65 (by kernel_rfl) (by kernel_rfl) (by kernel_rfl) (e := Extern.AbiNoEscape.same) (by kernel_rfl)]
  rw [Lib.run_noEscape]
  simp only [Result.andThen]
  rw [Oper.upon_value]
  have r2 := Lib.run_from_unsafe (P := Try.prog) w ⟨b, 0, none⟩ Try.underlying107 Try.underlying74 hj hsh (by kernel_rfl)
  have r3 := Lib.run_neq_ptr_same (P := Try.prog) (w.setCell ⟨b, 0, none⟩ (.pointer (some ⟨b, 0, none⟩))) ⟨b, 0, none⟩ Try.underlying74 hj
  go_wp2
  go_end0
  exact ⟨rfl, rfl⟩
theorem copyCheck_used (b : Nat) (w : World) (h0 : w.cell? ⟨b, 0, none⟩ = some (.pointer (some ⟨b, 0, none⟩))) :
    Calls Try.prog 58 #[.pointer (some ⟨b, 0, none⟩)] w fun e w' => e = .returned (.tuple #[]) ∧ w' = w := by
  obtain ⟨j, hj, _⟩ := Option.map_eq_some_iff.1 bui_info
  have r1 := Lib.run_neq_ptr_same (P := Try.prog) w ⟨b, 0, none⟩ Try.underlying74 hj
  go_enter Try.func58, Try.ntmps58
  go_wp2
  go_end0
  exact ⟨rfl, rfl⟩
theorem copyCheck_any (B b : Nat) (bs : List Value) (w : World) (h : IsBui B b bs w) :
    Calls Try.prog 58 #[.pointer (some ⟨b, 0, none⟩)] w fun e w' => e = .returned (.tuple #[]) ∧ BuiAt B b bs w' ∧ Below B w w' := by
  rcases h with h | h
  · refine (copyCheck_fresh b w h.cell0 h.shape h.frozen0).mono ?_
    rintro e w' ⟨rfl, rfl⟩
    exact ⟨rfl, h.used _, (Below.refl B w).setCell (p := ⟨b, 0, none⟩) h.1 _⟩
  · refine (copyCheck_used b w h.cell0).mono ?_
    rintro e w' ⟨rfl, rfl⟩
    exact ⟨rfl, h, Below.refl B _⟩
set_option maxHeartbeats 1000000 in
theorem bwrite_any (B b : Nat) (bs : List Value) (c : Int) (w : World) (h : IsBui B b bs w) (hlen : bs.length + 1 ≤ 140737488355328) (hBw : B ≤ w.heap.size) :
    Calls Try.prog 59 #[.pointer (some ⟨b, 0, none⟩), .int .u8 c] w fun e w' => e = .returned .nilIface ∧ BuiAt B b (bs ++ [.int .u8 c]) w' ∧ Below B w w' := by
  obtain ⟨i0, hi, hz0, hz1, hz2⟩ := info_parts byte_info
  go_enter Try.func59, Try.ntmps59
  go_wp2_with fail
  refine (copyCheck_any B b bs _ h).mono ?_
  rintro e w1 ⟨rfl, h1, hb1⟩
  obtain ⟨hB, v, hbk, hown, hne⟩ := h1
  have c0 : w1.cell? ⟨b, 0, none⟩ = some (.pointer (some ⟨b, 0, none⟩)) := by rw [Lib.cell_of_heap hbk]; rfl
  have c1 : w1.cell? ⟨b, 1, none⟩ = some v := by rw [Lib.cell_of_heap hbk]; rfl
  go_wp2_with (at_builtin; refine wpList_append_own _ rfl _ _ 75 rfl B 5 i0 (.int .u8 0) 1 1 Try.underlying75 hi hz0 hz1 hz2 rfl (by decide) _ _ _ rfl (hown.alloc _) ⟨w1.heap.size, 0, none⟩ 1 1 [.int .u8 c] rfl rfl ?c1 ?c2 ?c3 ?c4 ?c5 ?_)
  case c1 =>
    intro j u hj
    match j, hj with
    | 0, hj => simp at hj; subst hj; simp [Addr.add]
  case c2 => intro u hu; simp at hu; subst hu; rfl
  case c3 => unfold maxLen; omega
  case c4 => omega
  case c5 => have := hb1.size; simp; omega
  intro v' w2 hown' hgrow _
  have hlt : b < w1.heap.size := by
    rcases Nat.lt_or_ge b w1.heap.size with h' | h'
    · exact h'
    · simp [Array.getElem?_eq_none h'] at hbk
  have hb2 : w2.heap[b]? = some (.cells #[.pointer (some ⟨b, 0, none⟩), v] 77 (0, 0)) := by
    rw [hgrow.block b (by simp; omega) (fun e => hne e.symm), Lib.alloc_old w1 _ b hlt]
    exact hbk
  have d0 : w2.cell? ⟨b, 0, none⟩ = some (.pointer (some ⟨b, 0, none⟩)) := by rw [Lib.cell_of_heap hb2]; rfl
  have d1 : w2.cell? ⟨b, 1, none⟩ = some v := by rw [Lib.cell_of_heap hb2]; rfl
  have f1 : w2.frozen? ⟨b, 1, none⟩ = false := Lib.frozen_of_heap hb2 1
  obtain ⟨g, cap, rfl⟩ : ∃ g cap, v' = .slice (some ⟨g, 0, none⟩) (bs.length + 1) cap := by
    rcases hown'.2 with ⟨_, h0⟩ | ⟨g, cap, cur, hv, _⟩
    · omega
    · exact ⟨g, cap, hv⟩
  go_wp2
  go_ret
  refine ⟨rfl, ?_, ?_⟩
  · exact Lib.BuilderAt.put (T := 77) (e := 5) hB hb2 (bs' := bs ++ [.int .u8 c]) (by simpa using hown') (by decide)
  · exact ((hb1.alloc (by have := hb1.size; omega) _).grown hgrow (by have := hb1.size; simp; omega) (fun k hk => (hown.lt k hk).1)).setCell (p := ⟨b, 1, none⟩) hB _
set_option maxHeartbeats 1000000 in
theorem bwrites_any (B b : Nat) (bs : List Value) (s : ByteArray) (w : World) (h : IsBui B b bs w) (hlen : bs.length + s.size ≤ 140737488355328) (hBw : B ≤ w.heap.size) :
    Calls Try.prog 40 #[.pointer (some ⟨b, 0, none⟩), .string s] w fun e w' => e = .returned (.tuple #[.int .i64 s.size, .nilIface]) ∧ BuiAt B b (bs ++ Lib.strCells s) w' ∧ Below B w w' := by
  obtain ⟨i0, hi, hz0, hz1, hz2⟩ := info_parts byte_info
  go_enter Try.func40, Try.ntmps40
  go_wp2_with fail
  refine (copyCheck_any B b bs _ h).mono ?_
  rintro e w1 ⟨rfl, h1, hb1⟩
  obtain ⟨hB, v, hbk, hown, hne⟩ := h1
  have c0 : w1.cell? ⟨b, 0, none⟩ = some (.pointer (some ⟨b, 0, none⟩)) := by rw [Lib.cell_of_heap hbk]; rfl
  have c1 : w1.cell? ⟨b, 1, none⟩ = some v := by rw [Lib.cell_of_heap hbk]; rfl
  go_wp2_with (at_builtin; refine Lib.wpList_append_own_string _ rfl _ _ 75 9 rfl B 5 i0 Try.underlying75 Try.underlying9 hi hz0 hz1 hz2 _ _ _ rfl hown s rfl ?c3 ?c4 ?c5 ?_)
  case c3 => unfold maxLen; omega
  case c4 => omega
  case c5 => have := hb1.size; omega
  intro v' w2 hown' hgrow _
  have hlt : b < w1.heap.size := by
    rcases Nat.lt_or_ge b w1.heap.size with h' | h'
    · exact h'
    · simp [Array.getElem?_eq_none h'] at hbk
  have hb2 : w2.heap[b]? = some (.cells #[.pointer (some ⟨b, 0, none⟩), v] 77 (0, 0)) := by
    rw [hgrow.block b hlt (fun e => hne e.symm)]
    exact hbk
  have d0 : w2.cell? ⟨b, 0, none⟩ = some (.pointer (some ⟨b, 0, none⟩)) := by rw [Lib.cell_of_heap hb2]; rfl
  have d1 : w2.cell? ⟨b, 1, none⟩ = some v := by rw [Lib.cell_of_heap hb2]; rfl
  have f1 : w2.frozen? ⟨b, 1, none⟩ = false := Lib.frozen_of_heap hb2 1
  obtain ⟨ao, n', cap, rfl⟩ : ∃ ao n' cap, v' = .slice ao n' cap := by
    rcases hown'.2 with ⟨hv, _⟩ | ⟨g, cap, cur, hv, _⟩
    · exact ⟨_, _, _, hv⟩
    · exact ⟨_, _, _, hv⟩
  go_wp2
  go_ret2
  refine ⟨rfl, ?_, ?_⟩
  · exact Lib.BuilderAt.put (T := 77) (e := 5) hB hb2 (bs' := bs ++ Lib.strCells s) (by simpa [Lib.strCells_length] using hown') (by decide)
  · exact (hb1.grown hgrow (by have := hb1.size; omega) (fun k hk => (hown.lt k hk).1)).setCell (p := ⟨b, 1, none⟩) hB _
end Go.Proofs.Ytfbgbbbfpkpfkaa
-- @@XWiP
/- Plain law of the serialization of integers. No program in sight. -/
namespace Go.Proofs.Ytfbgbbbfpkpfkaa
namespace Wi
/-- the code of an integer -/
def zig (n : Int) : Nat := if n < 0 then (-2 * n - 1).toNat else (2 * n).toNat
/-- a code in groups of seven bits, the lowest ones first -/
def enc : Nat → Nat → List UInt8
  | 0, c => [UInt8.ofNat c]
  | f + 1, c => if c < 128 then [UInt8.ofNat c] else UInt8.ofNat (c % 128 + 128) :: enc f (c / 128)
def int (n : Int) : List UInt8 := enc 10 (zig n)
def txt (s : List UInt8) : List UInt8 := int s.length ++ s
def ints (l : List Int) : List UInt8 := int l.length ++ l.flatMap int
def txts (l : List (List UInt8)) : List UInt8 := int l.length ++ l.flatMap txt
def btxt (x : ByteArray) : List UInt8 := txt x.data.toList
def btxts (l : List ByteArray) : List UInt8 := int l.length ++ l.flatMap btxt
theorem zig_lt {n : Int} (h : -9223372036854775808 ≤ n ∧ n ≤ 9223372036854775807) : zig n < 18446744073709551616 := by unfold zig; split <;> omega
theorem enc_done (f c : Nat) (h : c < 128) : enc f c = [UInt8.ofNat c] := by
  cases f
  · rfl
  · simp [enc, h]
theorem enc_more (f c : Nat) (h : ¬ c < 128) : enc (f + 1) c = UInt8.ofNat (c % 128 + 128) :: enc f (c / 128) := by simp [enc, h]
theorem enc_len (f c : Nat) : 1 ≤ (enc f c).length ∧ (enc f c).length ≤ f + 1 := by
  induction f generalizing c with
  | zero => simp [enc]
  | succ f ih =>
    unfold enc
    split
    · simp
    · have := ih (c / 128)
      simp
      omega
theorem enc_fuel (f g c : Nat) (hf : c < 128 ^ (f + 1)) (hg : c < 128 ^ (g + 1)) : enc f c = enc g c := by
  induction f generalizing g c with
  | zero => rw [enc_done 0 c (by simpa using hf), enc_done g c (by simpa using hf)]
  | succ f ih =>
    by_cases h : c < 128
    · rw [enc_done _ c h, enc_done _ c h]
    · cases g with
      | zero => simp at hg; omega
      | succ g =>
        rw [enc_more _ c h, enc_more _ c h, ih g (c / 128)]
        · rw [Nat.pow_succ] at hf; exact Nat.div_lt_of_lt_mul (by omega)
        · rw [Nat.pow_succ] at hg; exact Nat.div_lt_of_lt_mul (by omega)
end Wi
end Go.Proofs.Ytfbgbbbfpkpfkaa
-- @@XWi1
/- wire.Int and the reference's Int. -/
namespace Go.Proofs.Ytfbgbbbfpkpfkaa
open Go.RowKit

theorem byte_app (l : List UInt8) (u : UInt8) : Lib.byteCells (l ++ [u]) = Lib.byteCells l ++ [.int .u8 u.toNat] := by simp [Lib.byteCells]
theorem zig_neg (n : Int) (hn : I64 n) (h : n < 0) : bits .xor .u64 IntKind.u64.max (IntKind.u64.wrap (IntKind.u64.wrap n * 2)) = ((Wi.zig n : Nat) : Int) := by
  obtain ⟨h1, h2⟩ := hn
  have e : IntKind.u64.wrap (IntKind.u64.wrap n * 2) = ((2 * n + 18446744073709551616).toNat : Int) := by simp only [IntKind.wrap_u64]; omega
  have em : IntKind.u64.max = ((18446744073709551615 : Nat) : Int) := rfl
  rw [e, em, u64_xor_nat _ _ (by omega) (by omega)]
  have := Nat.xor_comm 18446744073709551615 (2 * n + 18446744073709551616).toNat
  have hx : (18446744073709551615 : Nat) ^^^ (2 * n + 18446744073709551616).toNat = 18446744073709551615 - (2 * n + 18446744073709551616).toNat := by
    have hk : (2 * n + 18446744073709551616).toNat < 2 ^ 64 := by omega
    generalize (2 * n + 18446744073709551616).toNat = k at *
    have h := BitVec.toNat_not (x := BitVec.ofNat 64 k)
    have h3 : (~~~ BitVec.ofNat 64 k) = BitVec.allOnes 64 ^^^ BitVec.ofNat 64 k := (BitVec.allOnes_xor).symm
    rw [h3, BitVec.toNat_xor, BitVec.toNat_allOnes, BitVec.toNat_ofNat, Nat.mod_eq_of_lt hk] at h
    exact h
  rw [hx]
  unfold Wi.zig
  rw [if_pos h]
  omega
theorem zig_pos (n : Int) (hn : I64 n) (h : ¬ n < 0) : IntKind.u64.wrap (IntKind.u64.wrap n * 2) = ((Wi.zig n : Nat) : Int) := by
  obtain ⟨h1, h2⟩ := hn
  unfold Wi.zig
  rw [if_neg h]
  simp only [IntKind.wrap_u64]
  omega
theorem or_top : ∀ d : Fin 256, d.val ||| 128 = d.val % 128 + 128 := by decide +kernel
theorem top_bit (c : Nat) : bits .or .u8 ((c : Int) % 256) 128 = (c : Int) % 128 + 128 := by
  have e : (c : Int) % 256 = ((c % 256 : Nat) : Int) := by omega
  rw [e, show (128 : Int) = ((128 : Nat) : Int) from rfl, u8_or_nat _ _ (by omega) (by omega)]
  have h := or_top ⟨c % 256, by omega⟩
  simp only at h
  rw [h]
  omega
theorem low_byte (c : Nat) (h : c < 128) : (c : Int) % 256 = (c : Int) := by omega
theorem bytes_low (pre : List UInt8) (c : Nat) (h : c < 128) : Lib.byteCells (pre ++ [UInt8.ofNat c]) = Lib.byteCells pre ++ [.int .u8 (c : Int)] := by
  rw [byte_app]
  have : (((UInt8.ofNat c).toNat : Nat) : Int) = (c : Int) := by simp; omega
  rw [this]
theorem bytes_top (pre : List UInt8) (c : Nat) : Lib.byteCells (pre ++ [UInt8.ofNat (c % 128 + 128)]) = Lib.byteCells pre ++ [.int .u8 ((c : Int) % 128 + 128)] := by
  rw [byte_app]
  have : (((UInt8.ofNat (c % 128 + 128)).toNat : Nat) : Int) = (c : Int) % 128 + 128 := by simp; omega
  rw [this]

set_option maxHeartbeats 1000000 in
theorem wint_any (n : Int) (w : World) (hn : I64 n) :
    Calls Try.prog 41 #[.int .i64 n] w fun e w' => e = .returned (.string ⟨(Wi.int n).toArray⟩) ∧ Below w.heap.size w w' := by
  have hz := Wi.zig_lt hn
  have e1 := zig_neg n hn
  have e2 := zig_pos n hn
  obtain ⟨Z, hZ⟩ : ∃ Z, Wi.zig n = Z := ⟨_, rfl⟩
  have hI : Wi.int n = Wi.enc 9 Z := by
    unfold Wi.int
    rw [hZ]
    rw [hZ] at hz
    exact Wi.enc_fuel 10 9 Z (Nat.lt_of_lt_of_le hz (by decide)) (Nat.lt_of_lt_of_le hz (by decide))
  rw [hI]
  rw [hZ] at hz e1 e2
  have hz' : Z < 128 ^ (9 + 1) := Nat.lt_of_lt_of_le hz (by decide)
  clear hI hZ hz
  have hB := Lib.fresh_isBuilder 77 5 w
  have hbel : Below w.heap.size w (w.alloc (Obj.cells #[.pointer none, .slice none 0 0] 77)) := (Below.refl _ _).alloc (Nat.le_refl _) _
  obtain ⟨W0, hW0⟩ : ∃ W0, w.heap.size = W0 := ⟨_, rfl⟩
  rw [hW0] at hB hbel ⊢
  have hle : W0 ≤ w.heap.size := by omega
  replace hB := hide hB
  replace hz' := hide hz'
  by_cases h0 : n < 0
  · have t0 : decide (n < 0) = true := by simpa using h0
    have e := e1 h0
    clear e1 e2
    go_enter Try.func41, Try.ntmps41
    go_wp2_with fail
    clear hW0 e t0
    go_loopw [3] (fun v wr => ∃ (c f : Nat) (pre : List UInt8), v = .int .u64 (c : Int) ∧ c < 128 ^ (f + 1) ∧ pre.length + f = 9 ∧ pre ++ Wi.enc f c = Wi.enc 9 Z ∧ IsBui W0 W0 (Lib.byteCells pre) wr ∧ Below W0 w wr) (fun v _ => (intOf v).toNat)
    case atStart => exact ⟨Z, 9, [], rfl, unhide hz', rfl, rfl, unhide hB, hbel⟩
    case round =>
      obtain ⟨c, f, pre, rfl, hc, hp, he, hb, hbel2⟩ := hrel
      replace hc := hide hc
      replace he := hide he
      replace hp := hide hp
      clear hB hbel hz'
      by_cases h128 : c < 128
      · have t1 : decide (128 ≤ (c : Int)) = false := by simp; omega
        have lb := low_byte c h128
        go_wp2_with fail
        refine (bwrite_any W0 W0 _ _ _ hb (by rw [Lib.byteCells_length]; have := unhide hp; omega) (Nat.le_trans hle hbel2.size)).mono ?_
        rintro e w1 ⟨rfl, hb1, hbl1⟩
        replace hbel2 := hbel2.trans hbl1
        rw [← bytes_low pre c h128] at hb1
        have hfin : pre ++ [UInt8.ofNat c] = Wi.enc 9 Z := by rw [← unhide he, Wi.enc_done f c h128]
        rw [hfin] at hb1
        clear hfin lb t1
        go_wp2_with fail
        refine (Try.Builder_String_any W0 W0 _ _ (Or.inr hb1) (Nat.le_trans hle hbel2.size)).mono ?_
        rintro e w2 ⟨rfl, hbl2⟩
        replace hbel2 := hbel2.trans hbl2
        go_wp2_with fail
        go_ret
        exact ⟨rfl, hbel2⟩
      · have t1 : decide (128 ≤ (c : Int)) = true := by simp; omega
        have tb := top_bit c
        obtain ⟨f, rfl⟩ : ∃ g, f = g + 1 := by
          cases f with
          | zero => have := unhide hc; simp at this; omega
          | succ g => exact ⟨g, rfl⟩
        go_wp2_with fail
        refine (bwrite_any W0 W0 _ _ _ hb (by rw [Lib.byteCells_length]; have := unhide hp; omega) (Nat.le_trans hle hbel2.size)).mono ?_
        rintro e w1 ⟨rfl, hb1, hbl1⟩
        replace hbel2 := hbel2.trans hbl1
        rw [← bytes_top pre c] at hb1
        clear tb t1
        go_wp2_with fail
        go_roundw
        case rel => exact ⟨c / 128, f, pre ++ [UInt8.ofNat (c % 128 + 128)], by simp, by have := unhide hc; rw [Nat.pow_succ] at this; exact Nat.div_lt_of_lt_mul (by omega), by have := unhide hp; simp; omega, by rw [← unhide he, Wi.enc_more f c h128, List.append_assoc]; rfl, Or.inr hb1, hbel2⟩
        case measure => simp [intOf]; omega
  · have t0 : decide (n < 0) = false := by simpa using h0
    have e := e2 h0
    clear e1 e2
    go_enter Try.func41, Try.ntmps41
    go_wp2_with fail
    clear hW0 e t0
    go_loopw [3] (fun v wr => ∃ (c f : Nat) (pre : List UInt8), v = .int .u64 (c : Int) ∧ c < 128 ^ (f + 1) ∧ pre.length + f = 9 ∧ pre ++ Wi.enc f c = Wi.enc 9 Z ∧ IsBui W0 W0 (Lib.byteCells pre) wr ∧ Below W0 w wr) (fun v _ => (intOf v).toNat)
    case atStart => exact ⟨Z, 9, [], rfl, unhide hz', rfl, rfl, unhide hB, hbel⟩
    case round =>
      obtain ⟨c, f, pre, rfl, hc, hp, he, hb, hbel2⟩ := hrel
      replace hc := hide hc
      replace he := hide he
      replace hp := hide hp
      clear hB hbel hz'
      by_cases h128 : c < 128
      · have t1 : decide (128 ≤ (c : Int)) = false := by simp; omega
        have lb := low_byte c h128
        go_wp2_with fail
        refine (bwrite_any W0 W0 _ _ _ hb (by rw [Lib.byteCells_length]; have := unhide hp; omega) (Nat.le_trans hle hbel2.size)).mono ?_
        rintro e w1 ⟨rfl, hb1, hbl1⟩
        replace hbel2 := hbel2.trans hbl1
        rw [← bytes_low pre c h128] at hb1
        have hfin : pre ++ [UInt8.ofNat c] = Wi.enc 9 Z := by rw [← unhide he, Wi.enc_done f c h128]
        rw [hfin] at hb1
        clear hfin lb t1
        go_wp2_with fail
        refine (Try.Builder_String_any W0 W0 _ _ (Or.inr hb1) (Nat.le_trans hle hbel2.size)).mono ?_
        rintro e w2 ⟨rfl, hbl2⟩
        replace hbel2 := hbel2.trans hbl2
        go_wp2_with fail
        go_ret
        exact ⟨rfl, hbel2⟩
      · have t1 : decide (128 ≤ (c : Int)) = true := by simp; omega
        have tb := top_bit c
        obtain ⟨f, rfl⟩ : ∃ g, f = g + 1 := by
          cases f with
          | zero => have := unhide hc; simp at this; omega
          | succ g => exact ⟨g, rfl⟩
        go_wp2_with fail
        refine (bwrite_any W0 W0 _ _ _ hb (by rw [Lib.byteCells_length]; have := unhide hp; omega) (Nat.le_trans hle hbel2.size)).mono ?_
        rintro e w1 ⟨rfl, hb1, hbl1⟩
        replace hbel2 := hbel2.trans hbl1
        rw [← bytes_top pre c] at hb1
        clear tb t1
        go_wp2_with fail
        go_roundw
        case rel => exact ⟨c / 128, f, pre ++ [UInt8.ofNat (c % 128 + 128)], by simp, by have := unhide hc; rw [Nat.pow_succ] at this; exact Nat.div_lt_of_lt_mul (by omega), by have := unhide hp; simp; omega, by rw [← unhide he, Wi.enc_more f c h128, List.append_assoc]; rfl, Or.inr hb1, hbel2⟩
        case measure => simp [intOf]; omega
end Go.Proofs.Ytfbgbbbfpkpfkaa
-- @@XWi2
/- The reference's Int. -/
namespace Go.Proofs.Ytfbgbbbfpkpfkaa
open Go.RowKit

theorem and_low (c : Nat) (h : c < 18446744073709551616) : bits .and .u64 (c : Int) 127 = (c : Int) % 128 := by
  rw [show (127 : Int) = ((127 : Nat) : Int) from rfl, u64_and_nat _ _ h (by omega), nat_mask7]
  omega
theorem int9 (n : Int) (hn : I64 n) : Wi.int n = Wi.enc 9 (Wi.zig n) := by
  have hz := Wi.zig_lt hn
  unfold Wi.int
  exact Wi.enc_fuel 10 9 _ (Nat.lt_of_lt_of_le hz (by decide)) (Nat.lt_of_lt_of_le hz (by decide))
set_option maxRecDepth 100000 in
set_option maxHeartbeats 1000000 in
theorem rint_any (n : Int) (w : World) (hn : I64 n) :
    Calls Try.prog 44 #[.int .i64 n] w fun e w' => e = .returned (.string ⟨(Wi.int n).toArray⟩) ∧ Below w.heap.size w w' := by
  have hz := Wi.zig_lt hn
  have e1 := zig_neg n hn
  have e2 := zig_pos n hn
  rw [int9 n hn]
  generalize Wi.zig n = Z at *
  have hz' : Z < 128 ^ (9 + 1) := Nat.lt_of_lt_of_le hz (by decide)
  obtain ⟨W0, hW0⟩ : ∃ W0, w.heap.size = W0 := ⟨_, rfl⟩
  rw [hW0]
  have hle : W0 ≤ w.heap.size := by omega
  replace hz' := hide hz'
  replace hz := hide hz
  obtain ⟨i0, hi, hz0, hz1, hz2⟩ := info_parts byte_info
  replace hi := hide hi; replace hz0 := hide hz0; replace hz1 := hide hz1; replace hz2 := hide hz2
  by_cases h0 : n < 0
  · have t0 : decide (n < 0) = true := by simpa using h0
    have e := e1 h0
    clear e1 e2
    go_enter Try.func44, Try.ntmps44
    go_wp2_with fail
    clear hW0 e t0
    go_loopw [3, 4] (fun v3 v4 wr => ∃ (c f : Nat) (pre : List UInt8), v3 = .int .u64 (c : Int) ∧ c ≤ Z ∧ c < 128 ^ (f + 1) ∧ pre.length + f = 9 ∧ pre ++ Wi.enc f c = Wi.enc 9 Z ∧ wr.ownsRow W0 5 1 v4 pre.length (Lib.byteCells pre) ∧ Below W0 w wr) (fun v _ _ => (intOf v).toNat)
    case atStart => exact ⟨Z, 9, [], rfl, Nat.le_refl _, unhide hz', rfl, rfl, World.ownsRow_nil _ _ _ _, Below.refl _ _⟩
    case round =>
      obtain ⟨c, f, pre, rfl, hcz, hc, hp, he, hb, hbel2⟩ := hrel
      have ha := and_low c (Nat.lt_of_le_of_lt hcz (unhide hz))
      replace hc := hide hc
      replace he := hide he
      replace hp := hide hp
      clear hz'
      by_cases h128 : c < 128
      · have t1 : decide (127 < (c : Int)) = false := by simp; omega
        have lb := low_byte c h128
        go_wp2_with (at_builtin; refine wpList_append_own _ rfl _ _ 75 rfl W0 5 i0 (.int .u8 0) 1 1 Try.underlying75 (unhide hi) (unhide hz0) (unhide hz1) (unhide hz2) rfl (by decide) _ _ _ rfl (hb.alloc _) ⟨wr.heap.size, 0, none⟩ 1 1 [.int .u8 (c : Int)] rfl rfl ?c1 ?c2 ?c3 ?c4 ?c5 ?_)
        case c1 =>
          intro j u hj
          match j, hj with
          | 0, hj => simp at hj; subst hj; simp [Addr.add]
        case c2 => intro u hu; simp at hu; subst hu; rfl
        case c3 => have := unhide hp; unfold maxLen; omega
        case c4 => have := unhide hp; omega
        case c5 => have := hbel2.size; simp; omega
        intro v' w1 hown hgrow _
        have hbel3 := (hbel2.alloc (Nat.le_trans hle hbel2.size) (Obj.cells #[.int .u8 (c : Int)] 5)).grown hgrow (by have := hbel2.size; simp; omega) (fun k hk => (hb.lt k hk).1)
        have hfin : pre ++ [UInt8.ofNat c] = Wi.enc 9 Z := by rw [← unhide he, Wi.enc_done f c h128]
        rw [← bytes_low pre c h128, hfin] at hown
        have hlen : (Wi.enc 9 Z).length = pre.length + 1 := by rw [← hfin]; simp
        obtain ⟨g, cap, rfl, _, _⟩ := hown.form (by omega)
        have hcell := hown.cells (g := g) rfl
        have hconv := run_convert_bytes_back (P := Try.prog) w1 75 9 5 ⟨g, 0, none⟩ cap (Wi.enc 9 Z) Try.underlying75 Try.underlying5 Try.underlying9
          (fun j hj => hcell j _ (by simp [Lib.byteCells, hj]))
        rw [hlen] at hconv
        clear hown hcell hfin hlen hgrow hb lb ha t1
        go_wp2_with fail
        go_ret
        exact ⟨rfl, hbel3⟩
      · have t1 : decide (127 < (c : Int)) = true := by simp; omega
        obtain ⟨f, rfl⟩ : ∃ g, f = g + 1 := by
          cases f with
          | zero => have := unhide hc; simp at this; omega
          | succ g => exact ⟨g, rfl⟩
        go_wp2_with (at_builtin; refine wpList_append_own _ rfl _ _ 75 rfl W0 5 i0 (.int .u8 0) 1 1 Try.underlying75 (unhide hi) (unhide hz0) (unhide hz1) (unhide hz2) rfl (by decide) _ _ _ rfl (hb.alloc _) ⟨wr.heap.size, 0, none⟩ 1 1 [.int .u8 ((c : Int) % 128 + 128)] rfl rfl ?c1 ?c2 ?c3 ?c4 ?c5 ?_)
        case c1 =>
          intro j u hj
          match j, hj with
          | 0, hj => simp at hj; subst hj; simp [Addr.add]
        case c2 => intro u hu; simp at hu; subst hu; rfl
        case c3 => have := unhide hp; unfold maxLen; omega
        case c4 => have := unhide hp; omega
        case c5 => have := hbel2.size; simp; omega
        intro v' w1 hown hgrow _
        have hbel3 := (hbel2.alloc (Nat.le_trans hle hbel2.size) (Obj.cells #[.int .u8 ((c : Int) % 128 + 128)] 5)).grown hgrow (by have := hbel2.size; simp; omega) (fun k hk => (hb.lt k hk).1)
        go_wp2_with fail
        go_roundw
        case rel => exact ⟨c / 128, f, pre ++ [UInt8.ofNat (c % 128 + 128)], by simp, by omega, by have := unhide hc; rw [Nat.pow_succ] at this; exact Nat.div_lt_of_lt_mul (by omega), by have := unhide hp; simp; omega, by rw [← unhide he, Wi.enc_more f c h128, List.append_assoc]; rfl, by rw [bytes_top]; simpa using hown, hbel3⟩
        case measure => simp [intOf]; omega
  · have t0 : decide (n < 0) = false := by simpa using h0
    have e := e2 h0
    clear e1 e2
    go_enter Try.func44, Try.ntmps44
    go_wp2_with fail
    clear hW0 e t0
    go_loopw [3, 4] (fun v3 v4 wr => ∃ (c f : Nat) (pre : List UInt8), v3 = .int .u64 (c : Int) ∧ c ≤ Z ∧ c < 128 ^ (f + 1) ∧ pre.length + f = 9 ∧ pre ++ Wi.enc f c = Wi.enc 9 Z ∧ wr.ownsRow W0 5 1 v4 pre.length (Lib.byteCells pre) ∧ Below W0 w wr) (fun v _ _ => (intOf v).toNat)
    case atStart => exact ⟨Z, 9, [], rfl, Nat.le_refl _, unhide hz', rfl, rfl, World.ownsRow_nil _ _ _ _, Below.refl _ _⟩
    case round =>
      obtain ⟨c, f, pre, rfl, hcz, hc, hp, he, hb, hbel2⟩ := hrel
      have ha := and_low c (Nat.lt_of_le_of_lt hcz (unhide hz))
      replace hc := hide hc
      replace he := hide he
      replace hp := hide hp
      clear hz'
      by_cases h128 : c < 128
      · have t1 : decide (127 < (c : Int)) = false := by simp; omega
        have lb := low_byte c h128
        go_wp2_with (at_builtin; refine wpList_append_own _ rfl _ _ 75 rfl W0 5 i0 (.int .u8 0) 1 1 Try.underlying75 (unhide hi) (unhide hz0) (unhide hz1) (unhide hz2) rfl (by decide) _ _ _ rfl (hb.alloc _) ⟨wr.heap.size, 0, none⟩ 1 1 [.int .u8 (c : Int)] rfl rfl ?c1 ?c2 ?c3 ?c4 ?c5 ?_)
        case c1 =>
          intro j u hj
          match j, hj with
          | 0, hj => simp at hj; subst hj; simp [Addr.add]
        case c2 => intro u hu; simp at hu; subst hu; rfl
        case c3 => have := unhide hp; unfold maxLen; omega
        case c4 => have := unhide hp; omega
        case c5 => have := hbel2.size; simp; omega
        intro v' w1 hown hgrow _
        have hbel3 := (hbel2.alloc (Nat.le_trans hle hbel2.size) (Obj.cells #[.int .u8 (c : Int)] 5)).grown hgrow (by have := hbel2.size; simp; omega) (fun k hk => (hb.lt k hk).1)
        have hfin : pre ++ [UInt8.ofNat c] = Wi.enc 9 Z := by rw [← unhide he, Wi.enc_done f c h128]
        rw [← bytes_low pre c h128, hfin] at hown
        have hlen : (Wi.enc 9 Z).length = pre.length + 1 := by rw [← hfin]; simp
        obtain ⟨g, cap, rfl, _, _⟩ := hown.form (by omega)
        have hcell := hown.cells (g := g) rfl
        have hconv := run_convert_bytes_back (P := Try.prog) w1 75 9 5 ⟨g, 0, none⟩ cap (Wi.enc 9 Z) Try.underlying75 Try.underlying5 Try.underlying9
          (fun j hj => hcell j _ (by simp [Lib.byteCells, hj]))
        rw [hlen] at hconv
        clear hown hcell hfin hlen hgrow hb lb ha t1
        go_wp2_with fail
        go_ret
        exact ⟨rfl, hbel3⟩
      · have t1 : decide (127 < (c : Int)) = true := by simp; omega
        obtain ⟨f, rfl⟩ : ∃ g, f = g + 1 := by
          cases f with
          | zero => have := unhide hc; simp at this; omega
          | succ g => exact ⟨g, rfl⟩
        go_wp2_with (at_builtin; refine wpList_append_own _ rfl _ _ 75 rfl W0 5 i0 (.int .u8 0) 1 1 Try.underlying75 (unhide hi) (unhide hz0) (unhide hz1) (unhide hz2) rfl (by decide) _ _ _ rfl (hb.alloc _) ⟨wr.heap.size, 0, none⟩ 1 1 [.int .u8 ((c : Int) % 128 + 128)] rfl rfl ?c1 ?c2 ?c3 ?c4 ?c5 ?_)
        case c1 =>
          intro j u hj
          match j, hj with
          | 0, hj => simp at hj; subst hj; simp [Addr.add]
        case c2 => intro u hu; simp at hu; subst hu; rfl
        case c3 => have := unhide hp; unfold maxLen; omega
        case c4 => have := unhide hp; omega
        case c5 => have := hbel2.size; simp; omega
        intro v' w1 hown hgrow _
        have hbel3 := (hbel2.alloc (Nat.le_trans hle hbel2.size) (Obj.cells #[.int .u8 ((c : Int) % 128 + 128)] 5)).grown hgrow (by have := hbel2.size; simp; omega) (fun k hk => (hb.lt k hk).1)
        go_wp2_with fail
        go_roundw
        case rel => exact ⟨c / 128, f, pre ++ [UInt8.ofNat (c % 128 + 128)], by simp, by omega, by have := unhide hc; rw [Nat.pow_succ] at this; exact Nat.div_lt_of_lt_mul (by omega), by have := unhide hp; simp; omega, by rw [← unhide he, Wi.enc_more f c h128, List.append_assoc]; rfl, by rw [bytes_top]; simpa using hown, hbel3⟩
        case measure => simp [intOf]; omega
end Go.Proofs.Ytfbgbbbfpkpfkaa
-- @@XWi3
/- wire.Text and lists, the program's and the reference's. -/
namespace Go.Proofs.Ytfbgbbbfpkpfkaa
open Go.RowKit

theorem int_len (n : Int) : 1 ≤ (Wi.int n).length ∧ (Wi.int n).length ≤ 11 := Wi.enc_len 10 _
theorem txt_eq (s : ByteArray) : (⟨(Wi.int (s.size : Int)).toArray⟩ : ByteArray) ++ s = ⟨(Wi.txt s.data.toList).toArray⟩ := by
  rw [ba_app]
  unfold Wi.txt
  rw [show (s.data.toList.length : Int) = (s.size : Int) from by rw [Array.length_toList]; rfl]
theorem txt_add (s : ByteArray) (hs : s.size ≤ 1000000000000) (w : World) : (Op.stringOp .add ⟨(Wi.int (s.size : Int)).toArray⟩ s).run Try.prog w = .ok (.string ⟨(Wi.txt s.data.toList).toArray⟩) w := by
  rw [run_string_add_sum _ _ _ (by rw [ba_size]; have := int_len (s.size : Int); omega), txt_eq]
end Go.Proofs.Ytfbgbbbfpkpfkaa
-- @@XWi4
/- wire.Ints and wire.Texts: the lists. -/
namespace Go.Proofs.Ytfbgbbbfpkpfkaa
open Go.RowKit

theorem flat_step {α : Type} (f : α → List UInt8) (l : List α) (k : Nat) (x : α) (hx : l[k]? = some x) : (l.take (k + 1)).flatMap f = (l.take k).flatMap f ++ f x := by
  obtain ⟨hk, rfl⟩ := List.getElem?_eq_some_iff.1 hx
  rw [List.take_succ_eq_append_getElem hk, List.flatMap_append]
  simp
theorem flat_le {α : Type} (f : α → List UInt8) (l : List α) (k : Nat) : ((l.take k).flatMap f).length ≤ (l.flatMap f).length := by
  conv => rhs; rw [← List.take_append_drop k l, List.flatMap_append]
  simp
theorem strCells_mk (l : List UInt8) : Lib.strCells ⟨l.toArray⟩ = Lib.byteCells l := by simp [Lib.strCells, Lib.byteCells]
theorem bytes_app (l m : List UInt8) : Lib.byteCells l ++ Lib.byteCells m = Lib.byteCells (l ++ m) := by simp [Lib.byteCells]
theorem ints_len (l : List Int) : (l.flatMap Wi.int).length ≤ 11 * l.length := by
  induction l with
  | nil => simp
  | cons x l ih =>
    have := int_len x
    simp only [List.flatMap_cons, List.length_append, List.length_cons]
    omega
theorem bui_below {B b : Nat} {bs : List Value} {w w' : World} (h : IsBui B b bs w) (hb : Below w.heap.size w w') : IsBui B b bs w' := by
  have key : ∀ p, Lib.BuilderAt 77 5 B b p bs w → Lib.BuilderAt 77 5 B b p bs w' := by
    rintro p ⟨h1, v, h2, h3, h4⟩
    refine ⟨h1, v, (hb.block b (Array.getElem?_eq_some_iff.1 h2).1).trans h2, ?_, h4⟩
    exact h3.kept (row := some w.heap.size) (grown_of_below hb _) (Or.inr (fun e => by have := (h3.lt _ e).2; omega))
  rcases h with h | h
  · exact Or.inl (key _ h)
  · exact Or.inr (key _ h)

set_option maxHeartbeats 1000000 in
theorem wintslist_any (a : Option Addr) (len cap : Nat) (l : List Int) (w : World) (hl : Lst Enc.int w (· < w.heap.size) a len l) (hlen : len ≤ 1000000) :
    Calls Try.prog 60 #[.slice a len cap, .func (Fn.func 41) #[] #[]] w fun e w' => e = .returned (.string ⟨(Wi.ints l).toArray⟩) ∧ Below w.heap.size w w' := by
  have hlen0 := hl.1
  have hB := Lib.fresh_isBuilder 77 5 w
  have hbel : Below w.heap.size w (w.alloc (Obj.cells #[.pointer none, .slice none 0 0] 77)) := (Below.refl _ _).alloc (Nat.le_refl _) _
  obtain ⟨W0, hW0⟩ : ∃ W0, w.heap.size = W0 := ⟨_, rfl⟩
  rw [hW0] at hB hbel hl ⊢
  have hle : W0 ≤ w.heap.size := by omega
  have hI := int_len (len : Int)
  have hF := ints_len l
  rw [hlen0] at hF
  replace hB := hide hB
  replace hlen0 := hide hlen0
  go_enter Try.func60, Try.ntmps60
  go_wp2_with fail
  clear hW0
  refine (wint_any _ _ (size_i64 _ (by omega))).mono ?_
  rintro e w1 ⟨rfl, hb1⟩
  have hz1 : W0 ≤ (w.alloc (Obj.cells #[.pointer none, .slice none 0 0] 77)).heap.size := Nat.le_trans hle hbel.size
  have hB1 : IsBui W0 W0 (Lib.byteCells []) w1 := bui_below (unhide hB) hb1
  replace hbel := hbel.trans (hb1.mono hz1)
  clear hb1 hB hz1
  go_wp2_with fail
  refine (bwrites_any W0 W0 _ _ _ hB1 (by rw [ba_size]; simp [Lib.byteCells]; omega) (Nat.le_trans hle hbel.size)).mono ?_
  rintro e w2 ⟨rfl, hB2, hb2⟩
  rw [strCells_mk, bytes_app, List.nil_append] at hB2
  replace hbel := hbel.trans hb2
  clear hb2 hB1
  go_wp2_with fail
  go_loopw [14] (fun v wr => ∃ k : Nat, k ≤ len ∧ v = .int .i64 (k : Int) ∧ IsBui W0 W0 (Lib.byteCells (Wi.int (len : Int) ++ (l.take k).flatMap Wi.int)) wr ∧ Below W0 w wr) (fun v _ => (len - intOf v).toNat)
  case atStart => exact ⟨0, by omega, rfl, Or.inr (by simpa using hB2), hbel⟩
  case round =>
    obtain ⟨k, hk, rfl, hb, hbel2⟩ := hrel
    clear hbel hB2
    have hll := unhide hlen0
    by_cases hlt : k < len
    · obtain ⟨bb, off, x, rfl, hbb, hx, hxi, hc⟩ := lst_int (hl.below hbel2) hlt
      have hcat := flat_step Wi.int l k x hx
      have hmono := flat_le Wi.int l (k + 1)
      rw [hcat] at hmono
      have hxl := int_len x
      replace hcat := hide hcat
      replace hx := hide hx
      replace hmono := hide hmono
      clear hll
      go_wp2_with fail
      refine (wint_any _ _ hxi).mono ?_
      rintro e w3 ⟨rfl, hb3⟩
      have hB3 := bui_below hb hb3
      replace hbel2 := hbel2.trans (hb3.mono (Nat.le_trans hle hbel2.size))
      clear hb3
      go_wp2_with fail
      refine (bwrites_any W0 W0 _ _ _ hB3 (by rw [ba_size]; have := unhide hmono; simp only [List.length_append] at this; rw [Lib.byteCells_length, List.length_append]; omega) (Nat.le_trans hle hbel2.size)).mono ?_
      rintro e w4 ⟨rfl, hB4, hb4⟩
      rw [strCells_mk, bytes_app, List.append_assoc, ← unhide hcat] at hB4
      replace hbel2 := hbel2.trans hb4
      clear hb4 hB3 hb
      go_wp2_with fail
      go_roundw
      case rel => exact ⟨k + 1, by omega, by go_num, Or.inr hB4, hbel2⟩
      case measure => simp [intOf]; omega
    · have hkk : (Wi.int (len : Int) ++ (l.take k).flatMap Wi.int) = Wi.ints l := by
        unfold Wi.ints
        rw [List.take_of_length_le (by omega), hll]
      rw [hkk] at hb
      clear hkk hll
      have t1 : decide ((k : Int) < (len : Int)) = false := by simp; omega
      go_wp2_with fail
      refine (Try.Builder_String_any W0 W0 _ _ hb (Nat.le_trans hle hbel2.size)).mono ?_
      rintro e w3 ⟨rfl, hb3⟩
      replace hbel2 := hbel2.trans hb3
      go_wp2_with fail
      go_ret
      exact ⟨rfl, hbel2⟩
theorem wints_any (a : Option Addr) (len cap : Nat) (l : List Int) (w : World) (hl : Lst Enc.int w (· < w.heap.size) a len l) (hlen : len ≤ 1000000) :
    Calls Try.prog 42 #[.slice a len cap] w fun e w' => e = .returned (.string ⟨(Wi.ints l).toArray⟩) ∧ Below w.heap.size w w' := by
  go_enter Try.func42, Try.ntmps42
  go_wp2_with fail
  refine (wintslist_any a len cap l w hl hlen).mono ?_
  rintro e w1 ⟨rfl, hb⟩
  go_wp2_with fail
  go_ret
  exact ⟨rfl, hb⟩
theorem btxts_len (l : List ByteArray) (h : ∀ x ∈ l, x.size ≤ 1000000) : (l.flatMap Wi.btxt).length ≤ 1000011 * l.length := by
  induction l with
  | nil => simp
  | cons x l ih =>
    have h1 := h x (by simp)
    have h2 := ih (fun y hy => h y (by simp [hy]))
    have := int_len (x.data.toList.length : Int)
    have hs : x.data.toList.length = x.size := by rw [Array.length_toList]; rfl
    have hb : (Wi.btxt x).length = (Wi.int (x.data.toList.length : Int)).length + x.size := by simp only [Wi.btxt, Wi.txt, List.length_append]; omega
    simp only [List.flatMap_cons, List.length_append, List.length_cons]
    omega
theorem btxt_len (x : ByteArray) (h : x.size ≤ 1000000) : (Wi.btxt x).length ≤ 1000011 := by
  have := int_len (x.data.toList.length : Int)
  have hs : x.data.toList.length = x.size := by rw [Array.length_toList]; rfl
  simp only [Wi.btxt, Wi.txt, List.length_append]
  omega

end Go.Proofs.Ytfbgbbbfpkpfkaa
-- @@XWi5
/- The reference's Ints and Texts. -/
namespace Go.Proofs.Ytfbgbbbfpkpfkaa
open Go.RowKit

set_option maxHeartbeats 1000000 in
theorem rints_any (a : Option Addr) (len cap : Nat) (l : List Int) (w : World) (hl : Lst Enc.int w (· < w.heap.size) a len l) (hlen : len ≤ 1000000) :
    Calls Try.prog 45 #[.slice a len cap] w fun e w' => e = .returned (.string ⟨(Wi.ints l).toArray⟩) ∧ Below w.heap.size w w' := by
  have hlen0 := hl.1
  obtain ⟨W0, hW0⟩ : ∃ W0, w.heap.size = W0 := ⟨_, rfl⟩
  rw [hW0] at hl ⊢
  have hle : W0 ≤ w.heap.size := by omega
  have hI := int_len (len : Int)
  have hF := ints_len l
  rw [hlen0] at hF
  replace hlen0 := hide hlen0
  go_enter Try.func45, Try.ntmps45
  go_wp2_with fail
  refine (rint_any _ _ (size_i64 _ (by omega))).mono ?_
  rintro e w1 ⟨rfl, hb1⟩
  replace hb1 := hb1.mono hle
  clear hW0
  go_wp2_with fail
  go_loopw [3, 4] (fun v3 v4 wr => ∃ k : Nat, k ≤ len ∧ v4 = .int .i64 (k : Int) ∧ v3 = .string ⟨(Wi.int (len : Int) ++ (l.take k).flatMap Wi.int).toArray⟩ ∧ Below W0 w wr) (fun _ v _ => (len - intOf v).toNat)
  case atStart => exact ⟨0, by omega, rfl, by simp, hb1⟩
  case round =>
    obtain ⟨k, hk, rfl, rfl, hbel2⟩ := hrel
    clear hb1
    have hll := unhide hlen0
    by_cases hlt : k < len
    · obtain ⟨bb, off, x, rfl, hbb, hx, hxi, hc⟩ := lst_int (hl.below hbel2) hlt
      have hcat := flat_step Wi.int l k x hx
      have hmono := flat_le Wi.int l (k + 1)
      rw [hcat] at hmono
      simp only [List.length_append] at hmono
      have hxl := int_len x
      have hadd := add_lists (Wi.int (len : Int) ++ (l.take k).flatMap Wi.int) (Wi.int x) (by rw [List.length_append]; omega)
      rw [List.append_assoc, ← hcat] at hadd
      clear hcat hx hmono hll
      generalize hP : Wi.int (len : Int) ++ (l.take k).flatMap Wi.int = PP at *
      generalize hR : Wi.int (len : Int) ++ (l.take (k + 1)).flatMap Wi.int = RR at *
      replace hP := hide hP; replace hR := hide hR
      go_wp2_with fail
      refine (rint_any _ _ hxi).mono ?_
      rintro e w3 ⟨rfl, hb3⟩
      replace hbel2 := hbel2.trans (hb3.mono (Nat.le_trans hle hbel2.size))
      clear hb3
      go_wp2_with fail
      go_roundw
      case rel => exact ⟨k + 1, by omega, by go_num, by rw [← unhide hR], hbel2⟩
      case measure => simp [intOf]; omega
    · have hkk : (Wi.int (len : Int) ++ (l.take k).flatMap Wi.int) = Wi.ints l := by
        unfold Wi.ints
        rw [List.take_of_length_le (by omega), hll]
      rw [hkk]
      clear hkk hll
      have t1 : decide ((k : Int) < (len : Int)) = false := by simp; omega
      go_wp2_with fail
      go_ret
      exact ⟨rfl, hbel2⟩

end Go.Proofs.Ytfbgbbbfpkpfkaa
