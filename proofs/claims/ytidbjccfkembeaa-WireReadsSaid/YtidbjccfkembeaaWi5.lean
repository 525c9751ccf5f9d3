/- The reference's Ints and Texts. -/
import Derived.Test.YtidbjccfkembeaaWi4
namespace Go.Proofs.Ytidbjccfkembeaa
open Go.RowKit

theorem add_lists (l m : List UInt8) (h : l.length + m.length ≤ 9223372036854775807) (w : World) : (Op.stringOp .add ⟨l.toArray⟩ ⟨m.toArray⟩).run Try.prog w = .ok (.string ⟨(l ++ m).toArray⟩) w := by
  rw [run_string_add_sum _ _ _ (by rw [ba_size, ba_size]; exact h), ba_app]
theorem rtextb_any (s : ByteArray) (w : World) (hs : s.size ≤ 1000000000000) :
    Calls Try.prog 15 #[.string s] w fun e w' => e = .returned (.string ⟨(Wi.btxt s).toArray⟩) ∧ Below w.heap.size w w' := rtext_any s w hs

set_option maxHeartbeats 1000000 in
theorem rints_any (a : Option Addr) (len cap : Nat) (l : List Int) (w : World) (hl : Lst Enc.int w (· < w.heap.size) a len l) (hlen : len ≤ 1000000) :
    Calls Try.prog 17 #[.slice a len cap] w fun e w' => e = .returned (.string ⟨(Wi.ints l).toArray⟩) ∧ Below w.heap.size w w' := by
  have hlen0 := hl.1
  obtain ⟨W0, hW0⟩ : ∃ W0, w.heap.size = W0 := ⟨_, rfl⟩
  rw [hW0] at hl ⊢
  have hle : W0 ≤ w.heap.size := by omega
  have hI := int_len (len : Int)
  have hF := ints_len l
  rw [hlen0] at hF
  replace hlen0 := hide hlen0
  go_enter Try.func17, Try.ntmps17
  go_wp2_with fail
  refine (rint_any _ _ (size_i64 _ (by omega))).mono ?_
  rintro e w1 ⟨rfl, hb1⟩
  replace hb1 := hb1.mono hle
  clear hW0
  go_wp2_with fail
  go_loopw [3, 4] (fun v3 v4 wr => ∃ k : Nat, k ≤ len ∧ v4 = .int .i64 (k : Int) ∧ v3 = .string ⟨(Wi.int (len : Int) ++ (l.take k).flatMap Wi.int).toArray⟩ ∧ Below W0 w wr) (fun _ v _ => (len - intOf v).toNat)
  case atStart => exact ⟨0, by omega, rfl, by simp, hb1⟩
  case round =>
    obtain ⟨k, hk, rfl, rfl, hbel2⟩ := hrel
    clear hb1
    have hll := unhide hlen0
    by_cases hlt : k < len
    · obtain ⟨bb, off, x, rfl, hbb, hx, hxi, hc⟩ := lst_int (hl.below hbel2) hlt
      have hcat := flat_step Wi.int l k x hx
      have hmono := flat_le Wi.int l (k + 1)
      rw [hcat] at hmono
      simp only [List.length_append] at hmono
      have hxl := int_len x
      have hadd := add_lists (Wi.int (len : Int) ++ (l.take k).flatMap Wi.int) (Wi.int x) (by rw [List.length_append]; omega)
      rw [List.append_assoc, ← hcat] at hadd
      clear hcat hx hmono hll
      generalize hP : Wi.int (len : Int) ++ (l.take k).flatMap Wi.int = PP at *
      generalize hR : Wi.int (len : Int) ++ (l.take (k + 1)).flatMap Wi.int = RR at *
      replace hP := hide hP; replace hR := hide hR
      go_wp2_with fail
      refine (rint_any _ _ hxi).mono ?_
      rintro e w3 ⟨rfl, hb3⟩
      replace hbel2 := hbel2.trans (hb3.mono (Nat.le_trans hle hbel2.size))
      clear hb3
      go_wp2_with fail
      go_roundw
      case rel => exact ⟨k + 1, by omega, by go_num, by rw [← unhide hR], hbel2⟩
      case measure => simp [intOf]; omega
    · have hkk : (Wi.int (len : Int) ++ (l.take k).flatMap Wi.int) = Wi.ints l := by
        unfold Wi.ints
        rw [List.take_of_length_le (by omega), hll]
      rw [hkk]
      clear hkk hll
      have t1 : decide ((k : Int) < (len : Int)) = false := by simp; omega
      go_wp2_with fail
      go_ret
      exact ⟨rfl, hbel2⟩

set_option maxHeartbeats 1000000 in
theorem rtexts_any (a : Option Addr) (len cap : Nat) (l : List ByteArray) (w : World) (hl : Lst Enc.str w (· < w.heap.size) a len l) (hlen : len ≤ 1000000) (hsz : ∀ x ∈ l, x.size ≤ 1000000) :
    Calls Try.prog 19 #[.slice a len cap] w fun e w' => e = .returned (.string ⟨(Wi.btxts l).toArray⟩) ∧ Below w.heap.size w w' := by
  have hlen0 := hl.1
  obtain ⟨W0, hW0⟩ : ∃ W0, w.heap.size = W0 := ⟨_, rfl⟩
  rw [hW0] at hl ⊢
  have hle : W0 ≤ w.heap.size := by omega
  have hI := int_len (len : Int)
  have hF := btxts_len l hsz
  rw [hlen0] at hF
  replace hlen0 := hide hlen0
  go_enter Try.func19, Try.ntmps19
  go_wp2_with fail
  refine (rint_any _ _ (size_i64 _ (by omega))).mono ?_
  rintro e w1 ⟨rfl, hb1⟩
  replace hb1 := hb1.mono hle
  clear hW0
  go_wp2_with fail
  go_loopw [3, 4] (fun v3 v4 wr => ∃ k : Nat, k ≤ len ∧ v4 = .int .i64 (k : Int) ∧ v3 = .string ⟨(Wi.int (len : Int) ++ (l.take k).flatMap Wi.btxt).toArray⟩ ∧ Below W0 w wr) (fun _ v _ => (len - intOf v).toNat)
  case atStart => exact ⟨0, by omega, rfl, by simp, hb1⟩
  case round =>
    obtain ⟨k, hk, rfl, rfl, hbel2⟩ := hrel
    clear hb1
    have hll := unhide hlen0
    by_cases hlt : k < len
    · obtain ⟨bb, off, x, rfl, hbb, hx, hxi, hc⟩ := lst_str (hl.below hbel2) hlt
      have hcat := flat_step Wi.btxt l k x hx
      have hmono := flat_le Wi.btxt l (k + 1)
      rw [hcat] at hmono
      simp only [List.length_append] at hmono
      have hxs := hsz x (List.mem_of_getElem? hx)
      have hxl := btxt_len x hxs
      have hadd := add_lists (Wi.int (len : Int) ++ (l.take k).flatMap Wi.btxt) (Wi.btxt x) (by rw [List.length_append]; omega)
      rw [List.append_assoc, ← hcat] at hadd
      clear hcat hx hmono hll
      generalize hP : Wi.int (len : Int) ++ (l.take k).flatMap Wi.btxt = PP at *
      generalize hR : Wi.int (len : Int) ++ (l.take (k + 1)).flatMap Wi.btxt = RR at *
      replace hP := hide hP; replace hR := hide hR
      go_wp2_with fail
      refine (rtextb_any _ _ (by omega)).mono ?_
      rintro e w3 ⟨rfl, hb3⟩
      replace hbel2 := hbel2.trans (hb3.mono (Nat.le_trans hle hbel2.size))
      clear hb3
      go_wp2_with fail
      go_roundw
      case rel => exact ⟨k + 1, by omega, by go_num, by rw [← unhide hR], hbel2⟩
      case measure => simp [intOf]; omega
    · have hkk : (Wi.int (len : Int) ++ (l.take k).flatMap Wi.btxt) = Wi.btxts l := by
        unfold Wi.btxts
        rw [List.take_of_length_le (by omega), hll]
      rw [hkk]
      clear hkk hll
      have t1 : decide ((k : Int) < (len : Int)) = false := by simp; omega
      go_wp2_with fail
      go_ret
      exact ⟨rfl, hbel2⟩
end Go.Proofs.Ytidbjccfkembeaa
