/- The law's change of a byte. -/
import Derived.Test.YtlmaofibdjmkeaaDg13
namespace Go.Proofs.Ytlmaofibdjmkeaa
open Go.RowKit
attribute [local go_sem ↓] Go.wp_at_zero Go.wp_at_succ
/-- a string in which one byte is replaced -/
def Dg.chg (s : ByteArray) (p c : Nat) : ByteArray := ⟨(s.data.toList.set (p % s.size) (UInt8.ofNat c)).toArray⟩
theorem chg_size (s : ByteArray) (p c : Nat) : (Dg.chg s p c).size = s.size := by
  unfold Dg.chg
  rw [ba_size, List.length_set, data_len]
theorem chg_eq (s : ByteArray) (p c : Nat) (hs : 0 < s.size) : s.extract 0 (p % s.size) ++ ⟨#[UInt8.ofNat c]⟩ ++ s.extract (p % s.size + 1) s.size = Dg.chg s p c := by
  have hlt : p % s.size < s.data.toList.length := by rw [data_len]; exact Nat.mod_lt _ hs
  unfold Dg.chg
  rw [List.set_eq_take_append_cons_drop, if_pos hlt]
  apply ByteArray.ext
  apply Array.toList_inj.1
  simp only [ByteArray.data_append, ByteArray.data_extract, Array.toList_append, Array.toList_extract]
  simp [List.take_of_length_le]
theorem conv1 (w _ : World) (b : Nat) (c : Nat) (hc : c < 256) (h : w.heap[b]? = some (.cells #[.int .u8 (c : Int)] 5 (0, 0))) :
    (convert 32 9 (.slice (some ⟨b, 0, none⟩) 1 1)).run Try.prog w = .ok (.string ⟨#[UInt8.ofNat c]⟩) w := by
  refine run_convert_bytes_back (P := Try.prog) w 32 9 5 ⟨b, 0, none⟩ 1 [UInt8.ofNat c] Try.underlying32 Try.underlying5 Try.underlying9 (fun j hj => ?_)
  have hj1 : j < 1 := hj
  obtain rfl : j = 0 := by omega
  rw [Addr.add_lit, Nat.zero_add, cell_of_row _ b 0 _ _ _ h]
  simp
  omega
set_option maxRecDepth 100000 in
set_option maxHeartbeats 4000000 in
theorem change_any (S s : ByteArray) (p c : Nat) (w : World) (hp : p < 256) (hc : c < 256) (hs : s.size ≤ maxLen) :
    Calls Try.prog 17 #[.agg #[.string S, .int .u8 (p : Int), .int .u8 (c : Int)], .string s] w fun e w' => e = .returned (.string (Dg.chg s p c)) ∧ Below w.heap.size w w' := by
  unfold maxLen at hs
  by_cases hs0 : s.size = 0
  · have he : Dg.chg s p c = s := by
      have hn : s.data.toList = [] := List.eq_nil_of_length_eq_zero (by rw [data_len]; exact hs0)
      unfold Dg.chg
      rw [hn, List.set_nil]
      apply ByteArray.ext
      apply Array.toList_inj.1
      rw [hn]
    rw [he]
    replace he := hide he
    have t1 : ((s.size : Int) == 0) = true := by rw [hs0]; rfl
    go_enter Try.func17, Try.ntmps17
    go_wp2_with fail
    go_ret
    exact ⟨rfl, (Below.refl _ _).alloc (Nat.le_refl _) _⟩
  · have t1 : ((s.size : Int) == 0) = false := beq_eq_false_iff_ne.2 (by omega)
    obtain ⟨k, hk⟩ : ∃ k, p % s.size = k := ⟨_, rfl⟩
    have hkm : k < s.size := by rw [← hk]; exact Nat.mod_lt _ (by omega)
    have t2 : (p : Int) % (s.size : Int) = (k : Int) := by rw [← hk]; rfl
    have t2' : Int.tmod (p : Int) (s.size : Int) = (k : Int) := by rw [← hk]; rfl
    have he := chg_eq s p c (by omega)
    rw [hk] at he
    obtain ⟨R, hR⟩ : ∃ R, Dg.chg s p c = R := ⟨_, rfl⟩
    rw [hR] at he ⊢
    obtain ⟨bx, hbx⟩ : ∃ bx, bx = w.heap.size := ⟨_, rfl⟩
    obtain ⟨wo, hwo⟩ : ∃ wo, wo = w.alloc (Obj.cells #[.string S, .int .u8 (p : Int), .int .u8 (c : Int)] 27) := ⟨_, rfl⟩
    have hrow : wo.heap[bx]? = some (.cells #[.string S, .int .u8 (p : Int), .int .u8 (c : Int)] 27 (0, 0)) := by rw [hwo, hbx]; exact heap_alloc_new w _
    have hb0 : Below w.heap.size w wo := by rw [hwo]; exact (Below.refl _ _).alloc (Nat.le_refl _) _
    have hbl : bx < wo.heap.size := (Array.getElem?_eq_some_iff.1 hrow).1
    have hc1 : wo.cell? ⟨bx, 1, none⟩ = some (.int .u8 (p : Int)) := (cell_of_row _ _ 1 _ _ _ hrow).trans rfl
    have hc2 : wo.cell? ⟨bx, 2, none⟩ = some (.int .u8 (c : Int)) := (cell_of_row _ _ 2 _ _ _ hrow).trans rfl
    have hcv := fun (w : World) (b : Nat) h => conv1 w w b c hc h
    replace hR := hide hR; replace hwo := hide hwo; replace hb0 := hide hb0; replace hrow := hide hrow; replace hk := hide hk; replace hcv := hide hcv; replace he := hide he; replace hbx := hide hbx
    go_enter Try.func17, Try.ntmps17
    go_wp2_with fail
    rw [← unhide hwo, ← unhide hbx]
    go_wp2_with fail
    refine wp_region_frontG 13 (fun _ _ w' => Below wo.heap.size wo w') (fun wa wb => Below wa.heap.size wa wb)
      (fun i v w' => match i with
        | 0 => v = .string s
        | 1 => v = .int .i64 (k : Int)
        | 2 => v = .string (s.extract 0 k)
        | 3 => v = .pointer (some ⟨bx, 2, none⟩)
        | 4 => v = .int .u8 (c : Int)
        | 5 => ∃ b, v = .slice (some ⟨b, 0, none⟩) 1 1 ∧ w'.heap[b]? = some (.cells #[.int .u8 (c : Int)] 5 (0, 0))
        | 6 => v = .string ⟨#[UInt8.ofNat c]⟩
        | 7 => v = .string (s.extract 0 k ++ ⟨#[UInt8.ofNat c]⟩)
        | 8 => v = .string s
        | 9 => v = .int .i64 (k : Int)
        | 10 => v = .int .i64 ((k + 1 : Nat) : Int)
        | 11 => v = .string (s.extract (k + 1) s.size)
        | 12 => v = .string R
        | _ => True) (by rfl) (by kernel_rfl) ?_ ?_ ?_ ?_
    · exact (Below.refl _ _).drew
    · intro wa wb hR i v hv
      match i, hv with
      | 0, h => exact h
      | 1, h => exact h
      | 2, h => exact h
      | 3, h => exact h
      | 4, h => exact h
      | 5, h => obtain ⟨b, h1, h2⟩ := h; exact ⟨b, h1, (hR.block b (Array.getElem?_eq_some_iff.1 h2).1).trans h2⟩
      | 6, h => exact h
      | 7, h => exact h
      | 8, h => exact h
      | 9, h => exact h
      | 10, h => exact h
      | 11, h => exact h
      | 12, h => exact h
      | _ + 13, _ => trivial
    · intro i hi
      obtain rfl | rfl | rfl | rfl | rfl | rfl | rfl | rfl | rfl | rfl | rfl | rfl | rfl : i = 0 ∨ i = 1 ∨ i = 2 ∨ i = 3 ∨ i = 4 ∨ i = 5 ∨ i = 6 ∨ i = 7 ∨ i = 8 ∨ i = 9 ∨ i = 10 ∨ i = 11 ∨ i = 12 := by omega
      · refine FrontStep.of [] _ rfl (by kernel_rfl) ?_
        intro vs L wq hL hC hf
        simp only [putL, List.foldl_nil]
        go_wp2_with fail
        first | exact Below.refl _ _ | exact ⟨Below.refl _ _, by omega⟩
      · refine FrontStep.of [] _ rfl (by kernel_rfl) ?_
        intro vs L wq hL hC hf
        simp only [putL, List.foldl_nil]
        go_wp2_with fail
        first | exact Below.refl _ _ | exact ⟨Below.refl _ _, by omega⟩
      · refine FrontStep.of [0, 1] _ rfl (by kernel_rfl) ?_
        intro vs L wq hL hC hf
        simp only [putL, List.foldl_nil, List.foldl_cons, List.getElem?_cons_zero, List.getElem?_cons_succ]
        have e0 : vs 0 = _ := hf 0 (by simp)
        rw [e0]
        have e1 : vs 1 = _ := hf 1 (by simp)
        rw [e1]
        go_wp2_with fail
        first | exact Below.refl _ _ | exact ⟨Below.refl _ _, by omega⟩
      · refine FrontStep.of [] _ rfl (by kernel_rfl) ?_
        intro vs L wq hL hC hf
        simp only [putL, List.foldl_nil]
        go_wp2_with fail
        first | exact Below.refl _ _ | exact ⟨Below.refl _ _, by omega⟩
      · refine FrontStep.of [3] _ rfl (by kernel_rfl) ?_
        intro vs L wq hL hC hf
        simp only [putL, List.foldl_nil, List.foldl_cons, List.getElem?_cons_zero, List.getElem?_cons_succ]
        have e3 : vs 3 = _ := hf 3 (by simp)
        rw [e3]
        have hcq := (hC.cell (p := ⟨bx, 2, none⟩) hbl).trans hc2
        go_wp2_with fail
        first | exact Below.refl _ _ | exact ⟨Below.refl _ _, by omega⟩
      · refine FrontStep.of [4] _ rfl (by kernel_rfl) ?_
        intro vs L wq hL hC hf
        simp only [putL, List.foldl_nil, List.foldl_cons, List.getElem?_cons_zero, List.getElem?_cons_succ]
        have e4 : vs 4 = _ := hf 4 (by simp)
        rw [e4]
        go_wp2_with fail
        exact ⟨hC.alloc hC.size _, (Below.refl _ _).alloc (Nat.le_refl _) _, (Array.getElem?_eq_some_iff.1 (heap_alloc_new _ _)).2⟩
      · refine FrontStep.of [5] _ rfl (by kernel_rfl) ?_
        intro vs L wq hL hC hf
        simp only [putL, List.foldl_nil, List.foldl_cons, List.getElem?_cons_zero, List.getElem?_cons_succ]
        obtain ⟨b, e21, hb21⟩ := hf 5 (by simp)
        rw [e21]
        have hcq := unhide hcv wq b hb21
        go_wp2_with fail
        first | exact Below.refl _ _ | exact ⟨Below.refl _ _, by omega⟩
      · refine FrontStep.of [2, 6] _ rfl (by kernel_rfl) ?_
        intro vs L wq hL hC hf
        simp only [putL, List.foldl_nil, List.foldl_cons, List.getElem?_cons_zero, List.getElem?_cons_succ]
        have e2 : vs 2 = _ := hf 2 (by simp)
        rw [e2]
        have e6 : vs 6 = _ := hf 6 (by simp)
        rw [e6]
        have hz1 : (s.extract 0 k).size = k := by rw [ByteArray.size_extract]; omega
        have hz2 : (⟨#[UInt8.ofNat c]⟩ : ByteArray).size = 1 := rfl
        go_wp2_with fail
        first | exact Below.refl _ _ | exact ⟨Below.refl _ _, by omega⟩
      · refine FrontStep.of [] _ rfl (by kernel_rfl) ?_
        intro vs L wq hL hC hf
        simp only [putL, List.foldl_nil]
        go_wp2_with fail
        first | exact Below.refl _ _ | exact ⟨Below.refl _ _, by omega⟩
      · refine FrontStep.of [] _ rfl (by kernel_rfl) ?_
        intro vs L wq hL hC hf
        simp only [putL, List.foldl_nil]
        go_wp2_with fail
        first | exact Below.refl _ _ | exact ⟨Below.refl _ _, by omega⟩
      · refine FrontStep.of [9] _ rfl (by kernel_rfl) ?_
        intro vs L wq hL hC hf
        simp only [putL, List.foldl_nil, List.foldl_cons, List.getElem?_cons_zero, List.getElem?_cons_succ]
        have e9 : vs 9 = _ := hf 9 (by simp)
        rw [e9]
        go_wp2_with fail
        first | exact Below.refl _ _ | exact ⟨Below.refl _ _, by omega⟩
      · refine FrontStep.of [8, 10] _ rfl (by kernel_rfl) ?_
        intro vs L wq hL hC hf
        simp only [putL, List.foldl_nil, List.foldl_cons, List.getElem?_cons_zero, List.getElem?_cons_succ]
        have e8 : vs 8 = _ := hf 8 (by simp)
        rw [e8]
        have e10 : vs 10 = _ := hf 10 (by simp)
        rw [e10]
        go_wp2_with fail
        first | exact Below.refl _ _ | exact ⟨Below.refl _ _, by omega⟩
      · refine FrontStep.of [7, 11] _ rfl (by kernel_rfl) ?_
        intro vs L wq hL hC hf
        simp only [putL, List.foldl_nil, List.foldl_cons, List.getElem?_cons_zero, List.getElem?_cons_succ]
        have e7 : vs 7 = _ := hf 7 (by simp)
        rw [e7]
        have e11 : vs 11 = _ := hf 11 (by simp)
        rw [e11]
        have hz1 : (s.extract 0 k ++ ⟨#[UInt8.ofNat c]⟩).size = k + 1 := by rw [ByteArray.size_append, ByteArray.size_extract]; show _ + 1 = _; omega
        have hz2 : (s.extract (k + 1) s.size).size = s.size - (k + 1) := by rw [ByteArray.size_extract]; omega
        have he' := unhide he
        go_wp2_with fail
        first | exact Below.refl _ _ | exact ⟨Below.refl _ _, by omega⟩
    · intro vs L wq hL hC hf
      have e12 : vs 12 = _ := hf 12 (by omega)
      rw [putSome_all]
      simp only [putL, List.range, List.range.loop, List.foldl_nil, List.foldl_cons, List.getElem?_cons_zero, List.getElem?_cons_succ, List.drop_succ_cons, List.drop_zero]
      rw [e12]
      clear e12 hf hL
      have hbw := (unhide hb0).trans (hC.mono (unhide hb0).size)
      go_simp
      go_wp2_with fail
      go_ret
      exact ⟨rfl, hbw⟩
end Go.Proofs.Ytlmaofibdjmkeaa
