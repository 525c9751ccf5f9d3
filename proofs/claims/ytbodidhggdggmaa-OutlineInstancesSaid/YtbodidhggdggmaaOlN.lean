/- make of outlines and contours. -/
import Derived.Test.YtbodidhggdggmaaOlM
namespace Go.Proofs.Ytbodidhggdggmaa
open Go.RowKit
abbrev zP : Pt := (0, 0, false)
theorem made3 (n : Nat) : (madeCells #[Value.int .i64 0, .int .i64 0, .bool false] (n * 3)).toList = pcells (List.replicate n zP) := by
  apply List.ext_getElem?
  intro j
  by_cases hj : j < n * 3
  · have h := pcells_get (List.replicate n zP) (j / 3) zP (j % 3) (by rw [List.getElem?_replicate, if_pos (by omega)]) (Nat.mod_lt _ (by decide))
    rw [show j / 3 * 3 + j % 3 = j by omega] at h
    rw [h]
    have h3 : j % 3 = 0 ∨ j % 3 = 1 ∨ j % 3 = 2 := by omega
    rcases h3 with e | e | e <;> simp [madeCells, hj, e, pcell]
  · have e : (pcells (List.replicate n zP))[j]? = none := List.getElem?_eq_none (by rw [pcells_len, List.length_replicate]; omega)
    rw [e]
    exact List.getElem?_eq_none (by simp [madeCells]; omega)
theorem make_ct (n : Nat) (hn : n ≤ 1000000) (w : World) : (Instr.makeSlice 54 (.int .i64 (n : Int)) (.int .i64 (n : Int))).run Try.prog w = .ok (.slice (some ⟨w.heap.size, 0, none⟩) n n) (w.alloc (.cells (madeCells #[Value.int .i64 0, .int .i64 0, .bool false] (n * 3)) 56)) := by
  obtain ⟨i0, hi, hz0, hz1, hz2⟩ := info_parts info_pt
  have := run_make (P := Try.prog) w 54 56 i0 _ Try.underlying54 hi hz0 .i64 .i64 (n : Int) (n : Int) (by omega) (by omega) (by rw [hz2]; omega) (by omega)
  have h2 : (Instr.makeSlice 54 (.int .i64 (n : Int)) (.int .i64 (n : Int))).run Try.prog w = .ok (.slice (some ⟨w.heap.size, 0, none⟩) n n) (w.alloc (.cells (madeCells (Value.agg #[.int .i64 0, .int .i64 0, .bool false]).cells (n * 3)) 56)) := by simpa [hz1] using this
  have e : (Value.agg #[.int .i64 0, .int .i64 0, .bool false]).cells = #[.int .i64 0, .int .i64 0, .bool false] := by kernel_rfl
  rw [e] at h2
  exact h2
theorem rw_made (n : Nat) (hn : n ≤ 1000000) (w : World) : Rw (w.alloc (.cells (madeCells #[Value.int .i64 0, .int .i64 0, .bool false] (n * 3)) 56)) w.heap.size (.slice (some ⟨w.heap.size, 0, none⟩) n n) (List.replicate n zP) := by
  have h := World.ownsRow_lit (base := w.heap.size) (e := 56) (size := 3) w (madeCells #[Value.int .i64 0, .int .i64 0, .bool false] (n * 3)) n (Nat.le_refl _) (by unfold maxLen; omega) (size_madeCells _ _)
  rw [made3] at h
  refine ⟨by rw [List.length_replicate]; exact h, fun p hp => ?_⟩
  obtain ⟨_, rfl⟩ := List.mem_replicate.1 hp
  exact ⟨⟨by decide, by decide⟩, ⟨by decide, by decide⟩⟩
theorem make_out (n : Nat) (hn : n ≤ 1000000) (w : World) : (Instr.makeSlice 22 (.int .i64 (n : Int)) (.int .i64 (n : Int))).run Try.prog w = .ok (.slice (some ⟨w.heap.size, 0, none⟩) n n) (w.alloc (.cells (madeCells #[Value.slice none 0 0] n) 54)) := by
  obtain ⟨i0, hi, hz0, hz1, hz2⟩ := info_parts info_ct
  have := run_make (P := Try.prog) w 22 54 i0 _ Try.underlying22 hi hz0 .i64 .i64 (n : Int) (n : Int) (by omega) (by omega) (by rw [hz2]; omega) (by omega)
  have h2 : (Instr.makeSlice 22 (.int .i64 (n : Int)) (.int .i64 (n : Int))).run Try.prog w = .ok (.slice (some ⟨w.heap.size, 0, none⟩) n n) (w.alloc (.cells (madeCells (Value.slice none 0 0).cells (n * 1)) 54)) := by simpa [hz1] using this
  rw [Nat.mul_one] at h2
  exact h2
theorem oo_made (n : Nat) (hn : n ≤ 1000000) (w : World) : OO (w.alloc (.cells (madeCells #[Value.slice none 0 0] n) 54)) w.heap.size (.slice (some ⟨w.heap.size, 0, none⟩) n n) (List.replicate n []) := by
  have h := World.ownsRow_lit (base := w.heap.size) (e := 54) (size := 1) w (madeCells #[Value.slice none 0 0] n) n (Nat.le_refl _) (by unfold maxLen; omega) (by rw [Nat.mul_one]; exact size_madeCells _ _)
  rw [toList_madeCells_one] at h
  refine ⟨_, by rw [List.length_replicate]; exact h, by simp, fun k c u hc hu => ?_, fun i j u u' _ hu _ => ?_⟩
  · obtain ⟨_, rfl⟩ := List.mem_replicate.1 (List.mem_of_getElem? hc)
    obtain ⟨_, rfl⟩ := List.mem_replicate.1 (List.mem_of_getElem? hu)
    exact Rw.nil _ _
  · obtain ⟨_, rfl⟩ := List.mem_replicate.1 (List.mem_of_getElem? hu)
    exact .inl rfl
end Go.Proofs.Ytbodidhggdggmaa
