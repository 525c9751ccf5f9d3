/- The closures of Scale and Shift. -/
import Derived.Test.YtbodidhggdggmaaOlA
import Derived.Test.YtbodidhggdggmaaOl2
namespace Go.Proofs.Ytbodidhggdggmaa
open Go.RowKit
theorem three_at {w : World} {b T : Nat} {v0 v1 v2 : Value} (h : w.heap[b]? = some (.cells #[v0, v1, v2] T (0, 0))) :
    (w.cell? ⟨b, 0, none⟩ = some v0 ∧ w.cell? ⟨b, 1, none⟩ = some v1 ∧ w.cell? ⟨b, 2, none⟩ = some v2) ∧ (w.frozen? ⟨b, 0, none⟩ = false ∧ w.frozen? ⟨b, 1, none⟩ = false ∧ w.frozen? ⟨b, 2, none⟩ = false) :=
  ⟨⟨(cell_of_row _ _ 0 _ _ _ h).trans rfl, (cell_of_row _ _ 1 _ _ _ h).trans rfl, (cell_of_row _ _ 2 _ _ _ h).trans rfl⟩, by simp [World.frozen?, h], by simp [World.frozen?, h], by simp [World.frozen?, h]⟩
set_option maxHeartbeats 1000000 in
theorem shift1_any (k : Int) (px py : Int) (pz : Bool) (cx : Nat) (x : Int) (cy : Nat) (y : Int) (w : World) (hx : w.cell? ⟨cx, 0, none⟩ = some (.int .i64 x)) (hy : w.cell? ⟨cy, 0, none⟩ = some (.int .i64 y)) :
    Calls Try.prog 57 #[.int .i64 k, .agg #[.int .i64 px, .int .i64 py, .bool pz], .pointer (some ⟨cx, 0, none⟩), .pointer (some ⟨cy, 0, none⟩)] w fun e w' => e = .returned (.agg #[.int .i64 (wrap64 (px + x)), .int .i64 (wrap64 (py + y)), .bool pz]) ∧ Below w.heap.size w w' := by
  obtain ⟨b4, b5, V, e4, e5, eV, st⟩ := St.new2 w (Obj.cells #[.int .i64 px, .int .i64 py, .bool pz] 56) (Obj.cells #[.int .i64 0, .int .i64 0, .bool false] 56)
  obtain ⟨X, hX⟩ : ∃ X, wrap64 (px + x) = X := ⟨_, rfl⟩
  obtain ⟨Y, hY⟩ : ∃ Y, wrap64 (py + y) = Y := ⟨_, rfl⟩
  rw [hX, hY]
  have hb2 := st.below
  have st1 := st.set 1 rfl 0 (.int .i64 X)
  have st2 := st1.set 1 rfl 1 (.int .i64 Y)
  have st3 := ((st2.set 0 rfl 0 (.int .i64 X)).set 0 rfl 1 (.int .i64 Y)).set 0 rfl 2 (.bool pz)
  have r4 := three_at (st.get 1 rfl)
  have r41 := three_at (st1.get 1 rfl)
  have r42 := three_at (st2.get 1 rfl)
  have r5 := three_at (st2.get 0 rfl)
  have r53 := three_at (st3.get 0 rfl)
  have hbz := st3.below
  have kx := cell_under hx hb2
  have lx := World.block_lt_of_cell? w ⟨cx, 0, none⟩ hx
  simp only at lx
  have nx : b4 ≠ cx := by omega
  have jx : (V.setCell ⟨b4, 0, none⟩ (.int .i64 X)).cell? ⟨cx, 0, none⟩ = some (.int .i64 x) := (World.cell?_of_block (a := ⟨cx, 0, none⟩) (by simp only [World.setCell, Array.getElem?_modify]; rw [if_neg (fun e => nx e)])).trans kx
  have ky := cell_under hy hb2
  have ly := World.block_lt_of_cell? w ⟨cy, 0, none⟩ hy
  simp only at ly
  have ny : b4 ≠ cy := by omega
  have jy : (V.setCell ⟨b4, 0, none⟩ (.int .i64 X)).cell? ⟨cy, 0, none⟩ = some (.int .i64 y) := (World.cell?_of_block (a := ⟨cy, 0, none⟩) (by simp only [World.setCell, Array.getElem?_modify]; rw [if_neg (fun e => ny e)])).trans ky
  have e45 : b4 + 1 = b5 := by omega
  clear st st1 st2 st3 hb2
  obtain ⟨V3, hV3⟩ : ∃ V3, V.setCell ⟨b4, 0, none⟩ (.int .i64 X) = V3 := ⟨_, rfl⟩
  rw [hV3] at r41 r42 r5 r53 hbz jx jy
  obtain ⟨V4, hV4⟩ : ∃ V4, V3.setCell ⟨b4, 1, none⟩ (.int .i64 Y) = V4 := ⟨_, rfl⟩
  rw [hV4] at r42 r5 r53 hbz
  obtain ⟨V5, hV5⟩ : ∃ V5, ((V4.setCell ⟨b5, 0, none⟩ (.int .i64 X)).setCell ⟨b5, 1, none⟩ (.int .i64 Y)).setCell ⟨b5, 2, none⟩ (.bool pz) = V5 := ⟨_, rfl⟩
  rw [hV5] at r53 hbz
  obtain ⟨⟨a0, a1, a2⟩, a3, a4, a5⟩ := r4
  obtain ⟨⟨b0, b1, b2⟩, b3, b6, b7⟩ := r41
  obtain ⟨⟨d0, d1, d2⟩, d3, d4, d5⟩ := r42
  obtain ⟨⟨f0, f1, f2⟩, f3, f4, f5⟩ := r5
  obtain ⟨⟨g0, g1, g2⟩, _⟩ := r53
  replace e5 := hide e5; replace hbz := hide hbz
  go_enter Try.func57, Try.ntmps57
  go_wp2_with fail
  refine bodyPost_ret (v := .agg #[.int .i64 X, .int .i64 Y, .bool pz]) (by simp [results, Try.results57, go_sem, g0, g1, g2]) rfl ⟨rfl, unhide hbz⟩
set_option maxHeartbeats 1000000 in
theorem scale1_any (k : Int) (px py : Int) (pz : Bool) (cx : Nat) (x : Int) (w : World) (hx : w.cell? ⟨cx, 0, none⟩ = some (.int .i64 x)) :
    Calls Try.prog 56 #[.int .i64 k, .agg #[.int .i64 px, .int .i64 py, .bool pz], .pointer (some ⟨cx, 0, none⟩)] w fun e w' => e = .returned (.agg #[.int .i64 (wrap64 (px * x)), .int .i64 (wrap64 (py * x)), .bool pz]) ∧ Below w.heap.size w w' := by
  obtain ⟨b4, b5, V, e4, e5, eV, st⟩ := St.new2 w (Obj.cells #[.int .i64 px, .int .i64 py, .bool pz] 56) (Obj.cells #[.int .i64 0, .int .i64 0, .bool false] 56)
  obtain ⟨X, hX⟩ : ∃ X, wrap64 (px * x) = X := ⟨_, rfl⟩
  obtain ⟨Y, hY⟩ : ∃ Y, wrap64 (py * x) = Y := ⟨_, rfl⟩
  rw [hX, hY]
  have hb2 := st.below
  have st1 := st.set 1 rfl 0 (.int .i64 X)
  have st2 := st1.set 1 rfl 1 (.int .i64 Y)
  have st3 := ((st2.set 0 rfl 0 (.int .i64 X)).set 0 rfl 1 (.int .i64 Y)).set 0 rfl 2 (.bool pz)
  have r4 := three_at (st.get 1 rfl)
  have r41 := three_at (st1.get 1 rfl)
  have r42 := three_at (st2.get 1 rfl)
  have r5 := three_at (st2.get 0 rfl)
  have r53 := three_at (st3.get 0 rfl)
  have hbz := st3.below
  have kx := cell_under hx hb2
  have lx := World.block_lt_of_cell? w ⟨cx, 0, none⟩ hx
  simp only at lx
  have nx : b4 ≠ cx := by omega
  have jx : (V.setCell ⟨b4, 0, none⟩ (.int .i64 X)).cell? ⟨cx, 0, none⟩ = some (.int .i64 x) := (World.cell?_of_block (a := ⟨cx, 0, none⟩) (by simp only [World.setCell, Array.getElem?_modify]; rw [if_neg (fun e => nx e)])).trans kx
  have e45 : b4 + 1 = b5 := by omega
  clear st st1 st2 st3 hb2
  obtain ⟨V3, hV3⟩ : ∃ V3, V.setCell ⟨b4, 0, none⟩ (.int .i64 X) = V3 := ⟨_, rfl⟩
  rw [hV3] at r41 r42 r5 r53 hbz jx
  obtain ⟨V4, hV4⟩ : ∃ V4, V3.setCell ⟨b4, 1, none⟩ (.int .i64 Y) = V4 := ⟨_, rfl⟩
  rw [hV4] at r42 r5 r53 hbz
  obtain ⟨V5, hV5⟩ : ∃ V5, ((V4.setCell ⟨b5, 0, none⟩ (.int .i64 X)).setCell ⟨b5, 1, none⟩ (.int .i64 Y)).setCell ⟨b5, 2, none⟩ (.bool pz) = V5 := ⟨_, rfl⟩
  rw [hV5] at r53 hbz
  obtain ⟨⟨a0, a1, a2⟩, a3, a4, a5⟩ := r4
  obtain ⟨⟨b0, b1, b2⟩, b3, b6, b7⟩ := r41
  obtain ⟨⟨d0, d1, d2⟩, d3, d4, d5⟩ := r42
  obtain ⟨⟨f0, f1, f2⟩, f3, f4, f5⟩ := r5
  obtain ⟨⟨g0, g1, g2⟩, _⟩ := r53
  replace e5 := hide e5; replace hbz := hide hbz
  go_enter Try.func56, Try.ntmps56
  go_wp2_with fail
  refine bodyPost_ret (v := .agg #[.int .i64 X, .int .i64 Y, .bool pz]) (by simp [results, Try.results56, go_sem, g0, g1, g2]) rfl ⟨rfl, unhide hbz⟩
end Go.Proofs.Ytbodidhggdggmaa
