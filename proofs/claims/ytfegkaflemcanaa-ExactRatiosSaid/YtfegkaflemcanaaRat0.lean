/- Sum and Mul of the reference, for all ratios. -/
import Derived.Test.YtfegkaflemcanaaUni0
import Derived.Test.YtfegkaflemcanaaRcmp
namespace Go.Proofs.Ytfegkaflemcanaa
open Go.RowKit
set_option maxRecDepth 100000 in
set_option maxHeartbeats 2000000 in
theorem rsum_bad (xn xd yn yd : Int) (w : World) (h1 : I64 xn) (h2 : I64 xd) (h3 : I64 yn) (h4 : I64 yd) (hbad : xd < 1 ∨ yd < 1) :
    Calls Try.prog 21 #[.agg #[.int .i64 xn, .int .i64 xd], .agg #[.int .i64 yn, .int .i64 yd]] w fun e w' => e = .returned (.tuple #[.agg #[.int .i64 0, .int .i64 0], .bool false]) ∧ Below w.heap.size w w' := by
  have l1 := fun w => rlow_all xn xd w h1 h2
  have l2 := fun w => rlow_all yn yd w h3 h4
  have hk : Ex.okR (Ex.lowS xn xd) = false ∨ (Ex.okR (Ex.lowS xn xd) = true ∧ Ex.okR (Ex.lowS yn yd) = false) := by
    by_cases h : xd < 1
    · exact Or.inl (low_no h)
    · exact Or.inr ⟨(low_ok (by omega)).2.2, low_no (by omega)⟩
  obtain ⟨a0, _⟩ : ∃ a, a = Ex.numR (Ex.lowS xn xd) := ⟨_, rfl⟩
  generalize Ex.numR (Ex.lowS xn xd) = x0 at *
  generalize Ex.denR (Ex.lowS xn xd) = x1 at *
  generalize Ex.okR (Ex.lowS xn xd) = p at *
  generalize Ex.numR (Ex.lowS yn yd) = y0 at *
  generalize Ex.denR (Ex.lowS yn yd) = y1 at *
  generalize Ex.okR (Ex.lowS yn yd) = q at *
  have hbw : ∀ o1 o2 o3, Below w.heap.size w (((w.alloc o1).alloc o2).alloc o3) := fun o1 o2 o3 => (((Below.refl _ _).alloc (Nat.le_refl _) _).alloc (by simp) _).alloc (by simp; omega) _
  clear hbad
  replace l1 := hide l1; replace l2 := hide l2
  rcases hk with rfl | ⟨rfl, rfl⟩
  all_goals
    go_enter Try.func21, Try.ntmps21
    go_wp2_with fail
    refine (unhide l1 _).mono ?_
    rintro e w1 ⟨rfl, hb1⟩
    clear l1
    obtain ⟨k1, k2, k3⟩ := blk3 w (Obj.cells #[.int .i64 xn, .int .i64 xd] 33) (Obj.cells #[.int .i64 yn, .int .i64 yd] 33) (Obj.cells #[.int .i64 0, .int .i64 0] 33)
    replace k2 := old1 (o' := Obj.cells #[.int .i64 x0, .int .i64 x1] 33) (kept hb1 (by simp) k2)
    replace k3 := old1 (o' := Obj.cells #[.int .i64 x0, .int .i64 x1] 33) (kept hb1 (by simp) k3)
    replace hb1 := ((hbw _ _ _).trans (hb1.mono (by simp; omega)))
    replace hb1 := hb1.alloc hb1.size (Obj.cells #[.int .i64 x0, .int .i64 x1] 33)
    obtain ⟨d0, d1, g0, g1⟩ := cells2 k2
    clear k1
    go_wp2_with fail
    refine (unhide l2 _).mono ?_
    rintro e w2 ⟨rfl, hb2⟩
    clear l2 d0 d1 g0 g1
    replace k3 := old1 (o' := Obj.cells #[.int .i64 y0, .int .i64 y1] 33) (kept hb2 (Array.getElem?_eq_some_iff.1 k3).1 k3)
    replace hb1 := hb1.trans (hb2.mono hb1.size)
    replace hb1 := hb1.alloc hb1.size (Obj.cells #[.int .i64 y0, .int .i64 y1] 33)
    obtain ⟨d0, d1, g0, g1⟩ := cells2 k3
    clear k2 hb2
    go_wp2_with fail
    refine bodyPost_ret (v := .tuple #[.agg #[.int .i64 0, .int .i64 0], .bool false]) (by simp [results, Try.results21, go_sem, d0, d1]) rfl ⟨rfl, ?_⟩
    first | exact hb1 | exact (hb1.setCell (by simp; omega) _).setCell (by simp; omega) _
theorem rsum_any (xn xd yn yd : Int) (w : World) (h1 : I64 xn) (h2 : I64 xd) (h3 : I64 yn) (h4 : I64 yd) :
    Calls Try.prog 21 #[.agg #[.int .i64 xn, .int .i64 xd], .agg #[.int .i64 yn, .int .i64 yd]] w fun e w' => e = .returned (.tuple #[.agg #[.int .i64 (Ex.numR (Ex.sumS xn xd yn yd)), .int .i64 (Ex.denR (Ex.sumS xn xd yn yd))], .bool (Ex.okR (Ex.sumS xn xd yn yd))]) ∧ Below w.heap.size w w' := by
  by_cases hbad : xd < 1 ∨ yd < 1
  · have : Ex.sumS xn xd yn yd = none := by unfold Ex.sumS; rw [if_pos hbad]
    rw [this]
    exact rsum_bad xn xd yn yd w h1 h2 h3 h4 hbad
  · exact rsum_ok xn xd yn yd w h1 h2 h3 h4 (by omega) (by omega)
set_option maxRecDepth 100000 in
set_option maxHeartbeats 2000000 in
theorem rmul_bad (xn xd yn yd : Int) (w : World) (h1 : I64 xn) (h2 : I64 xd) (h3 : I64 yn) (h4 : I64 yd) (hbad : xd < 1 ∨ yd < 1) :
    Calls Try.prog 23 #[.agg #[.int .i64 xn, .int .i64 xd], .agg #[.int .i64 yn, .int .i64 yd]] w fun e w' => e = .returned (.tuple #[.agg #[.int .i64 0, .int .i64 0], .bool false]) ∧ Below w.heap.size w w' := by
  have l1 := fun w => rlow_all xn xd w h1 h2
  have l2 := fun w => rlow_all yn yd w h3 h4
  have hk : Ex.okR (Ex.lowS xn xd) = false ∨ (Ex.okR (Ex.lowS xn xd) = true ∧ Ex.okR (Ex.lowS yn yd) = false) := by
    by_cases h : xd < 1
    · exact Or.inl (low_no h)
    · exact Or.inr ⟨(low_ok (by omega)).2.2, low_no (by omega)⟩
  obtain ⟨a0, _⟩ : ∃ a, a = Ex.numR (Ex.lowS xn xd) := ⟨_, rfl⟩
  generalize Ex.numR (Ex.lowS xn xd) = x0 at *
  generalize Ex.denR (Ex.lowS xn xd) = x1 at *
  generalize Ex.okR (Ex.lowS xn xd) = p at *
  generalize Ex.numR (Ex.lowS yn yd) = y0 at *
  generalize Ex.denR (Ex.lowS yn yd) = y1 at *
  generalize Ex.okR (Ex.lowS yn yd) = q at *
  have hbw : ∀ o1 o2 o3, Below w.heap.size w (((w.alloc o1).alloc o2).alloc o3) := fun o1 o2 o3 => (((Below.refl _ _).alloc (Nat.le_refl _) _).alloc (by simp) _).alloc (by simp; omega) _
  clear hbad
  replace l1 := hide l1; replace l2 := hide l2
  rcases hk with rfl | ⟨rfl, rfl⟩
  all_goals
    go_enter Try.func23, Try.ntmps23
    go_wp2_with fail
    refine (unhide l1 _).mono ?_
    rintro e w1 ⟨rfl, hb1⟩
    clear l1
    obtain ⟨k1, k2, k3⟩ := blk3 w (Obj.cells #[.int .i64 xn, .int .i64 xd] 33) (Obj.cells #[.int .i64 yn, .int .i64 yd] 33) (Obj.cells #[.int .i64 0, .int .i64 0] 33)
    replace k2 := old1 (o' := Obj.cells #[.int .i64 x0, .int .i64 x1] 33) (kept hb1 (by simp) k2)
    replace k3 := old1 (o' := Obj.cells #[.int .i64 x0, .int .i64 x1] 33) (kept hb1 (by simp) k3)
    replace hb1 := ((hbw _ _ _).trans (hb1.mono (by simp; omega)))
    replace hb1 := hb1.alloc hb1.size (Obj.cells #[.int .i64 x0, .int .i64 x1] 33)
    obtain ⟨d0, d1, g0, g1⟩ := cells2 k2
    clear k1
    go_wp2_with fail
    refine (unhide l2 _).mono ?_
    rintro e w2 ⟨rfl, hb2⟩
    clear l2 d0 d1 g0 g1
    replace k3 := old1 (o' := Obj.cells #[.int .i64 y0, .int .i64 y1] 33) (kept hb2 (Array.getElem?_eq_some_iff.1 k3).1 k3)
    replace hb1 := hb1.trans (hb2.mono hb1.size)
    replace hb1 := hb1.alloc hb1.size (Obj.cells #[.int .i64 y0, .int .i64 y1] 33)
    obtain ⟨d0, d1, g0, g1⟩ := cells2 k3
    clear k2 hb2
    go_wp2_with fail
    refine bodyPost_ret (v := .tuple #[.agg #[.int .i64 0, .int .i64 0], .bool false]) (by simp [results, Try.results23, go_sem, d0, d1]) rfl ⟨rfl, ?_⟩
    first | exact hb1 | exact (hb1.setCell (by simp; omega) _).setCell (by simp; omega) _
theorem rmul_any (xn xd yn yd : Int) (w : World) (h1 : I64 xn) (h2 : I64 xd) (h3 : I64 yn) (h4 : I64 yd) :
    Calls Try.prog 23 #[.agg #[.int .i64 xn, .int .i64 xd], .agg #[.int .i64 yn, .int .i64 yd]] w fun e w' => e = .returned (.tuple #[.agg #[.int .i64 (Ex.numR (Ex.mulS xn xd yn yd)), .int .i64 (Ex.denR (Ex.mulS xn xd yn yd))], .bool (Ex.okR (Ex.mulS xn xd yn yd))]) ∧ Below w.heap.size w w' := by
  by_cases hbad : xd < 1 ∨ yd < 1
  · have : Ex.mulS xn xd yn yd = none := by unfold Ex.mulS; rw [if_pos hbad]
    rw [this]
    exact rmul_bad xn xd yn yd w h1 h2 h3 h4 hbad
  · exact rmul_ok xn xd yn yd w h1 h2 h3 h4 (by omega) (by omega)
end Go.Proofs.Ytfegkaflemcanaa
