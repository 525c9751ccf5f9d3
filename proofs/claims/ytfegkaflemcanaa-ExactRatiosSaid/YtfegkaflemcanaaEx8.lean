/- The product of two ratios, the program's. -/
import Derived.Test.YtfegkaflemcanaaEx7
namespace Go.Proofs.Ytfegkaflemcanaa
open Go.RowKit

theorem elow_all (xn xd : Int) (w : World) (hn : I64 xn) (hd : I64 xd) :
    Calls Try.prog 24 #[.agg #[.int .i64 xn, .int .i64 xd]] w fun e w' => e = .returned (.tuple #[.agg #[.int .i64 (Ex.numR (Ex.lowS xn xd)), .int .i64 (Ex.denR (Ex.lowS xn xd))], .bool (Ex.okR (Ex.lowS xn xd))]) ∧ Below w.heap.size w w' := by
  by_cases h : xd < 1
  · have : Ex.lowS xn xd = none := by unfold Ex.lowS; rw [if_pos h]
    rw [this]
    exact elow_bad xn xd w h
  · have : Ex.lowS xn xd = some ((Ex.rat xn xd).num, ((Ex.rat xn xd).den : Int)) := by unfold Ex.lowS; rw [if_neg h]
    rw [this]
    exact elow_any xn xd w hn hd (by omega)
theorem rlow_all (xn xd : Int) (w : World) (hn : I64 xn) (hd : I64 xd) :
    Calls Try.prog 25 #[.agg #[.int .i64 xn, .int .i64 xd]] w fun e w' => e = .returned (.tuple #[.agg #[.int .i64 (Ex.numR (Ex.lowS xn xd)), .int .i64 (Ex.denR (Ex.lowS xn xd))], .bool (Ex.okR (Ex.lowS xn xd))]) ∧ Below w.heap.size w w' := by
  by_cases h : xd < 1
  · have : Ex.lowS xn xd = none := by unfold Ex.lowS; rw [if_pos h]
    rw [this]
    exact rlow_bad xn xd w h
  · have : Ex.lowS xn xd = some ((Ex.rat xn xd).num, ((Ex.rat xn xd).den : Int)) := by unfold Ex.lowS; rw [if_neg h]
    rw [this]
    exact rlow_any xn xd w hn hd (by omega)

theorem set2 {w : World} {b T : Nat} {x y : Value} (h : w.heap[b]? = some (.cells #[x, y] T (0, 0))) (u v : Value) :
    ((w.setCell ⟨b, 0, none⟩ u).setCell ⟨b, 1, none⟩ v).heap[b]? = some (.cells #[u, v] T (0, 0)) := by
  simp [World.setCell, Array.getElem?_modify, h]
theorem set2o {w : World} {b c : Nat} {o : Obj} (u v : Value) (hc : c ≠ b) (h : w.heap[c]? = some o) : ((w.setCell ⟨b, 0, none⟩ u).setCell ⟨b, 1, none⟩ v).heap[c]? = some o := by
  rw [Below.heap_setCell _ _ _ _ hc, Below.heap_setCell _ _ _ _ hc, h]
theorem set2z (w : World) (b : Nat) (u v : Value) : ((w.setCell ⟨b, 0, none⟩ u).setCell ⟨b, 1, none⟩ v).heap.size = w.heap.size := by simp [World.setCell]

theorem quo_u64 (a g : Nat) (h : a < 18446744073709551616) : IntKind.u64.wrap ((a : Int) / (g : Int)) = ((a / g : Nat) : Int) ∧ IntKind.u64.wrap ((a : Int).tdiv (g : Int)) = ((a / g : Nat) : Int) := by
  have e : (a : Int).tdiv (g : Int) = (a : Int) / (g : Int) := Int.tdiv_eq_ediv_of_nonneg (by omega)
  have : IntKind.u64.wrap ((a : Int) / (g : Int)) = ((a / g : Nat) : Int) := by
    rw [← Int.natCast_ediv, Dv.wrapN _ (Nat.lt_of_le_of_lt (Nat.div_le_self _ _) h)]
  exact ⟨this, by rw [e]; exact this⟩

/-- What the beginning of Sum and Mul leaves. -/
theorem low_ok {xn xd : Int} (h : 1 ≤ xd) : Ex.numR (Ex.lowS xn xd) = (Ex.rat xn xd).num ∧ Ex.denR (Ex.lowS xn xd) = ((Ex.rat xn xd).den : Int) ∧ Ex.okR (Ex.lowS xn xd) = true := by
  have : Ex.lowS xn xd = some ((Ex.rat xn xd).num, ((Ex.rat xn xd).den : Int)) := by unfold Ex.lowS; rw [if_neg (by omega)]
  rw [this]; exact ⟨rfl, rfl, rfl⟩
theorem low_no {xn xd : Int} (h : xd < 1) : Ex.okR (Ex.lowS xn xd) = false := by
  have : Ex.lowS xn xd = none := by unfold Ex.lowS; rw [if_pos h]
  rw [this]; rfl

set_option maxHeartbeats 2000000 in
theorem emul_bad (xn xd yn yd : Int) (w : World) (h1 : I64 xn) (h2 : I64 xd) (h3 : I64 yn) (h4 : I64 yd) (hbad : xd < 1 ∨ yd < 1) :
    Calls Try.prog 22 #[.agg #[.int .i64 xn, .int .i64 xd], .agg #[.int .i64 yn, .int .i64 yd]] w fun e w' => e = .returned (.tuple #[.agg #[.int .i64 0, .int .i64 0], .bool false]) ∧ Below w.heap.size w w' := by
  have l1 := fun w => elow_all xn xd w h1 h2
  have l2 := fun w => elow_all yn yd w h3 h4
  have hk : Ex.okR (Ex.lowS xn xd) = false ∨ (Ex.okR (Ex.lowS xn xd) = true ∧ Ex.okR (Ex.lowS yn yd) = false) := by
    by_cases h : xd < 1
    · exact Or.inl (low_no h)
    · exact Or.inr ⟨(low_ok (by omega)).2.2, low_no (by omega)⟩
  obtain ⟨a0, _⟩ : ∃ a, a = Ex.numR (Ex.lowS xn xd) := ⟨_, rfl⟩
  generalize Ex.numR (Ex.lowS xn xd) = x0 at *
  generalize Ex.denR (Ex.lowS xn xd) = x1 at *
  generalize Ex.okR (Ex.lowS xn xd) = p at *
  generalize Ex.numR (Ex.lowS yn yd) = y0 at *
  generalize Ex.denR (Ex.lowS yn yd) = y1 at *
  generalize Ex.okR (Ex.lowS yn yd) = q at *
  have hbw : ∀ o1 o2 o3, Below w.heap.size w (((w.alloc o1).alloc o2).alloc o3) := fun o1 o2 o3 => (((Below.refl _ _).alloc (Nat.le_refl _) _).alloc (by simp) _).alloc (by simp; omega) _
  clear hbad
  replace l1 := hide l1; replace l2 := hide l2
  rcases hk with rfl | ⟨rfl, rfl⟩
  all_goals
    go_enter Try.func22, Try.ntmps22
    go_wp2_with fail
    refine (unhide l1 _).mono ?_
    rintro e w1 ⟨rfl, hb1⟩
    clear l1
    obtain ⟨k1, k2, k3⟩ := blk3 w (Obj.cells #[.int .i64 xn, .int .i64 xd] 33) (Obj.cells #[.int .i64 yn, .int .i64 yd] 33) (Obj.cells #[.int .i64 0, .int .i64 0] 33)
    replace k1 := kept hb1 (by simp; omega) k1
    replace k2 := kept hb1 (by simp) k2
    replace k3 := kept hb1 (by simp) k3
    replace hb1 := (hbw _ _ _).trans (hb1.mono (by simp; omega))
    obtain ⟨c0, c1, f0, f1⟩ := cells2 k1
    obtain ⟨d0, d1, g0, g1⟩ := cells2 k2
    go_wp2_with fail
    refine (unhide l2 _).mono ?_
    rintro e w2 ⟨rfl, hb2⟩
    clear l2 c0 c1 f0 f1 d0 d1 g0 g1
    have hz1 := (Array.getElem?_eq_some_iff.1 k3).1
    have m2 := kept hb2 (by rw [set2z]; omega) (set2o _ _ (by omega) k2)
    have m3 := kept hb2 (by rw [set2z]; omega) (set2o _ _ (by omega) k3)
    replace hb2 := ((hb1.setCell (Nat.le_refl _) _).setCell (Nat.le_refl _) _).trans (hb2.mono (by rw [set2z]; omega))
    clear k1 k2 k3 hb1
    obtain ⟨c0, c1, f0, f1⟩ := cells2 m2
    obtain ⟨d0, d1, g0, g1⟩ := cells2 m3
    go_wp2_with fail
    refine bodyPost_ret (v := .tuple #[.agg #[.int .i64 0, .int .i64 0], .bool false]) (by simp [results, Try.results22, go_sem, d0, d1]) rfl ⟨rfl, ?_⟩
    exact (((hb2.setCell (by simp) _).setCell (by simp) _).setCell (by simp; omega) _).setCell (by simp; omega) _
end Go.Proofs.Ytfegkaflemcanaa
