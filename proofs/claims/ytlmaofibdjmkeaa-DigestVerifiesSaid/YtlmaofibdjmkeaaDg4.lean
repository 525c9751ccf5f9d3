/- Digests compared; digest.Check. -/
import Derived.Test.YtlmaofibdjmkeaaDg3
namespace Go.Proofs.Ytlmaofibdjmkeaa
open Go.RowKit
attribute [local go_sem ↓] Go.wp_at_zero Go.wp_at_succ

theorem arr_at (w : World) (a : Option Addr) (n c : Nat) (h : 8 ≤ n) : (Instr.arrayAt 52 (.slice a n c)).run Try.prog w = .ok (.pointer a) w := by
  have : ¬ n < 8 := by omega
  simp [Instr.arrayAt, run_underlying Try.underlying52, this]
theorem part_u8 (w : World) (xs : Array Value) (i : Nat) (n : Int) (h : xs[i]? = some (.int .u8 n)) : (part 5 (xs) i).run Try.prog w = .ok (.int .u8 n) w := by
  have hs : ∀ w, (Go.sizeOf 5).run Try.prog w = .ok 1 w := fun w => by kernel_rfl
  have ha : ∀ w, (isAgg 5).run Try.prog w = .ok false w := fun w => by kernel_rfl
  unfold part
  simp [hs, ha, h]
theorem eq8 (w : World) (a0 a1 a2 a3 a4 a5 a6 a7 b0 b1 b2 b3 b4 b5 b6 b7 : Int) :
    (binOp .eql 52 (.agg #[.int .u8 a0, .int .u8 a1, .int .u8 a2, .int .u8 a3, .int .u8 a4, .int .u8 a5, .int .u8 a6, .int .u8 a7]) (.agg #[.int .u8 b0, .int .u8 b1, .int .u8 b2, .int .u8 b3, .int .u8 b4, .int .u8 b5, .int .u8 b6, .int .u8 b7])).run Try.prog w =
      .ok (.bool (a0 == b0 && a1 == b1 && a2 == b2 && a3 == b3 && a4 == b4 && a5 == b5 && a6 == b6 && a7 == b7)) w := by
  have hs : ∀ w, (Go.sizeOf 5).run Try.prog w = .ok 1 w := fun w => by kernel_rfl
  have hq : ∀ (a b : Int) (w : World), (Op.equalIn 9999 5 (.int .u8 a) (.int .u8 b)).run Try.prog w = .ok (a == b) w := fun a b w => run_equalIn_int w 9998 5 .u8 .u8 a b Try.underlying5
  simp only [binOp]
  simp only [Op.equal, Op.maxDepth]
  rw [show (10000 : Nat) = 9999 + 1 from rfl]
  unfold Op.equalIn
  simp [run_underlying Try.underlying52, hs]
  rw [show List.range' 0 8 = [0, 1, 2, 3, 4, 5, 6, 7] from rfl]
  have p : ∀ (c0 c1 c2 c3 c4 c5 c6 c7 : Int) (i : Nat) (n : Int) (w : World), (#[.int .u8 c0, .int .u8 c1, .int .u8 c2, .int .u8 c3, .int .u8 c4, .int .u8 c5, .int .u8 c6, .int .u8 c7] : Array Value)[i]? = some (.int .u8 n) → (part 5 #[.int .u8 c0, .int .u8 c1, .int .u8 c2, .int .u8 c3, .int .u8 c4, .int .u8 c5, .int .u8 c6, .int .u8 c7] i).run Try.prog w = .ok (.int .u8 n) w := fun c0 c1 c2 c3 c4 c5 c6 c7 i n w h => part_u8 w _ i n h
  have A0 := fun w => p a0 a1 a2 a3 a4 a5 a6 a7 0 a0 w rfl
  have B0 := fun w => p b0 b1 b2 b3 b4 b5 b6 b7 0 b0 w rfl
  have A1 := fun w => p a0 a1 a2 a3 a4 a5 a6 a7 1 a1 w rfl
  have B1 := fun w => p b0 b1 b2 b3 b4 b5 b6 b7 1 b1 w rfl
  have A2 := fun w => p a0 a1 a2 a3 a4 a5 a6 a7 2 a2 w rfl
  have B2 := fun w => p b0 b1 b2 b3 b4 b5 b6 b7 2 b2 w rfl
  have A3 := fun w => p a0 a1 a2 a3 a4 a5 a6 a7 3 a3 w rfl
  have B3 := fun w => p b0 b1 b2 b3 b4 b5 b6 b7 3 b3 w rfl
  have A4 := fun w => p a0 a1 a2 a3 a4 a5 a6 a7 4 a4 w rfl
  have B4 := fun w => p b0 b1 b2 b3 b4 b5 b6 b7 4 b4 w rfl
  have A5 := fun w => p a0 a1 a2 a3 a4 a5 a6 a7 5 a5 w rfl
  have B5 := fun w => p b0 b1 b2 b3 b4 b5 b6 b7 5 b5 w rfl
  have A6 := fun w => p a0 a1 a2 a3 a4 a5 a6 a7 6 a6 w rfl
  have B6 := fun w => p b0 b1 b2 b3 b4 b5 b6 b7 6 b6 w rfl
  have A7 := fun w => p a0 a1 a2 a3 a4 a5 a6 a7 7 a7 w rfl
  have B7 := fun w => p b0 b1 b2 b3 b4 b5 b6 b7 7 b7 w rfl
  clear p
  by_cases h0 : a0 = b0
  rotate_left
  · simp [A0, B0, hq, h0]
  subst h0
  by_cases h1 : a1 = b1
  rotate_left
  · simp [A0, B0, A1, B1, hq, h1]
  subst h1
  by_cases h2 : a2 = b2
  rotate_left
  · simp [A0, B0, A1, B1, A2, B2, hq, h2]
  subst h2
  by_cases h3 : a3 = b3
  rotate_left
  · simp [A0, B0, A1, B1, A2, B2, A3, B3, hq, h3]
  subst h3
  by_cases h4 : a4 = b4
  rotate_left
  · simp [A0, B0, A1, B1, A2, B2, A3, B3, A4, B4, hq, h4]
  subst h4
  by_cases h5 : a5 = b5
  rotate_left
  · simp [A0, B0, A1, B1, A2, B2, A3, B3, A4, B4, A5, B5, hq, h5]
  subst h5
  by_cases h6 : a6 = b6
  rotate_left
  · simp [A0, B0, A1, B1, A2, B2, A3, B3, A4, B4, A5, B5, A6, B6, hq, h6]
  subst h6
  by_cases h7 : a7 = b7
  rotate_left
  · simp [A0, B0, A1, B1, A2, B2, A3, B3, A4, B4, A5, B5, A6, B6, A7, B7, hq, h7]
  subst h7
  simp [A0, A1, A2, A3, A4, A5, A6, A7, hq]
theorem u8_cast (a b : UInt8) : ((a.toNat : Int) = b.toNat) ↔ a = b := by rw [Int.ofNat_inj, UInt8.toNat_inj]
theorem bcell {W w1 : World} (hb : Below W.heap.size W w1) : ∀ b o, b < W.heap.size → w1.cell? ⟨b, o, none⟩ = W.cell? ⟨b, o, none⟩ := fun b o h => hb.cell (p := ⟨b, o, none⟩) h
theorem dig_ext {x y : List UInt8} (hx : x.length = 8) (hy : y.length = 8) : x = y ↔ ((((x[0]?.getD 0).toNat : Int) = (y[0]?.getD 0).toNat) ∧ (((x[1]?.getD 0).toNat : Int) = (y[1]?.getD 0).toNat) ∧ (((x[2]?.getD 0).toNat : Int) = (y[2]?.getD 0).toNat) ∧ (((x[3]?.getD 0).toNat : Int) = (y[3]?.getD 0).toNat) ∧ (((x[4]?.getD 0).toNat : Int) = (y[4]?.getD 0).toNat) ∧ (((x[5]?.getD 0).toNat : Int) = (y[5]?.getD 0).toNat) ∧ (((x[6]?.getD 0).toNat : Int) = (y[6]?.getD 0).toNat) ∧ (((x[7]?.getD 0).toNat : Int) = (y[7]?.getD 0).toNat)) := by
  match x, hx, y, hy with
  | [x0, x1, x2, x3, x4, x5, x6, x7], _, [y0, y1, y2, y3, y4, y5, y6, y7], _ =>
    simp [u8_cast]
theorem eqD {x y : List UInt8} (hx : x.length = 8) (hy : y.length = 8) (w : World) : (binOp .eql 52 (digV x) (digV y)).run Try.prog w = .ok (.bool (decide (x = y))) w := by
  rw [eq8]
  congr 2
  rw [Bool.eq_iff_iff]
  have := dig_ext hx hy
  simp only [Bool.and_eq_true, beq_iff_eq, decide_eq_true_eq]
  rw [this]
  simp only [and_assoc]
end Go.Proofs.Ytlmaofibdjmkeaa
