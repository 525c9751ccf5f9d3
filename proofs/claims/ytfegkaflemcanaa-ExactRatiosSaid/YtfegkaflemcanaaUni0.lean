/- Sum and Mul of the program, for all ratios. -/
import Derived.Test.YtfegkaflemcanaaEx12
namespace Go.Proofs.Ytfegkaflemcanaa
open Go.RowKit

theorem esum_any (xn xd yn yd : Int) (w : World) (h1 : I64 xn) (h2 : I64 xd) (h3 : I64 yn) (h4 : I64 yd) :
    Calls Try.prog 20 #[.agg #[.int .i64 xn, .int .i64 xd], .agg #[.int .i64 yn, .int .i64 yd]] w fun e w' => e = .returned (.tuple #[.agg #[.int .i64 (Ex.numR (Ex.sumS xn xd yn yd)), .int .i64 (Ex.denR (Ex.sumS xn xd yn yd))], .bool (Ex.okR (Ex.sumS xn xd yn yd))]) ∧ Below w.heap.size w w' := by
  by_cases hbad : xd < 1 ∨ yd < 1
  · have : Ex.sumS xn xd yn yd = none := by unfold Ex.sumS; rw [if_pos hbad]
    rw [this]
    exact esum_bad xn xd yn yd w h1 h2 h3 h4 hbad
  · exact esum_ok xn xd yn yd w h1 h2 h3 h4 (by omega) (by omega)
theorem emul_any (xn xd yn yd : Int) (w : World) (h1 : I64 xn) (h2 : I64 xd) (h3 : I64 yn) (h4 : I64 yd) :
    Calls Try.prog 22 #[.agg #[.int .i64 xn, .int .i64 xd], .agg #[.int .i64 yn, .int .i64 yd]] w fun e w' => e = .returned (.tuple #[.agg #[.int .i64 (Ex.numR (Ex.mulS xn xd yn yd)), .int .i64 (Ex.denR (Ex.mulS xn xd yn yd))], .bool (Ex.okR (Ex.mulS xn xd yn yd))]) ∧ Below w.heap.size w w' := by
  by_cases hbad : xd < 1 ∨ yd < 1
  · have : Ex.mulS xn xd yn yd = none := by unfold Ex.mulS; rw [if_pos hbad]
    rw [this]
    exact emul_bad xn xd yn yd w h1 h2 h3 h4 hbad
  · exact emul_ok xn xd yn yd w h1 h2 h3 h4 (by omega) (by omega)

end Go.Proofs.Ytfegkaflemcanaa
