/- Floor and MulDiv, the program's and the reference's. -/
import Derived.Test.YthkppilelpaieaaWide3
import Derived.Test.YthkppilelpaieaaRef2
namespace Go.Proofs.Ythkppilelpaieaa
open Go.RowKit

def sgnB (a b : Int) : Bool := decide (a < 0 ∧ 0 < b ∨ 0 < a ∧ b < 0)
theorem sgn_prod (a b : Int) : ∃ s : Int, wrap64 s = s ∧ cmpI a 0 * cmpI b 0 = s ∧ decide (s < 0) = sgnB a b := by
  refine ⟨cmpI a 0 * cmpI b 0, ?_, rfl, ?_⟩
  · refine IntWalk.wrap64_in _ ?_
    unfold cmpI
    by_cases h1 : a < 0 <;> by_cases h2 : 0 < a <;> by_cases h3 : b < 0 <;> by_cases h4 : 0 < b <;> simp [h1, h2, h3, h4]
  · unfold cmpI sgnB
    by_cases h1 : a < 0 <;> by_cases h2 : 0 < a <;> by_cases h3 : b < 0 <;> by_cases h4 : 0 < b <;> simp [h1, h2, h3, h4] <;> omega
theorem sgn_t {a b : Int} : sgnB a b = true → a < 0 ∧ 0 ≤ b ∨ 0 ≤ a ∧ b < 0 := by unfold sgnB; simp; omega
theorem sgn_f {a b : Int} : sgnB a b = false → a < 0 ∧ b < 0 ∨ 0 ≤ a ∧ 0 ≤ b ∨ a = 0 ∨ b = 0 := by unfold sgnB; simp; omega
theorem hi_small {n : Nat} (h : n < 18446744073709551616) : (0 : Int) = hiW n := by unfold hiW; omega
theorem lo_small {n : Nat} (h : n < 18446744073709551616) : (n : Int) = loW n := by unfold loW; omega

theorem rfloor_none (a : Int) (w : World) :
    Calls Try.prog 63 #[.int .i64 a, .int .i64 0] w fun e w' => e = .returned (.tuple #[.int .i64 0, .bool false]) ∧ Below w.heap.size w w' := by
  go_enter Try.func63, Try.ntmps63
  go_wp2
  go_ret2
  exact ⟨rfl, Below.refl _ _⟩

end Go.Proofs.Ythkppilelpaieaa
