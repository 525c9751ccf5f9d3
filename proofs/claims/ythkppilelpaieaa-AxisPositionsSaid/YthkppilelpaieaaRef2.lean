/- The reference's division of two words by one, bit by bit. -/
import Derived.Test.YthkppilelpaieaaRef1
import Derived.Test.YthkppilelpaieaaDivB
namespace Go.Proofs.Ythkppilelpaieaa
open Go.RowKit

theorem half_lt (x : Nat) (h : x < 340282366920938463463374607431768211456) : x / 18446744073709551616 < 18446744073709551616 := by omega
theorem two_lt (r m : Nat) (h : r < m) (hm : m ≤ 9223372036854775808) : 2 * r + 1 < 18446744073709551616 := by omega
end Go.Proofs.Ythkppilelpaieaa
