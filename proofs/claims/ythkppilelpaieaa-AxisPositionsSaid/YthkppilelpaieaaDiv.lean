/- bits.Div64: the long division of two words by one. -/
import Derived.Test.YthkppilelpaieaaBits
import Derived.Test.YthkppilelpaieaaDivP
import Derived.Deep.QuietTactic
import Derived.BigQuiet
import Derived.LoopTactic
import Derived.Outline
namespace Go.Proofs.Ythkppilelpaieaa
open Go.RowKit

theorem below_drewN (w : World) : ∀ n : Nat, Below w.heap.size w (w.drewN n)
  | 0 => Below.refl _ _
  | n + 1 => (below_drewN w n).drew

theorem nat_at {a : Nat} {x : Int} (h : x = (a : Int)) : x = (a : Int) := h

end Go.Proofs.Ythkppilelpaieaa
