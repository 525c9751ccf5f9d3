/- Lookups: the reference's Apply. -/
import Derived.Test.YtfbgbbbfpkpfkaaSbP
namespace Go.Proofs.Ytfbgbbbfpkpfkaa
open Go.RowKit
theorem own_mono {w : World} {base base' : Nat} {e : TypeId} {size : Nat} {v : Value} {n : Nat} {xs : List Value} (h : w.ownsRow base e size v n xs) (hb : base' ≤ base) : w.ownsRow base' e size v n xs :=
  ⟨h.1, h.2.imp id fun ⟨g, cap, cur, h1, h2, h3⟩ => ⟨g, cap, cur, h1, Nat.le_trans hb h2, h3⟩⟩
theorem getD_some {l : List Int} {k : Nat} {x : Int} (h : l[k]? = some x) : l.getD k 0 = x := by rw [List.getD_eq_getElem?_getD, h]; rfl
end Go.Proofs.Ytfbgbbbfpkpfkaa
