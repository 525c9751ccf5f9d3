/- Lookups: the reference's Lookups and Check. -/
import Derived.Test.YtfbgbbbfpkpfkaaSb6
namespace Go.Proofs.Ytfbgbbbfpkpfkaa
open Go.RowKit
theorem okAll_all (s : Sub) (m : Int) : okAll (allOf s) m = (okAll s.1 m && (okAll s.2.1 m && okAll s.2.2.1 m)) := by
  unfold okAll allOf
  rw [List.all_append, List.all_append]
end Go.Proofs.Ytfbgbbbfpkpfkaa
