/- bits.Len64: walked by the shelf's own way (the text of the kit's worked contract, turned to this program). -/
import Derived.Test.YthkppilelpaieaaRows
import Derived.Lib.Walk
import Derived.Lib.BitFns
namespace Go.Proofs.Ythkppilelpaieaa
end Go.Proofs.Ythkppilelpaieaa
