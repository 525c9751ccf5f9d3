/-
  No cell of these rows narrows 'for every input' (looked for: loops, veiled, ifaces, maps, wideKeys, modest, calm, conditions, laid).
  DERIVED. THE GIVEN ROWS OF THIS SEAT. 6 by the template 'for every input the law returns true; each argument reads behind the call as it read before'; 0 by the template 'total and deterministic' (their statements: YthkppilelpaieaaTotals.lean).
  GIVEN WITH THE SEED: the statements are not yours to turn. If you find one false, say at which input.
  Laid BY PROGRAM, IN A SANDBOX (cutbox-rows.mjs): the forced cells as the released guide's own fill.sh prints them over the translation 5f752790c5110c96… (all of the seat's roots in one cut). By AI agents, Wed Nov 11 2026. No macro, syntax, notation, axiom, sorry.
-/
import Derived.Test.YthkppilelpaieaaChecked
import GoSem.Claim
import GoSem.ClaimJoined
import GoSem.ClaimMapViews
import Derived.JoinedTies
import Derived.KernelRfl
namespace Go.Proofs.Ythkppilelpaieaa
/- THE CELL 'sum', in the pinned program and in every row, IS THE sha256 OF THE DUMP (.gsa) THAT YthkppilelpaieaaProg.lean LOADS. Nothing in Lean hashes anything: it is a label: what it is worth is what the hold of that sum in a sandbox is worth. -/
noncomputable def Try.pinned : Pinned := { name := "ythkppilelpaieaa", sum := "5f752790c5110c9620845c820a61ad606b584f73181bc9ac682c46c5d4507deb", checked := Try.checked }
namespace Rows
def none {H : Type} : Left H := { results := [], args := [] }

/-- 'indeliblelaw05.AxisPositions': WHATEVER THE INPUT: true; the input reads as it did. -/
def axisPositionsSpec : ChangeSpec := { name := "axisPositions", fn := fun _ => fun
  | [d1, d2, d3, d4] => { results := [.lit (.bool true)], args := [d1, d2, d3, d4] }
  | _ => none }
def axisPositionsRow : OpenClaim := { program := "ythkppilelpaieaa", sum := "5f752790c5110c9620845c820a61ad606b584f73181bc9ac682c46c5d4507deb", func := "indelible/indeliblelaw05.AxisPositions", spec := "axisPositions", unfollowed := true, recurses := true, apart := false }
def AxisPositionsSaid : Prop := axisPositionsRow.holds Try.pinned (OpenSpec.ofChange axisPositionsSpec)

/-- ITS FALSE NEIGHBOUR: 'it returns false'. Refute it at one input. -/
def axisPositionsWrong : ChangeSpec := { name := "axisPositions", fn := fun _ => fun
  | [d1, d2, d3, d4] => { results := [.lit (.bool false)], args := [d1, d2, d3, d4] }
  | _ => none }
def AxisPositionsWrongFalsely : Prop := axisPositionsRow.holds Try.pinned (OpenSpec.ofChange axisPositionsWrong)

/-- 'indeliblelaw05.AxisRegions': WHATEVER THE INPUT: true; the input reads as it did. -/
def axisRegionsSpec : ChangeSpec := { name := "axisRegions", fn := fun _ => fun
  | [d1, d2, d3, d4] => { results := [.lit (.bool true)], args := [d1, d2, d3, d4] }
  | _ => none }
def axisRegionsRow : OpenClaim := { program := "ythkppilelpaieaa", sum := "5f752790c5110c9620845c820a61ad606b584f73181bc9ac682c46c5d4507deb", func := "indelible/indeliblelaw05.AxisRegions", spec := "axisRegions", unfollowed := true, recurses := true, apart := false }
def AxisRegionsSaid : Prop := axisRegionsRow.holds Try.pinned (OpenSpec.ofChange axisRegionsSpec)

/-- ITS FALSE NEIGHBOUR: 'it returns false'. Refute it at one input. -/
def axisRegionsWrong : ChangeSpec := { name := "axisRegions", fn := fun _ => fun
  | [d1, d2, d3, d4] => { results := [.lit (.bool false)], args := [d1, d2, d3, d4] }
  | _ => none }
def AxisRegionsWrongFalsely : Prop := axisRegionsRow.holds Try.pinned (OpenSpec.ofChange axisRegionsWrong)

/-- 'indeliblelaw05.AxisMonotone': WHATEVER THE INPUT: true; the input reads as it did. -/
def axisMonotoneSpec : ChangeSpec := { name := "axisMonotone", fn := fun _ => fun
  | [d1, d2, d3] => { results := [.lit (.bool true)], args := [d1, d2, d3] }
  | _ => none }
def axisMonotoneRow : OpenClaim := { program := "ythkppilelpaieaa", sum := "5f752790c5110c9620845c820a61ad606b584f73181bc9ac682c46c5d4507deb", func := "indelible/indeliblelaw05.AxisMonotone", spec := "axisMonotone", unfollowed := true, recurses := true, apart := false }
def AxisMonotoneSaid : Prop := axisMonotoneRow.holds Try.pinned (OpenSpec.ofChange axisMonotoneSpec)

/-- ITS FALSE NEIGHBOUR: 'it returns false'. Refute it at one input. -/
def axisMonotoneWrong : ChangeSpec := { name := "axisMonotone", fn := fun _ => fun
  | [d1, d2, d3] => { results := [.lit (.bool false)], args := [d1, d2, d3] }
  | _ => none }
def AxisMonotoneWrongFalsely : Prop := axisMonotoneRow.holds Try.pinned (OpenSpec.ofChange axisMonotoneWrong)

/-- 'indeliblelaw05.AxisInverse': WHATEVER THE INPUT: true; the input reads as it did. -/
def axisInverseSpec : ChangeSpec := { name := "axisInverse", fn := fun _ => fun
  | [d1, d2, d3, d4] => { results := [.lit (.bool true)], args := [d1, d2, d3, d4] }
  | _ => none }
def axisInverseRow : OpenClaim := { program := "ythkppilelpaieaa", sum := "5f752790c5110c9620845c820a61ad606b584f73181bc9ac682c46c5d4507deb", func := "indelible/indeliblelaw05.AxisInverse", spec := "axisInverse", unfollowed := true, recurses := true, apart := false }
def AxisInverseSaid : Prop := axisInverseRow.holds Try.pinned (OpenSpec.ofChange axisInverseSpec)

/-- ITS FALSE NEIGHBOUR: 'it returns false'. Refute it at one input. -/
def axisInverseWrong : ChangeSpec := { name := "axisInverse", fn := fun _ => fun
  | [d1, d2, d3, d4] => { results := [.lit (.bool false)], args := [d1, d2, d3, d4] }
  | _ => none }
def AxisInverseWrongFalsely : Prop := axisInverseRow.holds Try.pinned (OpenSpec.ofChange axisInverseWrong)

/-- 'indeliblelaw05.AxisTents': WHATEVER THE INPUT: true; the input reads as it did. -/
def axisTentsSpec : ChangeSpec := { name := "axisTents", fn := fun _ => fun
  | [d1, d2] => { results := [.lit (.bool true)], args := [d1, d2] }
  | _ => none }
def axisTentsRow : OpenClaim := { program := "ythkppilelpaieaa", sum := "5f752790c5110c9620845c820a61ad606b584f73181bc9ac682c46c5d4507deb", func := "indelible/indeliblelaw05.AxisTents", spec := "axisTents", unfollowed := true, recurses := true, apart := false }
def AxisTentsSaid : Prop := axisTentsRow.holds Try.pinned (OpenSpec.ofChange axisTentsSpec)

/-- ITS FALSE NEIGHBOUR: 'it returns false'. Refute it at one input. -/
def axisTentsWrong : ChangeSpec := { name := "axisTents", fn := fun _ => fun
  | [d1, d2] => { results := [.lit (.bool false)], args := [d1, d2] }
  | _ => none }
def AxisTentsWrongFalsely : Prop := axisTentsRow.holds Try.pinned (OpenSpec.ofChange axisTentsWrong)

/-- 'indeliblelaw05.AxisProduct': WHATEVER THE INPUT: true; the input reads as it did. -/
def axisProductSpec : ChangeSpec := { name := "axisProduct", fn := fun _ => fun
  | [d1, d2] => { results := [.lit (.bool true)], args := [d1, d2] }
  | _ => none }
def axisProductRow : OpenClaim := { program := "ythkppilelpaieaa", sum := "5f752790c5110c9620845c820a61ad606b584f73181bc9ac682c46c5d4507deb", func := "indelible/indeliblelaw05.AxisProduct", spec := "axisProduct", unfollowed := true, recurses := true, apart := false }
def AxisProductSaid : Prop := axisProductRow.holds Try.pinned (OpenSpec.ofChange axisProductSpec)

/-- ITS FALSE NEIGHBOUR: 'it returns false'. Refute it at one input. -/
def axisProductWrong : ChangeSpec := { name := "axisProduct", fn := fun _ => fun
  | [d1, d2] => { results := [.lit (.bool false)], args := [d1, d2] }
  | _ => none }
def AxisProductWrongFalsely : Prop := axisProductRow.holds Try.pinned (OpenSpec.ofChange axisProductWrong)

/- THE SECOND FORM. 'bulk': how many values and letters a reading holds, each counted each time it is reached (what is shared counts as often as it is met; a slice's spare places count too). A statement '..UptoSaid' is the law's where the arguments, and the package variables that the reading takes, are together of bulk at most 1048576: NARROWER than '..Said'. Prove '..Said' where nothing that the law and all that it calls make is longer than what came in: it says more and counts as full. Else prove '..UptoSaid'. A law counts once. -/
mutual
def uptoBulk {H : Type} : DataW H → Nat
  | .lit (.string bytes) => bytes.length + 1
  | .lit _ => 1
  | .nil => 1
  | .ptr d => uptoBulk d + 1
  | .slice elems spare => uptoBulkAll elems + uptoBulkAll spare + 1
  | .agg parts => uptoBulkAll parts + 1
  | .iface _ d => uptoBulk d + 1
  | .map entries => uptoBulkEntries entries + 1
  | .held _ => 1
def uptoBulkAll {H : Type} : List (DataW H) → Nat
  | [] => 0
  | d :: r => uptoBulk d + uptoBulkAll r
def uptoBulkEntries {H : Type} : List (Lit × DataW H) → Nat
  | [] => 0
  | x :: r => uptoBulkEntry x + uptoBulkEntries r
def uptoBulkEntry {H : Type} : Lit × DataW H → Nat
  | (.string bytes, d) => bytes.length + uptoBulk d + 1
  | (_, d) => uptoBulk d + 1
 end
def uptoSmall : (H : Type) → List (DataW H) → Bool := fun _ ds => decide (uptoBulkAll ds ≤ 1048576)
def OpenSpec.upto (s : _root_.Go.ChangeSpec) : _root_.Go.OpenSpec := { _root_.Go.OpenSpec.ofChange s with cond := some uptoSmall }

/-- 'indeliblelaw05.AxisPositions', WHERE WHAT IT READS IS OF BULK AT MOST 1048576: true; the input reads as it did. -/
def axisPositionsUptoRow : OpenClaim := { program := "ythkppilelpaieaa", sum := "5f752790c5110c9620845c820a61ad606b584f73181bc9ac682c46c5d4507deb", func := "indelible/indeliblelaw05.AxisPositions", spec := "axisPositions", unfollowed := true, recurses := true, apart := false, narrowed := true }
def AxisPositionsUptoSaid : Prop := axisPositionsUptoRow.holds Try.pinned (OpenSpec.upto axisPositionsSpec)

/-- 'indeliblelaw05.AxisRegions', WHERE WHAT IT READS IS OF BULK AT MOST 1048576: true; the input reads as it did. -/
def axisRegionsUptoRow : OpenClaim := { program := "ythkppilelpaieaa", sum := "5f752790c5110c9620845c820a61ad606b584f73181bc9ac682c46c5d4507deb", func := "indelible/indeliblelaw05.AxisRegions", spec := "axisRegions", unfollowed := true, recurses := true, apart := false, narrowed := true }
def AxisRegionsUptoSaid : Prop := axisRegionsUptoRow.holds Try.pinned (OpenSpec.upto axisRegionsSpec)

/-- 'indeliblelaw05.AxisMonotone', WHERE WHAT IT READS IS OF BULK AT MOST 1048576: true; the input reads as it did. -/
def axisMonotoneUptoRow : OpenClaim := { program := "ythkppilelpaieaa", sum := "5f752790c5110c9620845c820a61ad606b584f73181bc9ac682c46c5d4507deb", func := "indelible/indeliblelaw05.AxisMonotone", spec := "axisMonotone", unfollowed := true, recurses := true, apart := false, narrowed := true }
def AxisMonotoneUptoSaid : Prop := axisMonotoneUptoRow.holds Try.pinned (OpenSpec.upto axisMonotoneSpec)

/-- 'indeliblelaw05.AxisInverse', WHERE WHAT IT READS IS OF BULK AT MOST 1048576: true; the input reads as it did. -/
def axisInverseUptoRow : OpenClaim := { program := "ythkppilelpaieaa", sum := "5f752790c5110c9620845c820a61ad606b584f73181bc9ac682c46c5d4507deb", func := "indelible/indeliblelaw05.AxisInverse", spec := "axisInverse", unfollowed := true, recurses := true, apart := false, narrowed := true }
def AxisInverseUptoSaid : Prop := axisInverseUptoRow.holds Try.pinned (OpenSpec.upto axisInverseSpec)

/-- 'indeliblelaw05.AxisTents', WHERE WHAT IT READS IS OF BULK AT MOST 1048576: true; the input reads as it did. -/
def axisTentsUptoRow : OpenClaim := { program := "ythkppilelpaieaa", sum := "5f752790c5110c9620845c820a61ad606b584f73181bc9ac682c46c5d4507deb", func := "indelible/indeliblelaw05.AxisTents", spec := "axisTents", unfollowed := true, recurses := true, apart := false, narrowed := true }
def AxisTentsUptoSaid : Prop := axisTentsUptoRow.holds Try.pinned (OpenSpec.upto axisTentsSpec)

/-- 'indeliblelaw05.AxisProduct', WHERE WHAT IT READS IS OF BULK AT MOST 1048576: true; the input reads as it did. -/
def axisProductUptoRow : OpenClaim := { program := "ythkppilelpaieaa", sum := "5f752790c5110c9620845c820a61ad606b584f73181bc9ac682c46c5d4507deb", func := "indelible/indeliblelaw05.AxisProduct", spec := "axisProduct", unfollowed := true, recurses := true, apart := false, narrowed := true }
def AxisProductUptoSaid : Prop := axisProductUptoRow.holds Try.pinned (OpenSpec.upto axisProductSpec)

end Rows
end Go.Proofs.Ythkppilelpaieaa
