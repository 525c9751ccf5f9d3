/-
  No cell of these rows narrows 'for every input' (looked for: loops, veiled, ifaces, maps, wideKeys, modest, calm, conditions, laid).
  DERIVED. THE GIVEN ROWS OF THIS SEAT. 6 by the template 'for every input the law returns true; each argument reads behind the call as it read before'; 0 by the template 'total and deterministic' (their statements: YtfegkaflemcanaaTotals.lean).
  GIVEN WITH THE SEED: the statements are not yours to turn. If you find one false, say at which input.
  Laid BY PROGRAM, IN A SANDBOX (cutbox-rows.mjs): the forced cells as the released guide's own fill.sh prints them over the translation 33848c37c01afbcc… (all of the seat's roots in one cut). By AI agents, Wed Nov 11 2026. No macro, syntax, notation, axiom, sorry.
-/
import Derived.Test.YtfegkaflemcanaaChecked
import GoSem.Claim
import GoSem.ClaimJoined
import GoSem.ClaimMapViews
import Derived.JoinedTies
import Derived.KernelRfl
namespace Go.Proofs.Ytfegkaflemcanaa
/- THE CELL 'sum', in the pinned program and in every row, IS THE sha256 OF THE DUMP (.gsa) THAT YtfegkaflemcanaaProg.lean LOADS. Nothing in Lean hashes anything: it is a label: what it is worth is what the hold of that sum in a sandbox is worth. -/
noncomputable def Try.pinned : Pinned := { name := "ytfegkaflemcanaa", sum := "33848c37c01afbcc081093d72936c2fb0652286ef5369d785ff90311d5da887a", checked := Try.checked }
namespace Rows
def none {H : Type} : Left H := { results := [], args := [] }

/-- 'indeliblelaw01.ExactDivides': WHATEVER THE INPUT: true; the input reads as it did. -/
def exactDividesSpec : ChangeSpec := { name := "exactDivides", fn := fun _ => fun
  | [d] => { results := [.lit (.bool true)], args := [d] }
  | _ => none }
def exactDividesRow : OpenClaim := { program := "ytfegkaflemcanaa", sum := "33848c37c01afbcc081093d72936c2fb0652286ef5369d785ff90311d5da887a", func := "indelible/indeliblelaw01.ExactDivides", spec := "exactDivides", inPlace := ["math/bits.Add64", "math/bits.Sub64"], named := ["math/bits.divideError", "math/bits.overflowError"], apart := false }
def ExactDividesSaid : Prop := exactDividesRow.holds Try.pinned (OpenSpec.ofChange exactDividesSpec)

/-- ITS FALSE NEIGHBOUR: 'it returns false'. Refute it at one input. -/
def exactDividesWrong : ChangeSpec := { name := "exactDivides", fn := fun _ => fun
  | [d] => { results := [.lit (.bool false)], args := [d] }
  | _ => none }
def ExactDividesWrongFalsely : Prop := exactDividesRow.holds Try.pinned (OpenSpec.ofChange exactDividesWrong)

/-- 'indeliblelaw01.ExactFloors': WHATEVER THE INPUT: true; the input reads as it did. -/
def exactFloorsSpec : ChangeSpec := { name := "exactFloors", fn := fun _ => fun
  | [d1, d2] => { results := [.lit (.bool true)], args := [d1, d2] }
  | _ => none }
def exactFloorsRow : OpenClaim := { program := "ytfegkaflemcanaa", sum := "33848c37c01afbcc081093d72936c2fb0652286ef5369d785ff90311d5da887a", func := "indelible/indeliblelaw01.ExactFloors", spec := "exactFloors", inPlace := ["math/bits.Add64", "math/bits.Sub64"], named := ["math/bits.divideError", "math/bits.overflowError"], apart := false }
def ExactFloorsSaid : Prop := exactFloorsRow.holds Try.pinned (OpenSpec.ofChange exactFloorsSpec)

/-- ITS FALSE NEIGHBOUR: 'it returns false'. Refute it at one input. -/
def exactFloorsWrong : ChangeSpec := { name := "exactFloors", fn := fun _ => fun
  | [d1, d2] => { results := [.lit (.bool false)], args := [d1, d2] }
  | _ => none }
def ExactFloorsWrongFalsely : Prop := exactFloorsRow.holds Try.pinned (OpenSpec.ofChange exactFloorsWrong)

/-- 'indeliblelaw01.ExactOrder': WHATEVER THE INPUT: true; the input reads as it did. -/
def exactOrderSpec : ChangeSpec := { name := "exactOrder", fn := fun _ => fun
  | [d1, d2, d3] => { results := [.lit (.bool true)], args := [d1, d2, d3] }
  | _ => none }
def exactOrderRow : OpenClaim := { program := "ytfegkaflemcanaa", sum := "33848c37c01afbcc081093d72936c2fb0652286ef5369d785ff90311d5da887a", func := "indelible/indeliblelaw01.ExactOrder", spec := "exactOrder", inPlace := ["math/bits.Add64", "math/bits.Sub64"], named := ["math/bits.divideError", "math/bits.overflowError"], apart := false }
def ExactOrderSaid : Prop := exactOrderRow.holds Try.pinned (OpenSpec.ofChange exactOrderSpec)

/-- ITS FALSE NEIGHBOUR: 'it returns false'. Refute it at one input. -/
def exactOrderWrong : ChangeSpec := { name := "exactOrder", fn := fun _ => fun
  | [d1, d2, d3] => { results := [.lit (.bool false)], args := [d1, d2, d3] }
  | _ => none }
def ExactOrderWrongFalsely : Prop := exactOrderRow.holds Try.pinned (OpenSpec.ofChange exactOrderWrong)

/-- 'indeliblelaw01.ExactRatios': WHATEVER THE INPUT: true; the input reads as it did. -/
def exactRatiosSpec : ChangeSpec := { name := "exactRatios", fn := fun _ => fun
  | [d1, d2, d3] => { results := [.lit (.bool true)], args := [d1, d2, d3] }
  | _ => none }
def exactRatiosRow : OpenClaim := { program := "ytfegkaflemcanaa", sum := "33848c37c01afbcc081093d72936c2fb0652286ef5369d785ff90311d5da887a", func := "indelible/indeliblelaw01.ExactRatios", spec := "exactRatios", inPlace := ["math/bits.Add64", "math/bits.Sub64"], named := ["math/bits.divideError", "math/bits.overflowError"], apart := false }
def ExactRatiosSaid : Prop := exactRatiosRow.holds Try.pinned (OpenSpec.ofChange exactRatiosSpec)

/-- ITS FALSE NEIGHBOUR: 'it returns false'. Refute it at one input. -/
def exactRatiosWrong : ChangeSpec := { name := "exactRatios", fn := fun _ => fun
  | [d1, d2, d3] => { results := [.lit (.bool false)], args := [d1, d2, d3] }
  | _ => none }
def ExactRatiosWrongFalsely : Prop := exactRatiosRow.holds Try.pinned (OpenSpec.ofChange exactRatiosWrong)

/-- 'indeliblelaw01.ExactSums': WHATEVER THE INPUT: true; the input reads as it did. -/
def exactSumsSpec : ChangeSpec := { name := "exactSums", fn := fun _ => fun
  | [d] => { results := [.lit (.bool true)], args := [d] }
  | _ => none }
def exactSumsRow : OpenClaim := { program := "ytfegkaflemcanaa", sum := "33848c37c01afbcc081093d72936c2fb0652286ef5369d785ff90311d5da887a", func := "indelible/indeliblelaw01.ExactSums", spec := "exactSums", inPlace := ["math/bits.Add64", "math/bits.Sub64"], named := ["math/bits.divideError", "math/bits.overflowError"], apart := false }
def ExactSumsSaid : Prop := exactSumsRow.holds Try.pinned (OpenSpec.ofChange exactSumsSpec)

/-- ITS FALSE NEIGHBOUR: 'it returns false'. Refute it at one input. -/
def exactSumsWrong : ChangeSpec := { name := "exactSums", fn := fun _ => fun
  | [d] => { results := [.lit (.bool false)], args := [d] }
  | _ => none }
def ExactSumsWrongFalsely : Prop := exactSumsRow.holds Try.pinned (OpenSpec.ofChange exactSumsWrong)

/-- 'indeliblelaw01.ExactUnits': WHATEVER THE INPUT: true; the input reads as it did. -/
def exactUnitsSpec : ChangeSpec := { name := "exactUnits", fn := fun _ => fun
  | [d1, d2, d3] => { results := [.lit (.bool true)], args := [d1, d2, d3] }
  | _ => none }
def exactUnitsRow : OpenClaim := { program := "ytfegkaflemcanaa", sum := "33848c37c01afbcc081093d72936c2fb0652286ef5369d785ff90311d5da887a", func := "indelible/indeliblelaw01.ExactUnits", spec := "exactUnits", inPlace := ["math/bits.Add64", "math/bits.Sub64"], named := ["math/bits.divideError", "math/bits.overflowError"], apart := false }
def ExactUnitsSaid : Prop := exactUnitsRow.holds Try.pinned (OpenSpec.ofChange exactUnitsSpec)

/-- ITS FALSE NEIGHBOUR: 'it returns false'. Refute it at one input. -/
def exactUnitsWrong : ChangeSpec := { name := "exactUnits", fn := fun _ => fun
  | [d1, d2, d3] => { results := [.lit (.bool false)], args := [d1, d2, d3] }
  | _ => none }
def ExactUnitsWrongFalsely : Prop := exactUnitsRow.holds Try.pinned (OpenSpec.ofChange exactUnitsWrong)

/- THE SECOND FORM. 'bulk': how many values and letters a reading holds, each counted each time it is reached (what is shared counts as often as it is met; a slice's spare places count too). A statement '..UptoSaid' is the law's where the arguments, and the package variables that the reading takes, are together of bulk at most 1048576: NARROWER than '..Said'. Prove '..Said' where nothing that the law and all that it calls make is longer than what came in: it says more and counts as full. Else prove '..UptoSaid'. A law counts once. -/
mutual
def uptoBulk {H : Type} : DataW H → Nat
  | .lit (.string bytes) => bytes.length + 1
  | .lit _ => 1
  | .nil => 1
  | .ptr d => uptoBulk d + 1
  | .slice elems spare => uptoBulkAll elems + uptoBulkAll spare + 1
  | .agg parts => uptoBulkAll parts + 1
  | .iface _ d => uptoBulk d + 1
  | .map entries => uptoBulkEntries entries + 1
  | .held _ => 1
def uptoBulkAll {H : Type} : List (DataW H) → Nat
  | [] => 0
  | d :: r => uptoBulk d + uptoBulkAll r
def uptoBulkEntries {H : Type} : List (Lit × DataW H) → Nat
  | [] => 0
  | x :: r => uptoBulkEntry x + uptoBulkEntries r
def uptoBulkEntry {H : Type} : Lit × DataW H → Nat
  | (.string bytes, d) => bytes.length + uptoBulk d + 1
  | (_, d) => uptoBulk d + 1
 end
def uptoSmall : (H : Type) → List (DataW H) → Bool := fun _ ds => decide (uptoBulkAll ds ≤ 1048576)
def OpenSpec.upto (s : _root_.Go.ChangeSpec) : _root_.Go.OpenSpec := { _root_.Go.OpenSpec.ofChange s with cond := some uptoSmall }

/-- 'indeliblelaw01.ExactDivides', WHERE WHAT IT READS IS OF BULK AT MOST 1048576: true; the input reads as it did. -/
def exactDividesUptoRow : OpenClaim := { program := "ytfegkaflemcanaa", sum := "33848c37c01afbcc081093d72936c2fb0652286ef5369d785ff90311d5da887a", func := "indelible/indeliblelaw01.ExactDivides", spec := "exactDivides", inPlace := ["math/bits.Add64", "math/bits.Sub64"], named := ["math/bits.divideError", "math/bits.overflowError"], apart := false, narrowed := true }
def ExactDividesUptoSaid : Prop := exactDividesUptoRow.holds Try.pinned (OpenSpec.upto exactDividesSpec)

/-- 'indeliblelaw01.ExactFloors', WHERE WHAT IT READS IS OF BULK AT MOST 1048576: true; the input reads as it did. -/
def exactFloorsUptoRow : OpenClaim := { program := "ytfegkaflemcanaa", sum := "33848c37c01afbcc081093d72936c2fb0652286ef5369d785ff90311d5da887a", func := "indelible/indeliblelaw01.ExactFloors", spec := "exactFloors", inPlace := ["math/bits.Add64", "math/bits.Sub64"], named := ["math/bits.divideError", "math/bits.overflowError"], apart := false, narrowed := true }
def ExactFloorsUptoSaid : Prop := exactFloorsUptoRow.holds Try.pinned (OpenSpec.upto exactFloorsSpec)

/-- 'indeliblelaw01.ExactOrder', WHERE WHAT IT READS IS OF BULK AT MOST 1048576: true; the input reads as it did. -/
def exactOrderUptoRow : OpenClaim := { program := "ytfegkaflemcanaa", sum := "33848c37c01afbcc081093d72936c2fb0652286ef5369d785ff90311d5da887a", func := "indelible/indeliblelaw01.ExactOrder", spec := "exactOrder", inPlace := ["math/bits.Add64", "math/bits.Sub64"], named := ["math/bits.divideError", "math/bits.overflowError"], apart := false, narrowed := true }
def ExactOrderUptoSaid : Prop := exactOrderUptoRow.holds Try.pinned (OpenSpec.upto exactOrderSpec)

/-- 'indeliblelaw01.ExactRatios', WHERE WHAT IT READS IS OF BULK AT MOST 1048576: true; the input reads as it did. -/
def exactRatiosUptoRow : OpenClaim := { program := "ytfegkaflemcanaa", sum := "33848c37c01afbcc081093d72936c2fb0652286ef5369d785ff90311d5da887a", func := "indelible/indeliblelaw01.ExactRatios", spec := "exactRatios", inPlace := ["math/bits.Add64", "math/bits.Sub64"], named := ["math/bits.divideError", "math/bits.overflowError"], apart := false, narrowed := true }
def ExactRatiosUptoSaid : Prop := exactRatiosUptoRow.holds Try.pinned (OpenSpec.upto exactRatiosSpec)

/-- 'indeliblelaw01.ExactSums', WHERE WHAT IT READS IS OF BULK AT MOST 1048576: true; the input reads as it did. -/
def exactSumsUptoRow : OpenClaim := { program := "ytfegkaflemcanaa", sum := "33848c37c01afbcc081093d72936c2fb0652286ef5369d785ff90311d5da887a", func := "indelible/indeliblelaw01.ExactSums", spec := "exactSums", inPlace := ["math/bits.Add64", "math/bits.Sub64"], named := ["math/bits.divideError", "math/bits.overflowError"], apart := false, narrowed := true }
def ExactSumsUptoSaid : Prop := exactSumsUptoRow.holds Try.pinned (OpenSpec.upto exactSumsSpec)

/-- 'indeliblelaw01.ExactUnits', WHERE WHAT IT READS IS OF BULK AT MOST 1048576: true; the input reads as it did. -/
def exactUnitsUptoRow : OpenClaim := { program := "ytfegkaflemcanaa", sum := "33848c37c01afbcc081093d72936c2fb0652286ef5369d785ff90311d5da887a", func := "indelible/indeliblelaw01.ExactUnits", spec := "exactUnits", inPlace := ["math/bits.Add64", "math/bits.Sub64"], named := ["math/bits.divideError", "math/bits.overflowError"], apart := false, narrowed := true }
def ExactUnitsUptoSaid : Prop := exactUnitsUptoRow.holds Try.pinned (OpenSpec.upto exactUnitsSpec)

end Rows
end Go.Proofs.Ytfegkaflemcanaa
