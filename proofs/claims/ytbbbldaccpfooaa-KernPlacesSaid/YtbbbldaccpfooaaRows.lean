/-
  No cell of these rows narrows 'for every input' (looked for: loops, veiled, ifaces, maps, wideKeys, modest, calm, conditions, laid).
  DERIVED. THE GIVEN ROWS OF THIS SEAT. 5 by the template 'for every input the law returns true; each argument reads behind the call as it read before'; 0 by the template 'total and deterministic' (their statements: YtbbbldaccpfooaaTotals.lean).
  GIVEN WITH THE SEED: the statements are not yours to turn. If you find one false, say at which input.
  Laid BY PROGRAM, IN A SANDBOX (cutbox-rows.mjs): the forced cells as the released guide's own fill.sh prints them over the translation 4231f81fa3128b3d… (all of the seat's roots in one cut). By AI agents, Wed Nov 11 2026. No macro, syntax, notation, axiom, sorry.
-/
import Derived.Test.YtbbbldaccpfooaaChecked
import GoSem.Claim
import GoSem.ClaimJoined
import GoSem.ClaimMapViews
import Derived.JoinedTies
import Derived.KernelRfl
namespace Go.Proofs.Ytbbbldaccpfooaa
/- THE CELL 'sum', in the pinned program and in every row, IS THE sha256 OF THE DUMP (.gsa) THAT YtbbbldaccpfooaaProg.lean LOADS. Nothing in Lean hashes anything: it is a label: what it is worth is what the hold of that sum in a sandbox is worth. -/
noncomputable def Try.pinned : Pinned := { name := "ytbbbldaccpfooaa", sum := "4231f81fa3128b3daad5a7e92add5305a54f6e9bf125dd06dc8cd58ab08ede5d", checked := Try.checked }
namespace Rows
def none {H : Type} : Left H := { results := [], args := [] }

/-- 'indeliblelaw15.KernFinds': WHATEVER THE INPUT: true; the input reads as it did. -/
def kernFindsSpec : ChangeSpec := { name := "kernFinds", fn := fun _ => fun
  | [d1, d2, d3] => { results := [.lit (.bool true)], args := [d1, d2, d3] }
  | _ => none }
def kernFindsRow : OpenClaim := { program := "ytbbbldaccpfooaa", sum := "4231f81fa3128b3daad5a7e92add5305a54f6e9bf125dd06dc8cd58ab08ede5d", func := "indelible/indeliblelaw15.KernFinds", spec := "kernFinds", plainKeys := false, apart := false }
def KernFindsSaid : Prop := kernFindsRow.holds Try.pinned (OpenSpec.ofChange kernFindsSpec)

/-- ITS FALSE NEIGHBOUR: 'it returns false'. Refute it at one input. -/
def kernFindsWrong : ChangeSpec := { name := "kernFinds", fn := fun _ => fun
  | [d1, d2, d3] => { results := [.lit (.bool false)], args := [d1, d2, d3] }
  | _ => none }
def KernFindsWrongFalsely : Prop := kernFindsRow.holds Try.pinned (OpenSpec.ofChange kernFindsWrong)

/-- 'indeliblelaw15.KernPlaces': WHATEVER THE INPUT: true; the input reads as it did. -/
def kernPlacesSpec : ChangeSpec := { name := "kernPlaces", fn := fun _ => fun
  | [d1, d2, d3, d4] => { results := [.lit (.bool true)], args := [d1, d2, d3, d4] }
  | _ => none }
def kernPlacesRow : OpenClaim := { program := "ytbbbldaccpfooaa", sum := "4231f81fa3128b3daad5a7e92add5305a54f6e9bf125dd06dc8cd58ab08ede5d", func := "indelible/indeliblelaw15.KernPlaces", spec := "kernPlaces", plainKeys := false, apart := false }
def KernPlacesSaid : Prop := kernPlacesRow.holds Try.pinned (OpenSpec.ofChange kernPlacesSpec)

/-- ITS FALSE NEIGHBOUR: 'it returns false'. Refute it at one input. -/
def kernPlacesWrong : ChangeSpec := { name := "kernPlaces", fn := fun _ => fun
  | [d1, d2, d3, d4] => { results := [.lit (.bool false)], args := [d1, d2, d3, d4] }
  | _ => none }
def KernPlacesWrongFalsely : Prop := kernPlacesRow.holds Try.pinned (OpenSpec.ofChange kernPlacesWrong)

/-- 'indeliblelaw15.KernWhole': WHATEVER THE INPUT: true; the input reads as it did. -/
def kernWholeSpec : ChangeSpec := { name := "kernWhole", fn := fun _ => fun
  | [d] => { results := [.lit (.bool true)], args := [d] }
  | _ => none }
def kernWholeRow : OpenClaim := { program := "ytbbbldaccpfooaa", sum := "4231f81fa3128b3daad5a7e92add5305a54f6e9bf125dd06dc8cd58ab08ede5d", func := "indelible/indeliblelaw15.KernWhole", spec := "kernWhole", plainKeys := false, apart := false }
def KernWholeSaid : Prop := kernWholeRow.holds Try.pinned (OpenSpec.ofChange kernWholeSpec)

/-- ITS FALSE NEIGHBOUR: 'it returns false'. Refute it at one input. -/
def kernWholeWrong : ChangeSpec := { name := "kernWhole", fn := fun _ => fun
  | [d] => { results := [.lit (.bool false)], args := [d] }
  | _ => none }
def KernWholeWrongFalsely : Prop := kernWholeRow.holds Try.pinned (OpenSpec.ofChange kernWholeWrong)

/-- 'indeliblelaw15.KernSpaces': WHATEVER THE INPUT: true; the input reads as it did. -/
def kernSpacesSpec : ChangeSpec := { name := "kernSpaces", fn := fun _ => fun
  | [d1, d2, d3, d4] => { results := [.lit (.bool true)], args := [d1, d2, d3, d4] }
  | _ => none }
def kernSpacesRow : OpenClaim := { program := "ytbbbldaccpfooaa", sum := "4231f81fa3128b3daad5a7e92add5305a54f6e9bf125dd06dc8cd58ab08ede5d", func := "indelible/indeliblelaw15.KernSpaces", spec := "kernSpaces", plainKeys := false, apart := false }
def KernSpacesSaid : Prop := kernSpacesRow.holds Try.pinned (OpenSpec.ofChange kernSpacesSpec)

/-- ITS FALSE NEIGHBOUR: 'it returns false'. Refute it at one input. -/
def kernSpacesWrong : ChangeSpec := { name := "kernSpaces", fn := fun _ => fun
  | [d1, d2, d3, d4] => { results := [.lit (.bool false)], args := [d1, d2, d3, d4] }
  | _ => none }
def KernSpacesWrongFalsely : Prop := kernSpacesRow.holds Try.pinned (OpenSpec.ofChange kernSpacesWrong)

/-- 'indeliblelaw15.KernBegins': WHATEVER THE INPUT: true; the input reads as it did. -/
def kernBeginsSpec : ChangeSpec := { name := "kernBegins", fn := fun _ => fun
  | [d1, d2, d3] => { results := [.lit (.bool true)], args := [d1, d2, d3] }
  | _ => none }
def kernBeginsRow : OpenClaim := { program := "ytbbbldaccpfooaa", sum := "4231f81fa3128b3daad5a7e92add5305a54f6e9bf125dd06dc8cd58ab08ede5d", func := "indelible/indeliblelaw15.KernBegins", spec := "kernBegins", plainKeys := false, apart := false }
def KernBeginsSaid : Prop := kernBeginsRow.holds Try.pinned (OpenSpec.ofChange kernBeginsSpec)

/-- ITS FALSE NEIGHBOUR: 'it returns false'. Refute it at one input. -/
def kernBeginsWrong : ChangeSpec := { name := "kernBegins", fn := fun _ => fun
  | [d1, d2, d3] => { results := [.lit (.bool false)], args := [d1, d2, d3] }
  | _ => none }
def KernBeginsWrongFalsely : Prop := kernBeginsRow.holds Try.pinned (OpenSpec.ofChange kernBeginsWrong)

/- THE SECOND FORM. 'bulk': how many values and letters a reading holds, each counted each time it is reached (what is shared counts as often as it is met; a slice's spare places count too). A statement '..UptoSaid' is the law's where the arguments, and the package variables that the reading takes, are together of bulk at most 1048576: NARROWER than '..Said'. Prove '..Said' where nothing that the law and all that it calls make is longer than what came in: it says more and counts as full. Else prove '..UptoSaid'. A law counts once. -/
mutual
def uptoBulk {H : Type} : DataW H → Nat
  | .lit (.string bytes) => bytes.length + 1
  | .lit _ => 1
  | .nil => 1
  | .ptr d => uptoBulk d + 1
  | .slice elems spare => uptoBulkAll elems + uptoBulkAll spare + 1
  | .agg parts => uptoBulkAll parts + 1
  | .iface _ d => uptoBulk d + 1
  | .map entries => uptoBulkEntries entries + 1
  | .held _ => 1
def uptoBulkAll {H : Type} : List (DataW H) → Nat
  | [] => 0
  | d :: r => uptoBulk d + uptoBulkAll r
def uptoBulkEntries {H : Type} : List (Lit × DataW H) → Nat
  | [] => 0
  | x :: r => uptoBulkEntry x + uptoBulkEntries r
def uptoBulkEntry {H : Type} : Lit × DataW H → Nat
  | (.string bytes, d) => bytes.length + uptoBulk d + 1
  | (_, d) => uptoBulk d + 1
 end
def uptoSmall : (H : Type) → List (DataW H) → Bool := fun _ ds => decide (uptoBulkAll ds ≤ 1048576)
def OpenSpec.upto (s : _root_.Go.ChangeSpec) : _root_.Go.OpenSpec := { _root_.Go.OpenSpec.ofChange s with cond := some uptoSmall }

/-- 'indeliblelaw15.KernFinds', WHERE WHAT IT READS IS OF BULK AT MOST 1048576: true; the input reads as it did. -/
def kernFindsUptoRow : OpenClaim := { program := "ytbbbldaccpfooaa", sum := "4231f81fa3128b3daad5a7e92add5305a54f6e9bf125dd06dc8cd58ab08ede5d", func := "indelible/indeliblelaw15.KernFinds", spec := "kernFinds", plainKeys := false, apart := false, narrowed := true }
def KernFindsUptoSaid : Prop := kernFindsUptoRow.holds Try.pinned (OpenSpec.upto kernFindsSpec)

/-- 'indeliblelaw15.KernPlaces', WHERE WHAT IT READS IS OF BULK AT MOST 1048576: true; the input reads as it did. -/
def kernPlacesUptoRow : OpenClaim := { program := "ytbbbldaccpfooaa", sum := "4231f81fa3128b3daad5a7e92add5305a54f6e9bf125dd06dc8cd58ab08ede5d", func := "indelible/indeliblelaw15.KernPlaces", spec := "kernPlaces", plainKeys := false, apart := false, narrowed := true }
def KernPlacesUptoSaid : Prop := kernPlacesUptoRow.holds Try.pinned (OpenSpec.upto kernPlacesSpec)

/-- 'indeliblelaw15.KernWhole', WHERE WHAT IT READS IS OF BULK AT MOST 1048576: true; the input reads as it did. -/
def kernWholeUptoRow : OpenClaim := { program := "ytbbbldaccpfooaa", sum := "4231f81fa3128b3daad5a7e92add5305a54f6e9bf125dd06dc8cd58ab08ede5d", func := "indelible/indeliblelaw15.KernWhole", spec := "kernWhole", plainKeys := false, apart := false, narrowed := true }
def KernWholeUptoSaid : Prop := kernWholeUptoRow.holds Try.pinned (OpenSpec.upto kernWholeSpec)

/-- 'indeliblelaw15.KernSpaces', WHERE WHAT IT READS IS OF BULK AT MOST 1048576: true; the input reads as it did. -/
def kernSpacesUptoRow : OpenClaim := { program := "ytbbbldaccpfooaa", sum := "4231f81fa3128b3daad5a7e92add5305a54f6e9bf125dd06dc8cd58ab08ede5d", func := "indelible/indeliblelaw15.KernSpaces", spec := "kernSpaces", plainKeys := false, apart := false, narrowed := true }
def KernSpacesUptoSaid : Prop := kernSpacesUptoRow.holds Try.pinned (OpenSpec.upto kernSpacesSpec)

/-- 'indeliblelaw15.KernBegins', WHERE WHAT IT READS IS OF BULK AT MOST 1048576: true; the input reads as it did. -/
def kernBeginsUptoRow : OpenClaim := { program := "ytbbbldaccpfooaa", sum := "4231f81fa3128b3daad5a7e92add5305a54f6e9bf125dd06dc8cd58ab08ede5d", func := "indelible/indeliblelaw15.KernBegins", spec := "kernBegins", plainKeys := false, apart := false, narrowed := true }
def KernBeginsUptoSaid : Prop := kernBeginsUptoRow.holds Try.pinned (OpenSpec.upto kernBeginsSpec)

end Rows
end Go.Proofs.Ytbbbldaccpfooaa
