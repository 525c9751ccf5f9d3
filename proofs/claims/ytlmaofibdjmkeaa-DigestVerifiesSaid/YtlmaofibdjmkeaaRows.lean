/-
  No cell of these rows narrows 'for every input' (looked for: loops, veiled, ifaces, maps, wideKeys, modest, calm, conditions, laid).
  DERIVED. THE GIVEN ROWS OF THIS SEAT. 7 by the template 'for every input the law returns true; each argument reads behind the call as it read before'; 0 by the template 'total and deterministic' (their statements: YtlmaofibdjmkeaaTotals.lean).
  GIVEN WITH THE SEED: the statements are not yours to turn. If you find one false, say at which input.
  Laid BY PROGRAM, IN A SANDBOX (cutbox-rows.mjs): the forced cells as the released guide's own fill.sh prints them over the translation 9729c890044b2447… (all of the seat's roots in one cut). By AI agents, Wed Nov 11 2026. No macro, syntax, notation, axiom, sorry.
-/
import Derived.Test.YtlmaofibdjmkeaaChecked
import GoSem.Claim
import GoSem.ClaimJoined
import GoSem.ClaimMapViews
import Derived.JoinedTies
import Derived.KernelRfl
namespace Go.Proofs.Ytlmaofibdjmkeaa
/- THE CELL 'sum', in the pinned program and in every row, IS THE sha256 OF THE DUMP (.gsa) THAT YtlmaofibdjmkeaaProg.lean LOADS. Nothing in Lean hashes anything: it is a label: what it is worth is what the hold of that sum in a sandbox is worth. -/
noncomputable def Try.pinned : Pinned := { name := "ytlmaofibdjmkeaa", sum := "9729c890044b2447130135b3a459d994279c09e774c942b4283656dfe5091f58", checked := Try.checked }
namespace Rows
def none {H : Type} : Left H := { results := [], args := [] }

/-- 'indeliblelaw03.DigestOf': WHATEVER THE INPUT: true; the input reads as it did. -/
def digestOfSpec : ChangeSpec := { name := "digestOf", fn := fun _ => fun
  | [d1, d2] => { results := [.lit (.bool true)], args := [d1, d2] }
  | _ => none }
def digestOfRow : OpenClaim := { program := "ytlmaofibdjmkeaa", sum := "9729c890044b2447130135b3a459d994279c09e774c942b4283656dfe5091f58", func := "indelible/indeliblelaw03.DigestOf", spec := "digestOf", unfollowed := true, recurses := true, apart := false }
def DigestOfSaid : Prop := digestOfRow.holds Try.pinned (OpenSpec.ofChange digestOfSpec)

/-- ITS FALSE NEIGHBOUR: 'it returns false'. Refute it at one input. -/
def digestOfWrong : ChangeSpec := { name := "digestOf", fn := fun _ => fun
  | [d1, d2] => { results := [.lit (.bool false)], args := [d1, d2] }
  | _ => none }
def DigestOfWrongFalsely : Prop := digestOfRow.holds Try.pinned (OpenSpec.ofChange digestOfWrong)

/-- 'indeliblelaw03.DigestMarks': WHATEVER THE INPUT: true; the input reads as it did. -/
def digestMarksSpec : ChangeSpec := { name := "digestMarks", fn := fun _ => fun
  | [d1, d2, d3] => { results := [.lit (.bool true)], args := [d1, d2, d3] }
  | _ => none }
def digestMarksRow : OpenClaim := { program := "ytlmaofibdjmkeaa", sum := "9729c890044b2447130135b3a459d994279c09e774c942b4283656dfe5091f58", func := "indelible/indeliblelaw03.DigestMarks", spec := "digestMarks", unfollowed := true, recurses := true, apart := false }
def DigestMarksSaid : Prop := digestMarksRow.holds Try.pinned (OpenSpec.ofChange digestMarksSpec)

/-- ITS FALSE NEIGHBOUR: 'it returns false'. Refute it at one input. -/
def digestMarksWrong : ChangeSpec := { name := "digestMarks", fn := fun _ => fun
  | [d1, d2, d3] => { results := [.lit (.bool false)], args := [d1, d2, d3] }
  | _ => none }
def DigestMarksWrongFalsely : Prop := digestMarksRow.holds Try.pinned (OpenSpec.ofChange digestMarksWrong)

/-- 'indeliblelaw03.DigestOne': WHATEVER THE INPUT: true; the input reads as it did. -/
def digestOneSpec : ChangeSpec := { name := "digestOne", fn := fun _ => fun
  | [d1, d2, d3] => { results := [.lit (.bool true)], args := [d1, d2, d3] }
  | _ => none }
def digestOneRow : OpenClaim := { program := "ytlmaofibdjmkeaa", sum := "9729c890044b2447130135b3a459d994279c09e774c942b4283656dfe5091f58", func := "indelible/indeliblelaw03.DigestOne", spec := "digestOne", unfollowed := true, recurses := true, apart := false }
def DigestOneSaid : Prop := digestOneRow.holds Try.pinned (OpenSpec.ofChange digestOneSpec)

/-- ITS FALSE NEIGHBOUR: 'it returns false'. Refute it at one input. -/
def digestOneWrong : ChangeSpec := { name := "digestOne", fn := fun _ => fun
  | [d1, d2, d3] => { results := [.lit (.bool false)], args := [d1, d2, d3] }
  | _ => none }
def DigestOneWrongFalsely : Prop := digestOneRow.holds Try.pinned (OpenSpec.ofChange digestOneWrong)

/-- 'indeliblelaw03.DigestTrees': WHATEVER THE INPUT: true; the input reads as it did. -/
def digestTreesSpec : ChangeSpec := { name := "digestTrees", fn := fun _ => fun
  | [d1, d2] => { results := [.lit (.bool true)], args := [d1, d2] }
  | _ => none }
def digestTreesRow : OpenClaim := { program := "ytlmaofibdjmkeaa", sum := "9729c890044b2447130135b3a459d994279c09e774c942b4283656dfe5091f58", func := "indelible/indeliblelaw03.DigestTrees", spec := "digestTrees", unfollowed := true, recurses := true, apart := false }
def DigestTreesSaid : Prop := digestTreesRow.holds Try.pinned (OpenSpec.ofChange digestTreesSpec)

/-- ITS FALSE NEIGHBOUR: 'it returns false'. Refute it at one input. -/
def digestTreesWrong : ChangeSpec := { name := "digestTrees", fn := fun _ => fun
  | [d1, d2] => { results := [.lit (.bool false)], args := [d1, d2] }
  | _ => none }
def DigestTreesWrongFalsely : Prop := digestTreesRow.holds Try.pinned (OpenSpec.ofChange digestTreesWrong)

/-- 'indeliblelaw03.DigestVerifies': WHATEVER THE INPUT: true; the input reads as it did. -/
def digestVerifiesSpec : ChangeSpec := { name := "digestVerifies", fn := fun _ => fun
  | [d1, d2, d3, d4] => { results := [.lit (.bool true)], args := [d1, d2, d3, d4] }
  | _ => none }
def digestVerifiesRow : OpenClaim := { program := "ytlmaofibdjmkeaa", sum := "9729c890044b2447130135b3a459d994279c09e774c942b4283656dfe5091f58", func := "indelible/indeliblelaw03.DigestVerifies", spec := "digestVerifies", unfollowed := true, recurses := true, apart := false }
def DigestVerifiesSaid : Prop := digestVerifiesRow.holds Try.pinned (OpenSpec.ofChange digestVerifiesSpec)

/-- ITS FALSE NEIGHBOUR: 'it returns false'. Refute it at one input. -/
def digestVerifiesWrong : ChangeSpec := { name := "digestVerifies", fn := fun _ => fun
  | [d1, d2, d3, d4] => { results := [.lit (.bool false)], args := [d1, d2, d3, d4] }
  | _ => none }
def DigestVerifiesWrongFalsely : Prop := digestVerifiesRow.holds Try.pinned (OpenSpec.ofChange digestVerifiesWrong)

/-- 'indeliblelaw03.DigestProves': WHATEVER THE INPUT: true; the input reads as it did. -/
def digestProvesSpec : ChangeSpec := { name := "digestProves", fn := fun _ => fun
  | [d1, d2, d3] => { results := [.lit (.bool true)], args := [d1, d2, d3] }
  | _ => none }
def digestProvesRow : OpenClaim := { program := "ytlmaofibdjmkeaa", sum := "9729c890044b2447130135b3a459d994279c09e774c942b4283656dfe5091f58", func := "indelible/indeliblelaw03.DigestProves", spec := "digestProves", unfollowed := true, recurses := true, apart := false }
def DigestProvesSaid : Prop := digestProvesRow.holds Try.pinned (OpenSpec.ofChange digestProvesSpec)

/-- ITS FALSE NEIGHBOUR: 'it returns false'. Refute it at one input. -/
def digestProvesWrong : ChangeSpec := { name := "digestProves", fn := fun _ => fun
  | [d1, d2, d3] => { results := [.lit (.bool false)], args := [d1, d2, d3] }
  | _ => none }
def DigestProvesWrongFalsely : Prop := digestProvesRow.holds Try.pinned (OpenSpec.ofChange digestProvesWrong)

/-- 'indeliblelaw03.DigestGrows': WHATEVER THE INPUT: true; the input reads as it did. -/
def digestGrowsSpec : ChangeSpec := { name := "digestGrows", fn := fun _ => fun
  | [d1, d2, d3] => { results := [.lit (.bool true)], args := [d1, d2, d3] }
  | _ => none }
def digestGrowsRow : OpenClaim := { program := "ytlmaofibdjmkeaa", sum := "9729c890044b2447130135b3a459d994279c09e774c942b4283656dfe5091f58", func := "indelible/indeliblelaw03.DigestGrows", spec := "digestGrows", unfollowed := true, recurses := true, apart := false }
def DigestGrowsSaid : Prop := digestGrowsRow.holds Try.pinned (OpenSpec.ofChange digestGrowsSpec)

/-- ITS FALSE NEIGHBOUR: 'it returns false'. Refute it at one input. -/
def digestGrowsWrong : ChangeSpec := { name := "digestGrows", fn := fun _ => fun
  | [d1, d2, d3] => { results := [.lit (.bool false)], args := [d1, d2, d3] }
  | _ => none }
def DigestGrowsWrongFalsely : Prop := digestGrowsRow.holds Try.pinned (OpenSpec.ofChange digestGrowsWrong)

/- THE SECOND FORM. 'bulk': how many values and letters a reading holds, each counted each time it is reached (what is shared counts as often as it is met; a slice's spare places count too). A statement '..UptoSaid' is the law's where the arguments, and the package variables that the reading takes, are together of bulk at most 1048576: NARROWER than '..Said'. Prove '..Said' where nothing that the law and all that it calls make is longer than what came in: it says more and counts as full. Else prove '..UptoSaid'. A law counts once. -/
mutual
def uptoBulk {H : Type} : DataW H → Nat
  | .lit (.string bytes) => bytes.length + 1
  | .lit _ => 1
  | .nil => 1
  | .ptr d => uptoBulk d + 1
  | .slice elems spare => uptoBulkAll elems + uptoBulkAll spare + 1
  | .agg parts => uptoBulkAll parts + 1
  | .iface _ d => uptoBulk d + 1
  | .map entries => uptoBulkEntries entries + 1
  | .held _ => 1
def uptoBulkAll {H : Type} : List (DataW H) → Nat
  | [] => 0
  | d :: r => uptoBulk d + uptoBulkAll r
def uptoBulkEntries {H : Type} : List (Lit × DataW H) → Nat
  | [] => 0
  | x :: r => uptoBulkEntry x + uptoBulkEntries r
def uptoBulkEntry {H : Type} : Lit × DataW H → Nat
  | (.string bytes, d) => bytes.length + uptoBulk d + 1
  | (_, d) => uptoBulk d + 1
 end
def uptoSmall : (H : Type) → List (DataW H) → Bool := fun _ ds => decide (uptoBulkAll ds ≤ 1048576)
def OpenSpec.upto (s : _root_.Go.ChangeSpec) : _root_.Go.OpenSpec := { _root_.Go.OpenSpec.ofChange s with cond := some uptoSmall }

/-- 'indeliblelaw03.DigestOf', WHERE WHAT IT READS IS OF BULK AT MOST 1048576: true; the input reads as it did. -/
def digestOfUptoRow : OpenClaim := { program := "ytlmaofibdjmkeaa", sum := "9729c890044b2447130135b3a459d994279c09e774c942b4283656dfe5091f58", func := "indelible/indeliblelaw03.DigestOf", spec := "digestOf", unfollowed := true, recurses := true, apart := false, narrowed := true }
def DigestOfUptoSaid : Prop := digestOfUptoRow.holds Try.pinned (OpenSpec.upto digestOfSpec)

/-- 'indeliblelaw03.DigestMarks', WHERE WHAT IT READS IS OF BULK AT MOST 1048576: true; the input reads as it did. -/
def digestMarksUptoRow : OpenClaim := { program := "ytlmaofibdjmkeaa", sum := "9729c890044b2447130135b3a459d994279c09e774c942b4283656dfe5091f58", func := "indelible/indeliblelaw03.DigestMarks", spec := "digestMarks", unfollowed := true, recurses := true, apart := false, narrowed := true }
def DigestMarksUptoSaid : Prop := digestMarksUptoRow.holds Try.pinned (OpenSpec.upto digestMarksSpec)

/-- 'indeliblelaw03.DigestOne', WHERE WHAT IT READS IS OF BULK AT MOST 1048576: true; the input reads as it did. -/
def digestOneUptoRow : OpenClaim := { program := "ytlmaofibdjmkeaa", sum := "9729c890044b2447130135b3a459d994279c09e774c942b4283656dfe5091f58", func := "indelible/indeliblelaw03.DigestOne", spec := "digestOne", unfollowed := true, recurses := true, apart := false, narrowed := true }
def DigestOneUptoSaid : Prop := digestOneUptoRow.holds Try.pinned (OpenSpec.upto digestOneSpec)

/-- 'indeliblelaw03.DigestTrees', WHERE WHAT IT READS IS OF BULK AT MOST 1048576: true; the input reads as it did. -/
def digestTreesUptoRow : OpenClaim := { program := "ytlmaofibdjmkeaa", sum := "9729c890044b2447130135b3a459d994279c09e774c942b4283656dfe5091f58", func := "indelible/indeliblelaw03.DigestTrees", spec := "digestTrees", unfollowed := true, recurses := true, apart := false, narrowed := true }
def DigestTreesUptoSaid : Prop := digestTreesUptoRow.holds Try.pinned (OpenSpec.upto digestTreesSpec)

/-- 'indeliblelaw03.DigestVerifies', WHERE WHAT IT READS IS OF BULK AT MOST 1048576: true; the input reads as it did. -/
def digestVerifiesUptoRow : OpenClaim := { program := "ytlmaofibdjmkeaa", sum := "9729c890044b2447130135b3a459d994279c09e774c942b4283656dfe5091f58", func := "indelible/indeliblelaw03.DigestVerifies", spec := "digestVerifies", unfollowed := true, recurses := true, apart := false, narrowed := true }
def DigestVerifiesUptoSaid : Prop := digestVerifiesUptoRow.holds Try.pinned (OpenSpec.upto digestVerifiesSpec)

/-- 'indeliblelaw03.DigestProves', WHERE WHAT IT READS IS OF BULK AT MOST 1048576: true; the input reads as it did. -/
def digestProvesUptoRow : OpenClaim := { program := "ytlmaofibdjmkeaa", sum := "9729c890044b2447130135b3a459d994279c09e774c942b4283656dfe5091f58", func := "indelible/indeliblelaw03.DigestProves", spec := "digestProves", unfollowed := true, recurses := true, apart := false, narrowed := true }
def DigestProvesUptoSaid : Prop := digestProvesUptoRow.holds Try.pinned (OpenSpec.upto digestProvesSpec)

/-- 'indeliblelaw03.DigestGrows', WHERE WHAT IT READS IS OF BULK AT MOST 1048576: true; the input reads as it did. -/
def digestGrowsUptoRow : OpenClaim := { program := "ytlmaofibdjmkeaa", sum := "9729c890044b2447130135b3a459d994279c09e774c942b4283656dfe5091f58", func := "indelible/indeliblelaw03.DigestGrows", spec := "digestGrows", unfollowed := true, recurses := true, apart := false, narrowed := true }
def DigestGrowsUptoSaid : Prop := digestGrowsUptoRow.holds Try.pinned (OpenSpec.upto digestGrowsSpec)

end Rows
end Go.Proofs.Ytlmaofibdjmkeaa
