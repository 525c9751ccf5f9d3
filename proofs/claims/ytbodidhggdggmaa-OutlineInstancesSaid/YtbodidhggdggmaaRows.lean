/-
  No cell of these rows narrows 'for every input' (looked for: loops, veiled, ifaces, maps, wideKeys, modest, calm, conditions, laid).
  DERIVED. THE GIVEN ROWS OF THIS SEAT. 6 by the template 'for every input the law returns true; each argument reads behind the call as it read before'; 0 by the template 'total and deterministic' (their statements: YtbodidhggdggmaaTotals.lean).
  GIVEN WITH THE SEED: the statements are not yours to turn. If you find one false, say at which input.
  Laid BY PROGRAM, IN A SANDBOX (cutbox-rows.mjs): the forced cells as the released guide's own fill.sh prints them over the translation 4b782009f0a8bcb7… (all of the seat's roots in one cut). By AI agents, Wed Nov 11 2026. No macro, syntax, notation, axiom, sorry.
-/
import Derived.Test.YtbodidhggdggmaaChecked
import GoSem.Claim
import GoSem.ClaimJoined
import GoSem.ClaimMapViews
import Derived.JoinedTies
import Derived.KernelRfl
namespace Go.Proofs.Ytbodidhggdggmaa
/- THE CELL 'sum', in the pinned program and in every row, IS THE sha256 OF THE DUMP (.gsa) THAT YtbodidhggdggmaaProg.lean LOADS. Nothing in Lean hashes anything: it is a label: what it is worth is what the hold of that sum in a sandbox is worth. -/
noncomputable def Try.pinned : Pinned := { name := "ytbodidhggdggmaa", sum := "4b782009f0a8bcb75d362ac79866b8c15b30a42d2058933297450128ce71f1c4", checked := Try.checked }
namespace Rows
def none {H : Type} : Left H := { results := [], args := [] }

/-- 'indeliblelaw06.OutlineChecks': WHATEVER THE INPUT: true; the input reads as it did. -/
def outlineChecksSpec : ChangeSpec := { name := "outlineChecks", fn := fun _ => fun
  | [d1, d2, d3] => { results := [.lit (.bool true)], args := [d1, d2, d3] }
  | _ => none }
def outlineChecksRow : OpenClaim := { program := "ytbodidhggdggmaa", sum := "4b782009f0a8bcb75d362ac79866b8c15b30a42d2058933297450128ce71f1c4", func := "indelible/indeliblelaw06.OutlineChecks", spec := "outlineChecks", unfollowed := true, recurses := true, apart := false }
def OutlineChecksSaid : Prop := outlineChecksRow.holds Try.pinned (OpenSpec.ofChange outlineChecksSpec)

/-- ITS FALSE NEIGHBOUR: 'it returns false'. Refute it at one input. -/
def outlineChecksWrong : ChangeSpec := { name := "outlineChecks", fn := fun _ => fun
  | [d1, d2, d3] => { results := [.lit (.bool false)], args := [d1, d2, d3] }
  | _ => none }
def OutlineChecksWrongFalsely : Prop := outlineChecksRow.holds Try.pinned (OpenSpec.ofChange outlineChecksWrong)

/-- 'indeliblelaw06.OutlineInstances': WHATEVER THE INPUT: true; the input reads as it did. -/
def outlineInstancesSpec : ChangeSpec := { name := "outlineInstances", fn := fun _ => fun
  | [d1, d2, d3] => { results := [.lit (.bool true)], args := [d1, d2, d3] }
  | _ => none }
def outlineInstancesRow : OpenClaim := { program := "ytbodidhggdggmaa", sum := "4b782009f0a8bcb75d362ac79866b8c15b30a42d2058933297450128ce71f1c4", func := "indelible/indeliblelaw06.OutlineInstances", spec := "outlineInstances", unfollowed := true, recurses := true, apart := false }
def OutlineInstancesSaid : Prop := outlineInstancesRow.holds Try.pinned (OpenSpec.ofChange outlineInstancesSpec)

/-- ITS FALSE NEIGHBOUR: 'it returns false'. Refute it at one input. -/
def outlineInstancesWrong : ChangeSpec := { name := "outlineInstances", fn := fun _ => fun
  | [d1, d2, d3] => { results := [.lit (.bool false)], args := [d1, d2, d3] }
  | _ => none }
def OutlineInstancesWrongFalsely : Prop := outlineInstancesRow.holds Try.pinned (OpenSpec.ofChange outlineInstancesWrong)

/-- 'indeliblelaw06.OutlineFlats': WHATEVER THE INPUT: true; the input reads as it did. -/
def outlineFlatsSpec : ChangeSpec := { name := "outlineFlats", fn := fun _ => fun
  | [d] => { results := [.lit (.bool true)], args := [d] }
  | _ => none }
def outlineFlatsRow : OpenClaim := { program := "ytbodidhggdggmaa", sum := "4b782009f0a8bcb75d362ac79866b8c15b30a42d2058933297450128ce71f1c4", func := "indelible/indeliblelaw06.OutlineFlats", spec := "outlineFlats", unfollowed := true, recurses := true, apart := false }
def OutlineFlatsSaid : Prop := outlineFlatsRow.holds Try.pinned (OpenSpec.ofChange outlineFlatsSpec)

/-- ITS FALSE NEIGHBOUR: 'it returns false'. Refute it at one input. -/
def outlineFlatsWrong : ChangeSpec := { name := "outlineFlats", fn := fun _ => fun
  | [d] => { results := [.lit (.bool false)], args := [d] }
  | _ => none }
def OutlineFlatsWrongFalsely : Prop := outlineFlatsRow.holds Try.pinned (OpenSpec.ofChange outlineFlatsWrong)

/-- 'indeliblelaw06.OutlineStill': WHATEVER THE INPUT: true; the input reads as it did. -/
def outlineStillSpec : ChangeSpec := { name := "outlineStill", fn := fun _ => fun
  | [d] => { results := [.lit (.bool true)], args := [d] }
  | _ => none }
def outlineStillRow : OpenClaim := { program := "ytbodidhggdggmaa", sum := "4b782009f0a8bcb75d362ac79866b8c15b30a42d2058933297450128ce71f1c4", func := "indelible/indeliblelaw06.OutlineStill", spec := "outlineStill", unfollowed := true, recurses := true, apart := false }
def OutlineStillSaid : Prop := outlineStillRow.holds Try.pinned (OpenSpec.ofChange outlineStillSpec)

/-- ITS FALSE NEIGHBOUR: 'it returns false'. Refute it at one input. -/
def outlineStillWrong : ChangeSpec := { name := "outlineStill", fn := fun _ => fun
  | [d] => { results := [.lit (.bool false)], args := [d] }
  | _ => none }
def OutlineStillWrongFalsely : Prop := outlineStillRow.holds Try.pinned (OpenSpec.ofChange outlineStillWrong)

/-- 'indeliblelaw06.OutlineMoves': WHATEVER THE INPUT: true; the input reads as it did. -/
def outlineMovesSpec : ChangeSpec := { name := "outlineMoves", fn := fun _ => fun
  | [d1, d2, d3, d4] => { results := [.lit (.bool true)], args := [d1, d2, d3, d4] }
  | _ => none }
def outlineMovesRow : OpenClaim := { program := "ytbodidhggdggmaa", sum := "4b782009f0a8bcb75d362ac79866b8c15b30a42d2058933297450128ce71f1c4", func := "indelible/indeliblelaw06.OutlineMoves", spec := "outlineMoves", unfollowed := true, recurses := true, apart := false }
def OutlineMovesSaid : Prop := outlineMovesRow.holds Try.pinned (OpenSpec.ofChange outlineMovesSpec)

/-- ITS FALSE NEIGHBOUR: 'it returns false'. Refute it at one input. -/
def outlineMovesWrong : ChangeSpec := { name := "outlineMoves", fn := fun _ => fun
  | [d1, d2, d3, d4] => { results := [.lit (.bool false)], args := [d1, d2, d3, d4] }
  | _ => none }
def OutlineMovesWrongFalsely : Prop := outlineMovesRow.holds Try.pinned (OpenSpec.ofChange outlineMovesWrong)

/-- 'indeliblelaw06.OutlineShifts': WHATEVER THE INPUT: true; the input reads as it did. -/
def outlineShiftsSpec : ChangeSpec := { name := "outlineShifts", fn := fun _ => fun
  | [d1, d2, d3, d4] => { results := [.lit (.bool true)], args := [d1, d2, d3, d4] }
  | _ => none }
def outlineShiftsRow : OpenClaim := { program := "ytbodidhggdggmaa", sum := "4b782009f0a8bcb75d362ac79866b8c15b30a42d2058933297450128ce71f1c4", func := "indelible/indeliblelaw06.OutlineShifts", spec := "outlineShifts", unfollowed := true, recurses := true, apart := false }
def OutlineShiftsSaid : Prop := outlineShiftsRow.holds Try.pinned (OpenSpec.ofChange outlineShiftsSpec)

/-- ITS FALSE NEIGHBOUR: 'it returns false'. Refute it at one input. -/
def outlineShiftsWrong : ChangeSpec := { name := "outlineShifts", fn := fun _ => fun
  | [d1, d2, d3, d4] => { results := [.lit (.bool false)], args := [d1, d2, d3, d4] }
  | _ => none }
def OutlineShiftsWrongFalsely : Prop := outlineShiftsRow.holds Try.pinned (OpenSpec.ofChange outlineShiftsWrong)

/- THE SECOND FORM. 'bulk': how many values and letters a reading holds, each counted each time it is reached (what is shared counts as often as it is met; a slice's spare places count too). A statement '..UptoSaid' is the law's where the arguments, and the package variables that the reading takes, are together of bulk at most 1048576: NARROWER than '..Said'. Prove '..Said' where nothing that the law and all that it calls make is longer than what came in: it says more and counts as full. Else prove '..UptoSaid'. A law counts once. -/
mutual
def uptoBulk {H : Type} : DataW H → Nat
  | .lit (.string bytes) => bytes.length + 1
  | .lit _ => 1
  | .nil => 1
  | .ptr d => uptoBulk d + 1
  | .slice elems spare => uptoBulkAll elems + uptoBulkAll spare + 1
  | .agg parts => uptoBulkAll parts + 1
  | .iface _ d => uptoBulk d + 1
  | .map entries => uptoBulkEntries entries + 1
  | .held _ => 1
def uptoBulkAll {H : Type} : List (DataW H) → Nat
  | [] => 0
  | d :: r => uptoBulk d + uptoBulkAll r
def uptoBulkEntries {H : Type} : List (Lit × DataW H) → Nat
  | [] => 0
  | x :: r => uptoBulkEntry x + uptoBulkEntries r
def uptoBulkEntry {H : Type} : Lit × DataW H → Nat
  | (.string bytes, d) => bytes.length + uptoBulk d + 1
  | (_, d) => uptoBulk d + 1
 end
def uptoSmall : (H : Type) → List (DataW H) → Bool := fun _ ds => decide (uptoBulkAll ds ≤ 1048576)
def OpenSpec.upto (s : _root_.Go.ChangeSpec) : _root_.Go.OpenSpec := { _root_.Go.OpenSpec.ofChange s with cond := some uptoSmall }

/-- 'indeliblelaw06.OutlineChecks', WHERE WHAT IT READS IS OF BULK AT MOST 1048576: true; the input reads as it did. -/
def outlineChecksUptoRow : OpenClaim := { program := "ytbodidhggdggmaa", sum := "4b782009f0a8bcb75d362ac79866b8c15b30a42d2058933297450128ce71f1c4", func := "indelible/indeliblelaw06.OutlineChecks", spec := "outlineChecks", unfollowed := true, recurses := true, apart := false, narrowed := true }
def OutlineChecksUptoSaid : Prop := outlineChecksUptoRow.holds Try.pinned (OpenSpec.upto outlineChecksSpec)

/-- 'indeliblelaw06.OutlineInstances', WHERE WHAT IT READS IS OF BULK AT MOST 1048576: true; the input reads as it did. -/
def outlineInstancesUptoRow : OpenClaim := { program := "ytbodidhggdggmaa", sum := "4b782009f0a8bcb75d362ac79866b8c15b30a42d2058933297450128ce71f1c4", func := "indelible/indeliblelaw06.OutlineInstances", spec := "outlineInstances", unfollowed := true, recurses := true, apart := false, narrowed := true }
def OutlineInstancesUptoSaid : Prop := outlineInstancesUptoRow.holds Try.pinned (OpenSpec.upto outlineInstancesSpec)

/-- 'indeliblelaw06.OutlineFlats', WHERE WHAT IT READS IS OF BULK AT MOST 1048576: true; the input reads as it did. -/
def outlineFlatsUptoRow : OpenClaim := { program := "ytbodidhggdggmaa", sum := "4b782009f0a8bcb75d362ac79866b8c15b30a42d2058933297450128ce71f1c4", func := "indelible/indeliblelaw06.OutlineFlats", spec := "outlineFlats", unfollowed := true, recurses := true, apart := false, narrowed := true }
def OutlineFlatsUptoSaid : Prop := outlineFlatsUptoRow.holds Try.pinned (OpenSpec.upto outlineFlatsSpec)

/-- 'indeliblelaw06.OutlineStill', WHERE WHAT IT READS IS OF BULK AT MOST 1048576: true; the input reads as it did. -/
def outlineStillUptoRow : OpenClaim := { program := "ytbodidhggdggmaa", sum := "4b782009f0a8bcb75d362ac79866b8c15b30a42d2058933297450128ce71f1c4", func := "indelible/indeliblelaw06.OutlineStill", spec := "outlineStill", unfollowed := true, recurses := true, apart := false, narrowed := true }
def OutlineStillUptoSaid : Prop := outlineStillUptoRow.holds Try.pinned (OpenSpec.upto outlineStillSpec)

/-- 'indeliblelaw06.OutlineMoves', WHERE WHAT IT READS IS OF BULK AT MOST 1048576: true; the input reads as it did. -/
def outlineMovesUptoRow : OpenClaim := { program := "ytbodidhggdggmaa", sum := "4b782009f0a8bcb75d362ac79866b8c15b30a42d2058933297450128ce71f1c4", func := "indelible/indeliblelaw06.OutlineMoves", spec := "outlineMoves", unfollowed := true, recurses := true, apart := false, narrowed := true }
def OutlineMovesUptoSaid : Prop := outlineMovesUptoRow.holds Try.pinned (OpenSpec.upto outlineMovesSpec)

/-- 'indeliblelaw06.OutlineShifts', WHERE WHAT IT READS IS OF BULK AT MOST 1048576: true; the input reads as it did. -/
def outlineShiftsUptoRow : OpenClaim := { program := "ytbodidhggdggmaa", sum := "4b782009f0a8bcb75d362ac79866b8c15b30a42d2058933297450128ce71f1c4", func := "indelible/indeliblelaw06.OutlineShifts", spec := "outlineShifts", unfollowed := true, recurses := true, apart := false, narrowed := true }
def OutlineShiftsUptoSaid : Prop := outlineShiftsUptoRow.holds Try.pinned (OpenSpec.upto outlineShiftsSpec)

end Rows
end Go.Proofs.Ytbodidhggdggmaa
