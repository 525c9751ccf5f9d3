/-
  No cell of these rows narrows 'for every input' (looked for: loops, veiled, ifaces, maps, wideKeys, modest, calm, conditions, laid).
  DERIVED. THE GIVEN ROWS OF THIS SEAT. 7 by the template 'for every input the law returns true; each argument reads behind the call as it read before'; 0 by the template 'total and deterministic' (their statements: YtidbjccfkembeaaTotals.lean).
  GIVEN WITH THE SEED: the statements are not yours to turn. If you find one false, say at which input.
  Laid BY PROGRAM, IN A SANDBOX (cutbox-rows.mjs): the forced cells as the released guide's own fill.sh prints them over the translation facd9ca43d5c334d… (all of the seat's roots in one cut). By AI agents, Wed Nov 11 2026. No macro, syntax, notation, axiom, sorry.
-/
import Derived.Test.YtidbjccfkembeaaChecked
import GoSem.Claim
import GoSem.ClaimJoined
import GoSem.ClaimMapViews
import Derived.JoinedTies
import Derived.KernelRfl
namespace Go.Proofs.Ytidbjccfkembeaa
/- THE CELL 'sum', in the pinned program and in every row, IS THE sha256 OF THE DUMP (.gsa) THAT YtidbjccfkembeaaProg.lean LOADS. Nothing in Lean hashes anything: it is a label: what it is worth is what the hold of that sum in a sandbox is worth. -/
noncomputable def Try.pinned : Pinned := { name := "ytidbjccfkembeaa", sum := "facd9ca43d5c334d9b079d46b28f04e1c6b5417fdd4f72cf468822b8b824a3e9", checked := Try.checked }
namespace Rows
def none {H : Type} : Left H := { results := [], args := [] }

/-- 'indeliblelaw02.WireWrites': WHATEVER THE INPUT: true; the input reads as it did. -/
def wireWritesSpec : ChangeSpec := { name := "wireWrites", fn := fun _ => fun
  | [d1, d2] => { results := [.lit (.bool true)], args := [d1, d2] }
  | _ => none }
def wireWritesRow : OpenClaim := { program := "ytidbjccfkembeaa", sum := "facd9ca43d5c334d9b079d46b28f04e1c6b5417fdd4f72cf468822b8b824a3e9", func := "indelible/indeliblelaw02.WireWrites", spec := "wireWrites", inPlace := ["internal/abi.NoEscape"], unfollowed := true, recurses := true, apart := false }
def WireWritesSaid : Prop := wireWritesRow.holds Try.pinned (OpenSpec.ofChange wireWritesSpec)

/-- ITS FALSE NEIGHBOUR: 'it returns false'. Refute it at one input. -/
def wireWritesWrong : ChangeSpec := { name := "wireWrites", fn := fun _ => fun
  | [d1, d2] => { results := [.lit (.bool false)], args := [d1, d2] }
  | _ => none }
def WireWritesWrongFalsely : Prop := wireWritesRow.holds Try.pinned (OpenSpec.ofChange wireWritesWrong)

/-- 'indeliblelaw02.WireReads': WHATEVER THE INPUT: true; the input reads as it did. -/
def wireReadsSpec : ChangeSpec := { name := "wireReads", fn := fun _ => fun
  | [d1, d2] => { results := [.lit (.bool true)], args := [d1, d2] }
  | _ => none }
def wireReadsRow : OpenClaim := { program := "ytidbjccfkembeaa", sum := "facd9ca43d5c334d9b079d46b28f04e1c6b5417fdd4f72cf468822b8b824a3e9", func := "indelible/indeliblelaw02.WireReads", spec := "wireReads", inPlace := ["internal/abi.NoEscape"], unfollowed := true, recurses := true, apart := false }
def WireReadsSaid : Prop := wireReadsRow.holds Try.pinned (OpenSpec.ofChange wireReadsSpec)

/-- ITS FALSE NEIGHBOUR: 'it returns false'. Refute it at one input. -/
def wireReadsWrong : ChangeSpec := { name := "wireReads", fn := fun _ => fun
  | [d1, d2] => { results := [.lit (.bool false)], args := [d1, d2] }
  | _ => none }
def WireReadsWrongFalsely : Prop := wireReadsRow.holds Try.pinned (OpenSpec.ofChange wireReadsWrong)

/-- 'indeliblelaw02.WireInverse': WHATEVER THE INPUT: true; the input reads as it did. -/
def wireInverseSpec : ChangeSpec := { name := "wireInverse", fn := fun _ => fun
  | [d] => { results := [.lit (.bool true)], args := [d] }
  | _ => none }
def wireInverseRow : OpenClaim := { program := "ytidbjccfkembeaa", sum := "facd9ca43d5c334d9b079d46b28f04e1c6b5417fdd4f72cf468822b8b824a3e9", func := "indelible/indeliblelaw02.WireInverse", spec := "wireInverse", inPlace := ["internal/abi.NoEscape"], unfollowed := true, recurses := true, apart := false }
def WireInverseSaid : Prop := wireInverseRow.holds Try.pinned (OpenSpec.ofChange wireInverseSpec)

/-- ITS FALSE NEIGHBOUR: 'it returns false'. Refute it at one input. -/
def wireInverseWrong : ChangeSpec := { name := "wireInverse", fn := fun _ => fun
  | [d] => { results := [.lit (.bool false)], args := [d] }
  | _ => none }
def WireInverseWrongFalsely : Prop := wireInverseRow.holds Try.pinned (OpenSpec.ofChange wireInverseWrong)

/-- 'indeliblelaw02.WireCanonical': WHATEVER THE INPUT: true; the input reads as it did. -/
def wireCanonicalSpec : ChangeSpec := { name := "wireCanonical", fn := fun _ => fun
  | [d] => { results := [.lit (.bool true)], args := [d] }
  | _ => none }
def wireCanonicalRow : OpenClaim := { program := "ytidbjccfkembeaa", sum := "facd9ca43d5c334d9b079d46b28f04e1c6b5417fdd4f72cf468822b8b824a3e9", func := "indelible/indeliblelaw02.WireCanonical", spec := "wireCanonical", inPlace := ["internal/abi.NoEscape"], unfollowed := true, recurses := true, apart := false }
def WireCanonicalSaid : Prop := wireCanonicalRow.holds Try.pinned (OpenSpec.ofChange wireCanonicalSpec)

/-- ITS FALSE NEIGHBOUR: 'it returns false'. Refute it at one input. -/
def wireCanonicalWrong : ChangeSpec := { name := "wireCanonical", fn := fun _ => fun
  | [d] => { results := [.lit (.bool false)], args := [d] }
  | _ => none }
def WireCanonicalWrongFalsely : Prop := wireCanonicalRow.holds Try.pinned (OpenSpec.ofChange wireCanonicalWrong)

/-- 'indeliblelaw02.WireTruncated': WHATEVER THE INPUT: true; the input reads as it did. -/
def wireTruncatedSpec : ChangeSpec := { name := "wireTruncated", fn := fun _ => fun
  | [d1, d2] => { results := [.lit (.bool true)], args := [d1, d2] }
  | _ => none }
def wireTruncatedRow : OpenClaim := { program := "ytidbjccfkembeaa", sum := "facd9ca43d5c334d9b079d46b28f04e1c6b5417fdd4f72cf468822b8b824a3e9", func := "indelible/indeliblelaw02.WireTruncated", spec := "wireTruncated", inPlace := ["internal/abi.NoEscape"], unfollowed := true, recurses := true, apart := false }
def WireTruncatedSaid : Prop := wireTruncatedRow.holds Try.pinned (OpenSpec.ofChange wireTruncatedSpec)

/-- ITS FALSE NEIGHBOUR: 'it returns false'. Refute it at one input. -/
def wireTruncatedWrong : ChangeSpec := { name := "wireTruncated", fn := fun _ => fun
  | [d1, d2] => { results := [.lit (.bool false)], args := [d1, d2] }
  | _ => none }
def WireTruncatedWrongFalsely : Prop := wireTruncatedRow.holds Try.pinned (OpenSpec.ofChange wireTruncatedWrong)

/-- 'indeliblelaw02.WirePrefix': WHATEVER THE INPUT: true; the input reads as it did. -/
def wirePrefixSpec : ChangeSpec := { name := "wirePrefix", fn := fun _ => fun
  | [d1, d2] => { results := [.lit (.bool true)], args := [d1, d2] }
  | _ => none }
def wirePrefixRow : OpenClaim := { program := "ytidbjccfkembeaa", sum := "facd9ca43d5c334d9b079d46b28f04e1c6b5417fdd4f72cf468822b8b824a3e9", func := "indelible/indeliblelaw02.WirePrefix", spec := "wirePrefix", inPlace := ["internal/abi.NoEscape"], unfollowed := true, recurses := true, apart := false }
def WirePrefixSaid : Prop := wirePrefixRow.holds Try.pinned (OpenSpec.ofChange wirePrefixSpec)

/-- ITS FALSE NEIGHBOUR: 'it returns false'. Refute it at one input. -/
def wirePrefixWrong : ChangeSpec := { name := "wirePrefix", fn := fun _ => fun
  | [d1, d2] => { results := [.lit (.bool false)], args := [d1, d2] }
  | _ => none }
def WirePrefixWrongFalsely : Prop := wirePrefixRow.holds Try.pinned (OpenSpec.ofChange wirePrefixWrong)

/-- 'indeliblelaw02.WireNothing': WHATEVER THE INPUT: true; the input reads as it did. -/
def wireNothingSpec : ChangeSpec := { name := "wireNothing", fn := fun _ => fun
  | [d] => { results := [.lit (.bool true)], args := [d] }
  | _ => none }
def wireNothingRow : OpenClaim := { program := "ytidbjccfkembeaa", sum := "facd9ca43d5c334d9b079d46b28f04e1c6b5417fdd4f72cf468822b8b824a3e9", func := "indelible/indeliblelaw02.WireNothing", spec := "wireNothing", inPlace := ["internal/abi.NoEscape"], unfollowed := true, recurses := true, apart := false }
def WireNothingSaid : Prop := wireNothingRow.holds Try.pinned (OpenSpec.ofChange wireNothingSpec)

/-- ITS FALSE NEIGHBOUR: 'it returns false'. Refute it at one input. -/
def wireNothingWrong : ChangeSpec := { name := "wireNothing", fn := fun _ => fun
  | [d] => { results := [.lit (.bool false)], args := [d] }
  | _ => none }
def WireNothingWrongFalsely : Prop := wireNothingRow.holds Try.pinned (OpenSpec.ofChange wireNothingWrong)

/- THE SECOND FORM. 'bulk': how many values and letters a reading holds, each counted each time it is reached (what is shared counts as often as it is met; a slice's spare places count too). A statement '..UptoSaid' is the law's where the arguments, and the package variables that the reading takes, are together of bulk at most 1048576: NARROWER than '..Said'. Prove '..Said' where nothing that the law and all that it calls make is longer than what came in: it says more and counts as full. Else prove '..UptoSaid'. A law counts once. -/
mutual
def uptoBulk {H : Type} : DataW H → Nat
  | .lit (.string bytes) => bytes.length + 1
  | .lit _ => 1
  | .nil => 1
  | .ptr d => uptoBulk d + 1
  | .slice elems spare => uptoBulkAll elems + uptoBulkAll spare + 1
  | .agg parts => uptoBulkAll parts + 1
  | .iface _ d => uptoBulk d + 1
  | .map entries => uptoBulkEntries entries + 1
  | .held _ => 1
def uptoBulkAll {H : Type} : List (DataW H) → Nat
  | [] => 0
  | d :: r => uptoBulk d + uptoBulkAll r
def uptoBulkEntries {H : Type} : List (Lit × DataW H) → Nat
  | [] => 0
  | x :: r => uptoBulkEntry x + uptoBulkEntries r
def uptoBulkEntry {H : Type} : Lit × DataW H → Nat
  | (.string bytes, d) => bytes.length + uptoBulk d + 1
  | (_, d) => uptoBulk d + 1
 end
def uptoSmall : (H : Type) → List (DataW H) → Bool := fun _ ds => decide (uptoBulkAll ds ≤ 1048576)
def OpenSpec.upto (s : _root_.Go.ChangeSpec) : _root_.Go.OpenSpec := { _root_.Go.OpenSpec.ofChange s with cond := some uptoSmall }

/-- 'indeliblelaw02.WireWrites', WHERE WHAT IT READS IS OF BULK AT MOST 1048576: true; the input reads as it did. -/
def wireWritesUptoRow : OpenClaim := { program := "ytidbjccfkembeaa", sum := "facd9ca43d5c334d9b079d46b28f04e1c6b5417fdd4f72cf468822b8b824a3e9", func := "indelible/indeliblelaw02.WireWrites", spec := "wireWrites", inPlace := ["internal/abi.NoEscape"], unfollowed := true, recurses := true, apart := false, narrowed := true }
def WireWritesUptoSaid : Prop := wireWritesUptoRow.holds Try.pinned (OpenSpec.upto wireWritesSpec)

/-- 'indeliblelaw02.WireReads', WHERE WHAT IT READS IS OF BULK AT MOST 1048576: true; the input reads as it did. -/
def wireReadsUptoRow : OpenClaim := { program := "ytidbjccfkembeaa", sum := "facd9ca43d5c334d9b079d46b28f04e1c6b5417fdd4f72cf468822b8b824a3e9", func := "indelible/indeliblelaw02.WireReads", spec := "wireReads", inPlace := ["internal/abi.NoEscape"], unfollowed := true, recurses := true, apart := false, narrowed := true }
def WireReadsUptoSaid : Prop := wireReadsUptoRow.holds Try.pinned (OpenSpec.upto wireReadsSpec)

/-- 'indeliblelaw02.WireInverse', WHERE WHAT IT READS IS OF BULK AT MOST 1048576: true; the input reads as it did. -/
def wireInverseUptoRow : OpenClaim := { program := "ytidbjccfkembeaa", sum := "facd9ca43d5c334d9b079d46b28f04e1c6b5417fdd4f72cf468822b8b824a3e9", func := "indelible/indeliblelaw02.WireInverse", spec := "wireInverse", inPlace := ["internal/abi.NoEscape"], unfollowed := true, recurses := true, apart := false, narrowed := true }
def WireInverseUptoSaid : Prop := wireInverseUptoRow.holds Try.pinned (OpenSpec.upto wireInverseSpec)

/-- 'indeliblelaw02.WireCanonical', WHERE WHAT IT READS IS OF BULK AT MOST 1048576: true; the input reads as it did. -/
def wireCanonicalUptoRow : OpenClaim := { program := "ytidbjccfkembeaa", sum := "facd9ca43d5c334d9b079d46b28f04e1c6b5417fdd4f72cf468822b8b824a3e9", func := "indelible/indeliblelaw02.WireCanonical", spec := "wireCanonical", inPlace := ["internal/abi.NoEscape"], unfollowed := true, recurses := true, apart := false, narrowed := true }
def WireCanonicalUptoSaid : Prop := wireCanonicalUptoRow.holds Try.pinned (OpenSpec.upto wireCanonicalSpec)

/-- 'indeliblelaw02.WireTruncated', WHERE WHAT IT READS IS OF BULK AT MOST 1048576: true; the input reads as it did. -/
def wireTruncatedUptoRow : OpenClaim := { program := "ytidbjccfkembeaa", sum := "facd9ca43d5c334d9b079d46b28f04e1c6b5417fdd4f72cf468822b8b824a3e9", func := "indelible/indeliblelaw02.WireTruncated", spec := "wireTruncated", inPlace := ["internal/abi.NoEscape"], unfollowed := true, recurses := true, apart := false, narrowed := true }
def WireTruncatedUptoSaid : Prop := wireTruncatedUptoRow.holds Try.pinned (OpenSpec.upto wireTruncatedSpec)

/-- 'indeliblelaw02.WirePrefix', WHERE WHAT IT READS IS OF BULK AT MOST 1048576: true; the input reads as it did. -/
def wirePrefixUptoRow : OpenClaim := { program := "ytidbjccfkembeaa", sum := "facd9ca43d5c334d9b079d46b28f04e1c6b5417fdd4f72cf468822b8b824a3e9", func := "indelible/indeliblelaw02.WirePrefix", spec := "wirePrefix", inPlace := ["internal/abi.NoEscape"], unfollowed := true, recurses := true, apart := false, narrowed := true }
def WirePrefixUptoSaid : Prop := wirePrefixUptoRow.holds Try.pinned (OpenSpec.upto wirePrefixSpec)

/-- 'indeliblelaw02.WireNothing', WHERE WHAT IT READS IS OF BULK AT MOST 1048576: true; the input reads as it did. -/
def wireNothingUptoRow : OpenClaim := { program := "ytidbjccfkembeaa", sum := "facd9ca43d5c334d9b079d46b28f04e1c6b5417fdd4f72cf468822b8b824a3e9", func := "indelible/indeliblelaw02.WireNothing", spec := "wireNothing", inPlace := ["internal/abi.NoEscape"], unfollowed := true, recurses := true, apart := false, narrowed := true }
def WireNothingUptoSaid : Prop := wireNothingUptoRow.holds Try.pinned (OpenSpec.upto wireNothingSpec)

end Rows
end Go.Proofs.Ytidbjccfkembeaa
