/-
  No cell of these rows narrows 'for every input' (looked for: loops, veiled, ifaces, maps, wideKeys, modest, calm, conditions, laid).
  DERIVED. THE GIVEN ROWS OF THIS SEAT. 6 by the template 'for every input the law returns true; each argument reads behind the call as it read before'; 0 by the template 'total and deterministic' (their statements: YtfbgbbbfpkpfkaaTotals.lean).
  GIVEN WITH THE SEED: the statements are not yours to turn. If you find one false, say at which input.
  Laid BY PROGRAM, IN A SANDBOX (cutbox-rows.mjs): the forced cells as the released guide's own fill.sh prints them over the translation e2bcd4b8775e542b… (all of the seat's roots in one cut). By AI agents, Wed Nov 11 2026. No macro, syntax, notation, axiom, sorry.
-/
import Derived.Test.YtfbgbbbfpkpfkaaChecked
import GoSem.Claim
import GoSem.ClaimJoined
import GoSem.ClaimMapViews
import Derived.JoinedTies
import Derived.KernelRfl
namespace Go.Proofs.Ytfbgbbbfpkpfkaa
/- THE CELL 'sum', in the pinned program and in every row, IS THE sha256 OF THE DUMP (.gsa) THAT YtfbgbbbfpkpfkaaProg.lean LOADS. Nothing in Lean hashes anything: it is a label: what it is worth is what the hold of that sum in a sandbox is worth. -/
noncomputable def Try.pinned : Pinned := { name := "ytfbgbbbfpkpfkaa", sum := "e2bcd4b8775e542b1da6497d4ffe26fa0940dad314a5e66b02cbe67a205f31a1", checked := Try.checked }
namespace Rows
def none {H : Type} : Left H := { results := [], args := [] }

/-- 'indeliblelaw14.StreamWaits': WHATEVER THE INPUT: true; the input reads as it did. -/
def streamWaitsSpec : ChangeSpec := { name := "streamWaits", fn := fun _ => fun
  | [d1, d2] => { results := [.lit (.bool true)], args := [d1, d2] }
  | _ => none }
def streamWaitsRow : OpenClaim := { program := "ytfbgbbbfpkpfkaa", sum := "e2bcd4b8775e542b1da6497d4ffe26fa0940dad314a5e66b02cbe67a205f31a1", func := "indelible/indeliblelaw14.StreamWaits", spec := "streamWaits", unfollowed := true, recurses := true, apart := false }
def StreamWaitsSaid : Prop := streamWaitsRow.holds Try.pinned (OpenSpec.ofChange streamWaitsSpec)

/-- ITS FALSE NEIGHBOUR: 'it returns false'. Refute it at one input. -/
def streamWaitsWrong : ChangeSpec := { name := "streamWaits", fn := fun _ => fun
  | [d1, d2] => { results := [.lit (.bool false)], args := [d1, d2] }
  | _ => none }
def StreamWaitsWrongFalsely : Prop := streamWaitsRow.holds Try.pinned (OpenSpec.ofChange streamWaitsWrong)

/-- 'indeliblelaw14.StreamChains': WHATEVER THE INPUT: true; the input reads as it did. -/
def streamChainsSpec : ChangeSpec := { name := "streamChains", fn := fun _ => fun
  | [d1, d2, d3] => { results := [.lit (.bool true)], args := [d1, d2, d3] }
  | _ => none }
def streamChainsRow : OpenClaim := { program := "ytfbgbbbfpkpfkaa", sum := "e2bcd4b8775e542b1da6497d4ffe26fa0940dad314a5e66b02cbe67a205f31a1", func := "indelible/indeliblelaw14.StreamChains", spec := "streamChains", unfollowed := true, recurses := true, apart := false }
def StreamChainsSaid : Prop := streamChainsRow.holds Try.pinned (OpenSpec.ofChange streamChainsSpec)

/-- ITS FALSE NEIGHBOUR: 'it returns false'. Refute it at one input. -/
def streamChainsWrong : ChangeSpec := { name := "streamChains", fn := fun _ => fun
  | [d1, d2, d3] => { results := [.lit (.bool false)], args := [d1, d2, d3] }
  | _ => none }
def StreamChainsWrongFalsely : Prop := streamChainsRow.holds Try.pinned (OpenSpec.ofChange streamChainsWrong)

/-- 'indeliblelaw14.StreamPrefix': WHATEVER THE INPUT: true; the input reads as it did. -/
def streamPrefixSpec : ChangeSpec := { name := "streamPrefix", fn := fun _ => fun
  | [d1, d2, d3, d4] => { results := [.lit (.bool true)], args := [d1, d2, d3, d4] }
  | _ => none }
def streamPrefixRow : OpenClaim := { program := "ytfbgbbbfpkpfkaa", sum := "e2bcd4b8775e542b1da6497d4ffe26fa0940dad314a5e66b02cbe67a205f31a1", func := "indelible/indeliblelaw14.StreamPrefix", spec := "streamPrefix", unfollowed := true, recurses := true, apart := false }
def StreamPrefixSaid : Prop := streamPrefixRow.holds Try.pinned (OpenSpec.ofChange streamPrefixSpec)

/-- ITS FALSE NEIGHBOUR: 'it returns false'. Refute it at one input. -/
def streamPrefixWrong : ChangeSpec := { name := "streamPrefix", fn := fun _ => fun
  | [d1, d2, d3, d4] => { results := [.lit (.bool false)], args := [d1, d2, d3, d4] }
  | _ => none }
def StreamPrefixWrongFalsely : Prop := streamPrefixRow.holds Try.pinned (OpenSpec.ofChange streamPrefixWrong)

/-- 'indeliblelaw14.StreamSteps': WHATEVER THE INPUT: true; the input reads as it did. -/
def streamStepsSpec : ChangeSpec := { name := "streamSteps", fn := fun _ => fun
  | [d1, d2, d3, d4] => { results := [.lit (.bool true)], args := [d1, d2, d3, d4] }
  | _ => none }
def streamStepsRow : OpenClaim := { program := "ytfbgbbbfpkpfkaa", sum := "e2bcd4b8775e542b1da6497d4ffe26fa0940dad314a5e66b02cbe67a205f31a1", func := "indelible/indeliblelaw14.StreamSteps", spec := "streamSteps", inPlace := ["internal/abi.NoEscape"], unfollowed := true, recurses := true, apart := false }
def StreamStepsSaid : Prop := streamStepsRow.holds Try.pinned (OpenSpec.ofChange streamStepsSpec)

/-- ITS FALSE NEIGHBOUR: 'it returns false'. Refute it at one input. -/
def streamStepsWrong : ChangeSpec := { name := "streamSteps", fn := fun _ => fun
  | [d1, d2, d3, d4] => { results := [.lit (.bool false)], args := [d1, d2, d3, d4] }
  | _ => none }
def StreamStepsWrongFalsely : Prop := streamStepsRow.holds Try.pinned (OpenSpec.ofChange streamStepsWrong)

/-- 'indeliblelaw14.StreamKeys': WHATEVER THE INPUT: true; the input reads as it did. -/
def streamKeysSpec : ChangeSpec := { name := "streamKeys", fn := fun _ => fun
  | [d1, d2, d3, d4] => { results := [.lit (.bool true)], args := [d1, d2, d3, d4] }
  | _ => none }
def streamKeysRow : OpenClaim := { program := "ytfbgbbbfpkpfkaa", sum := "e2bcd4b8775e542b1da6497d4ffe26fa0940dad314a5e66b02cbe67a205f31a1", func := "indelible/indeliblelaw14.StreamKeys", spec := "streamKeys", inPlace := ["internal/abi.NoEscape"], unfollowed := true, recurses := true, apart := false }
def StreamKeysSaid : Prop := streamKeysRow.holds Try.pinned (OpenSpec.ofChange streamKeysSpec)

/-- ITS FALSE NEIGHBOUR: 'it returns false'. Refute it at one input. -/
def streamKeysWrong : ChangeSpec := { name := "streamKeys", fn := fun _ => fun
  | [d1, d2, d3, d4] => { results := [.lit (.bool false)], args := [d1, d2, d3, d4] }
  | _ => none }
def StreamKeysWrongFalsely : Prop := streamKeysRow.holds Try.pinned (OpenSpec.ofChange streamKeysWrong)

/-- 'indeliblelaw14.StreamApplies': WHATEVER THE INPUT: true; the input reads as it did. -/
def streamAppliesSpec : ChangeSpec := { name := "streamApplies", fn := fun _ => fun
  | [d1, d2] => { results := [.lit (.bool true)], args := [d1, d2] }
  | _ => none }
def streamAppliesRow : OpenClaim := { program := "ytfbgbbbfpkpfkaa", sum := "e2bcd4b8775e542b1da6497d4ffe26fa0940dad314a5e66b02cbe67a205f31a1", func := "indelible/indeliblelaw14.StreamApplies", spec := "streamApplies", unfollowed := true, recurses := true, apart := false }
def StreamAppliesSaid : Prop := streamAppliesRow.holds Try.pinned (OpenSpec.ofChange streamAppliesSpec)

/-- ITS FALSE NEIGHBOUR: 'it returns false'. Refute it at one input. -/
def streamAppliesWrong : ChangeSpec := { name := "streamApplies", fn := fun _ => fun
  | [d1, d2] => { results := [.lit (.bool false)], args := [d1, d2] }
  | _ => none }
def StreamAppliesWrongFalsely : Prop := streamAppliesRow.holds Try.pinned (OpenSpec.ofChange streamAppliesWrong)

/- THE SECOND FORM. 'bulk': how many values and letters a reading holds, each counted each time it is reached (what is shared counts as often as it is met; a slice's spare places count too). A statement '..UptoSaid' is the law's where the arguments, and the package variables that the reading takes, are together of bulk at most 1048576: NARROWER than '..Said'. Prove '..Said' where nothing that the law and all that it calls make is longer than what came in: it says more and counts as full. Else prove '..UptoSaid'. A law counts once. -/
mutual
def uptoBulk {H : Type} : DataW H → Nat
  | .lit (.string bytes) => bytes.length + 1
  | .lit _ => 1
  | .nil => 1
  | .ptr d => uptoBulk d + 1
  | .slice elems spare => uptoBulkAll elems + uptoBulkAll spare + 1
  | .agg parts => uptoBulkAll parts + 1
  | .iface _ d => uptoBulk d + 1
  | .map entries => uptoBulkEntries entries + 1
  | .held _ => 1
def uptoBulkAll {H : Type} : List (DataW H) → Nat
  | [] => 0
  | d :: r => uptoBulk d + uptoBulkAll r
def uptoBulkEntries {H : Type} : List (Lit × DataW H) → Nat
  | [] => 0
  | x :: r => uptoBulkEntry x + uptoBulkEntries r
def uptoBulkEntry {H : Type} : Lit × DataW H → Nat
  | (.string bytes, d) => bytes.length + uptoBulk d + 1
  | (_, d) => uptoBulk d + 1
 end
def uptoSmall : (H : Type) → List (DataW H) → Bool := fun _ ds => decide (uptoBulkAll ds ≤ 1048576)
def OpenSpec.upto (s : _root_.Go.ChangeSpec) : _root_.Go.OpenSpec := { _root_.Go.OpenSpec.ofChange s with cond := some uptoSmall }

/-- 'indeliblelaw14.StreamWaits', WHERE WHAT IT READS IS OF BULK AT MOST 1048576: true; the input reads as it did. -/
def streamWaitsUptoRow : OpenClaim := { program := "ytfbgbbbfpkpfkaa", sum := "e2bcd4b8775e542b1da6497d4ffe26fa0940dad314a5e66b02cbe67a205f31a1", func := "indelible/indeliblelaw14.StreamWaits", spec := "streamWaits", unfollowed := true, recurses := true, apart := false, narrowed := true }
def StreamWaitsUptoSaid : Prop := streamWaitsUptoRow.holds Try.pinned (OpenSpec.upto streamWaitsSpec)

/-- 'indeliblelaw14.StreamChains', WHERE WHAT IT READS IS OF BULK AT MOST 1048576: true; the input reads as it did. -/
def streamChainsUptoRow : OpenClaim := { program := "ytfbgbbbfpkpfkaa", sum := "e2bcd4b8775e542b1da6497d4ffe26fa0940dad314a5e66b02cbe67a205f31a1", func := "indelible/indeliblelaw14.StreamChains", spec := "streamChains", unfollowed := true, recurses := true, apart := false, narrowed := true }
def StreamChainsUptoSaid : Prop := streamChainsUptoRow.holds Try.pinned (OpenSpec.upto streamChainsSpec)

/-- 'indeliblelaw14.StreamPrefix', WHERE WHAT IT READS IS OF BULK AT MOST 1048576: true; the input reads as it did. -/
def streamPrefixUptoRow : OpenClaim := { program := "ytfbgbbbfpkpfkaa", sum := "e2bcd4b8775e542b1da6497d4ffe26fa0940dad314a5e66b02cbe67a205f31a1", func := "indelible/indeliblelaw14.StreamPrefix", spec := "streamPrefix", unfollowed := true, recurses := true, apart := false, narrowed := true }
def StreamPrefixUptoSaid : Prop := streamPrefixUptoRow.holds Try.pinned (OpenSpec.upto streamPrefixSpec)

/-- 'indeliblelaw14.StreamSteps', WHERE WHAT IT READS IS OF BULK AT MOST 1048576: true; the input reads as it did. -/
def streamStepsUptoRow : OpenClaim := { program := "ytfbgbbbfpkpfkaa", sum := "e2bcd4b8775e542b1da6497d4ffe26fa0940dad314a5e66b02cbe67a205f31a1", func := "indelible/indeliblelaw14.StreamSteps", spec := "streamSteps", inPlace := ["internal/abi.NoEscape"], unfollowed := true, recurses := true, apart := false, narrowed := true }
def StreamStepsUptoSaid : Prop := streamStepsUptoRow.holds Try.pinned (OpenSpec.upto streamStepsSpec)

/-- 'indeliblelaw14.StreamKeys', WHERE WHAT IT READS IS OF BULK AT MOST 1048576: true; the input reads as it did. -/
def streamKeysUptoRow : OpenClaim := { program := "ytfbgbbbfpkpfkaa", sum := "e2bcd4b8775e542b1da6497d4ffe26fa0940dad314a5e66b02cbe67a205f31a1", func := "indelible/indeliblelaw14.StreamKeys", spec := "streamKeys", inPlace := ["internal/abi.NoEscape"], unfollowed := true, recurses := true, apart := false, narrowed := true }
def StreamKeysUptoSaid : Prop := streamKeysUptoRow.holds Try.pinned (OpenSpec.upto streamKeysSpec)

/-- 'indeliblelaw14.StreamApplies', WHERE WHAT IT READS IS OF BULK AT MOST 1048576: true; the input reads as it did. -/
def streamAppliesUptoRow : OpenClaim := { program := "ytfbgbbbfpkpfkaa", sum := "e2bcd4b8775e542b1da6497d4ffe26fa0940dad314a5e66b02cbe67a205f31a1", func := "indelible/indeliblelaw14.StreamApplies", spec := "streamApplies", unfollowed := true, recurses := true, apart := false, narrowed := true }
def StreamAppliesUptoSaid : Prop := streamAppliesUptoRow.holds Try.pinned (OpenSpec.upto streamAppliesSpec)

end Rows
end Go.Proofs.Ytfbgbbbfpkpfkaa
