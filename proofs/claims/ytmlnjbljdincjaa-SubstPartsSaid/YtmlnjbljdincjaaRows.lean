/-
  No cell of these rows narrows 'for every input' (looked for: loops, veiled, ifaces, maps, wideKeys, modest, calm, conditions, laid).
  DERIVED. THE GIVEN ROWS OF THIS SEAT. 5 by the template 'for every input the law returns true; each argument reads behind the call as it read before'; 0 by the template 'total and deterministic' (their statements: YtmlnjbljdincjaaTotals.lean).
  GIVEN WITH THE SEED: the statements are not yours to turn. If you find one false, say at which input.
  Laid BY PROGRAM, IN A SANDBOX (cutbox-rows.mjs): the forced cells as the released guide's own fill.sh prints them over the translation 95a0ebc02fd928ac… (all of the seat's roots in one cut). By AI agents, Wed Nov 11 2026. No macro, syntax, notation, axiom, sorry.
-/
import Derived.Test.YtmlnjbljdincjaaChecked
import GoSem.Claim
import GoSem.ClaimJoined
import GoSem.ClaimMapViews
import Derived.JoinedTies
import Derived.KernelRfl
namespace Go.Proofs.Ytmlnjbljdincjaa
/- THE CELL 'sum', in the pinned program and in every row, IS THE sha256 OF THE DUMP (.gsa) THAT YtmlnjbljdincjaaProg.lean LOADS. Nothing in Lean hashes anything: it is a label: what it is worth is what the hold of that sum in a sandbox is worth. -/
noncomputable def Try.pinned : Pinned := { name := "ytmlnjbljdincjaa", sum := "95a0ebc02fd928acebdc4f25a714a03a84f6fe45411a952df045ed893143d394", checked := Try.checked }
namespace Rows
def none {H : Type} : Left H := { results := [], args := [] }

/-- 'indeliblelaw13.SubstChecks': WHATEVER THE INPUT: true; the input reads as it did. -/
def substChecksSpec : ChangeSpec := { name := "substChecks", fn := fun _ => fun
  | [d1, d2, d3] => { results := [.lit (.bool true)], args := [d1, d2, d3] }
  | _ => none }
def substChecksRow : OpenClaim := { program := "ytmlnjbljdincjaa", sum := "95a0ebc02fd928acebdc4f25a714a03a84f6fe45411a952df045ed893143d394", func := "indelible/indeliblelaw13.SubstChecks", spec := "substChecks", unfollowed := true, recurses := true, apart := false }
def SubstChecksSaid : Prop := substChecksRow.holds Try.pinned (OpenSpec.ofChange substChecksSpec)

/-- ITS FALSE NEIGHBOUR: 'it returns false'. Refute it at one input. -/
def substChecksWrong : ChangeSpec := { name := "substChecks", fn := fun _ => fun
  | [d1, d2, d3] => { results := [.lit (.bool false)], args := [d1, d2, d3] }
  | _ => none }
def SubstChecksWrongFalsely : Prop := substChecksRow.holds Try.pinned (OpenSpec.ofChange substChecksWrong)

/-- 'indeliblelaw13.SubstApplies': WHATEVER THE INPUT: true; the input reads as it did. -/
def substAppliesSpec : ChangeSpec := { name := "substApplies", fn := fun _ => fun
  | [d1, d2, d3] => { results := [.lit (.bool true)], args := [d1, d2, d3] }
  | _ => none }
def substAppliesRow : OpenClaim := { program := "ytmlnjbljdincjaa", sum := "95a0ebc02fd928acebdc4f25a714a03a84f6fe45411a952df045ed893143d394", func := "indelible/indeliblelaw13.SubstApplies", spec := "substApplies", unfollowed := true, recurses := true, apart := false }
def SubstAppliesSaid : Prop := substAppliesRow.holds Try.pinned (OpenSpec.ofChange substAppliesSpec)

/-- ITS FALSE NEIGHBOUR: 'it returns false'. Refute it at one input. -/
def substAppliesWrong : ChangeSpec := { name := "substApplies", fn := fun _ => fun
  | [d1, d2, d3] => { results := [.lit (.bool false)], args := [d1, d2, d3] }
  | _ => none }
def SubstAppliesWrongFalsely : Prop := substAppliesRow.holds Try.pinned (OpenSpec.ofChange substAppliesWrong)

/-- 'indeliblelaw13.SubstStands': WHATEVER THE INPUT: true; the input reads as it did. -/
def substStandsSpec : ChangeSpec := { name := "substStands", fn := fun _ => fun
  | [d1, d2] => { results := [.lit (.bool true)], args := [d1, d2] }
  | _ => none }
def substStandsRow : OpenClaim := { program := "ytmlnjbljdincjaa", sum := "95a0ebc02fd928acebdc4f25a714a03a84f6fe45411a952df045ed893143d394", func := "indelible/indeliblelaw13.SubstStands", spec := "substStands", unfollowed := true, recurses := true, apart := false }
def SubstStandsSaid : Prop := substStandsRow.holds Try.pinned (OpenSpec.ofChange substStandsSpec)

/-- ITS FALSE NEIGHBOUR: 'it returns false'. Refute it at one input. -/
def substStandsWrong : ChangeSpec := { name := "substStands", fn := fun _ => fun
  | [d1, d2] => { results := [.lit (.bool false)], args := [d1, d2] }
  | _ => none }
def SubstStandsWrongFalsely : Prop := substStandsRow.holds Try.pinned (OpenSpec.ofChange substStandsWrong)

/-- 'indeliblelaw13.SubstChains': WHATEVER THE INPUT: true; the input reads as it did. -/
def substChainsSpec : ChangeSpec := { name := "substChains", fn := fun _ => fun
  | [d1, d2, d3] => { results := [.lit (.bool true)], args := [d1, d2, d3] }
  | _ => none }
def substChainsRow : OpenClaim := { program := "ytmlnjbljdincjaa", sum := "95a0ebc02fd928acebdc4f25a714a03a84f6fe45411a952df045ed893143d394", func := "indelible/indeliblelaw13.SubstChains", spec := "substChains", unfollowed := true, recurses := true, apart := false }
def SubstChainsSaid : Prop := substChainsRow.holds Try.pinned (OpenSpec.ofChange substChainsSpec)

/-- ITS FALSE NEIGHBOUR: 'it returns false'. Refute it at one input. -/
def substChainsWrong : ChangeSpec := { name := "substChains", fn := fun _ => fun
  | [d1, d2, d3] => { results := [.lit (.bool false)], args := [d1, d2, d3] }
  | _ => none }
def SubstChainsWrongFalsely : Prop := substChainsRow.holds Try.pinned (OpenSpec.ofChange substChainsWrong)

/-- 'indeliblelaw13.SubstParts': WHATEVER THE INPUT: true; the input reads as it did. -/
def substPartsSpec : ChangeSpec := { name := "substParts", fn := fun _ => fun
  | [d1, d2, d3] => { results := [.lit (.bool true)], args := [d1, d2, d3] }
  | _ => none }
def substPartsRow : OpenClaim := { program := "ytmlnjbljdincjaa", sum := "95a0ebc02fd928acebdc4f25a714a03a84f6fe45411a952df045ed893143d394", func := "indelible/indeliblelaw13.SubstParts", spec := "substParts", unfollowed := true, recurses := true, apart := false }
def SubstPartsSaid : Prop := substPartsRow.holds Try.pinned (OpenSpec.ofChange substPartsSpec)

/-- ITS FALSE NEIGHBOUR: 'it returns false'. Refute it at one input. -/
def substPartsWrong : ChangeSpec := { name := "substParts", fn := fun _ => fun
  | [d1, d2, d3] => { results := [.lit (.bool false)], args := [d1, d2, d3] }
  | _ => none }
def SubstPartsWrongFalsely : Prop := substPartsRow.holds Try.pinned (OpenSpec.ofChange substPartsWrong)

/- THE SECOND FORM. 'bulk': how many values and letters a reading holds, each counted each time it is reached (what is shared counts as often as it is met; a slice's spare places count too). A statement '..UptoSaid' is the law's where the arguments, and the package variables that the reading takes, are together of bulk at most 1048576: NARROWER than '..Said'. Prove '..Said' where nothing that the law and all that it calls make is longer than what came in: it says more and counts as full. Else prove '..UptoSaid'. A law counts once. -/
mutual
def uptoBulk {H : Type} : DataW H → Nat
  | .lit (.string bytes) => bytes.length + 1
  | .lit _ => 1
  | .nil => 1
  | .ptr d => uptoBulk d + 1
  | .slice elems spare => uptoBulkAll elems + uptoBulkAll spare + 1
  | .agg parts => uptoBulkAll parts + 1
  | .iface _ d => uptoBulk d + 1
  | .map entries => uptoBulkEntries entries + 1
  | .held _ => 1
def uptoBulkAll {H : Type} : List (DataW H) → Nat
  | [] => 0
  | d :: r => uptoBulk d + uptoBulkAll r
def uptoBulkEntries {H : Type} : List (Lit × DataW H) → Nat
  | [] => 0
  | x :: r => uptoBulkEntry x + uptoBulkEntries r
def uptoBulkEntry {H : Type} : Lit × DataW H → Nat
  | (.string bytes, d) => bytes.length + uptoBulk d + 1
  | (_, d) => uptoBulk d + 1
 end
def uptoSmall : (H : Type) → List (DataW H) → Bool := fun _ ds => decide (uptoBulkAll ds ≤ 1048576)
def OpenSpec.upto (s : _root_.Go.ChangeSpec) : _root_.Go.OpenSpec := { _root_.Go.OpenSpec.ofChange s with cond := some uptoSmall }

/-- 'indeliblelaw13.SubstChecks', WHERE WHAT IT READS IS OF BULK AT MOST 1048576: true; the input reads as it did. -/
def substChecksUptoRow : OpenClaim := { program := "ytmlnjbljdincjaa", sum := "95a0ebc02fd928acebdc4f25a714a03a84f6fe45411a952df045ed893143d394", func := "indelible/indeliblelaw13.SubstChecks", spec := "substChecks", unfollowed := true, recurses := true, apart := false, narrowed := true }
def SubstChecksUptoSaid : Prop := substChecksUptoRow.holds Try.pinned (OpenSpec.upto substChecksSpec)

/-- 'indeliblelaw13.SubstApplies', WHERE WHAT IT READS IS OF BULK AT MOST 1048576: true; the input reads as it did. -/
def substAppliesUptoRow : OpenClaim := { program := "ytmlnjbljdincjaa", sum := "95a0ebc02fd928acebdc4f25a714a03a84f6fe45411a952df045ed893143d394", func := "indelible/indeliblelaw13.SubstApplies", spec := "substApplies", unfollowed := true, recurses := true, apart := false, narrowed := true }
def SubstAppliesUptoSaid : Prop := substAppliesUptoRow.holds Try.pinned (OpenSpec.upto substAppliesSpec)

/-- 'indeliblelaw13.SubstStands', WHERE WHAT IT READS IS OF BULK AT MOST 1048576: true; the input reads as it did. -/
def substStandsUptoRow : OpenClaim := { program := "ytmlnjbljdincjaa", sum := "95a0ebc02fd928acebdc4f25a714a03a84f6fe45411a952df045ed893143d394", func := "indelible/indeliblelaw13.SubstStands", spec := "substStands", unfollowed := true, recurses := true, apart := false, narrowed := true }
def SubstStandsUptoSaid : Prop := substStandsUptoRow.holds Try.pinned (OpenSpec.upto substStandsSpec)

/-- 'indeliblelaw13.SubstChains', WHERE WHAT IT READS IS OF BULK AT MOST 1048576: true; the input reads as it did. -/
def substChainsUptoRow : OpenClaim := { program := "ytmlnjbljdincjaa", sum := "95a0ebc02fd928acebdc4f25a714a03a84f6fe45411a952df045ed893143d394", func := "indelible/indeliblelaw13.SubstChains", spec := "substChains", unfollowed := true, recurses := true, apart := false, narrowed := true }
def SubstChainsUptoSaid : Prop := substChainsUptoRow.holds Try.pinned (OpenSpec.upto substChainsSpec)

/-- 'indeliblelaw13.SubstParts', WHERE WHAT IT READS IS OF BULK AT MOST 1048576: true; the input reads as it did. -/
def substPartsUptoRow : OpenClaim := { program := "ytmlnjbljdincjaa", sum := "95a0ebc02fd928acebdc4f25a714a03a84f6fe45411a952df045ed893143d394", func := "indelible/indeliblelaw13.SubstParts", spec := "substParts", unfollowed := true, recurses := true, apart := false, narrowed := true }
def SubstPartsUptoSaid : Prop := substPartsUptoRow.holds Try.pinned (OpenSpec.upto substPartsSpec)

end Rows
end Go.Proofs.Ytmlnjbljdincjaa
