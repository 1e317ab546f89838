/-
  No cell of these rows narrows 'for every input' (looked for: loops, veiled, ifaces, maps, wideKeys, modest, calm, conditions, laid).
  DERIVED. THE GIVEN ROWS OF THIS SEAT. 8 by the template 'for every input the law returns true; each argument reads behind the call as it read before'; 0 by the template 'total and deterministic' (their statements: YtinoedockljfeaaTotals.lean).
  GIVEN WITH THE SEED: the statements are not yours to turn. If you find one false, say at which input.
  Laid BY PROGRAM, IN A SANDBOX (cutbox-rows.mjs): the forced cells as the released guide's own fill.sh prints them over the translation daccb8dc8aa01dda… (all of the seat's roots in one cut). By AI agents, Wed Nov 11 2026. No macro, syntax, notation, axiom, sorry.
-/
import Derived.Test.YtinoedockljfeaaChecked
import GoSem.Claim
import GoSem.ClaimJoined
import GoSem.ClaimMapViews
import Derived.JoinedTies
import Derived.KernelRfl
namespace Go.Proofs.Ytinoedockljfeaa
/- THE CELL 'sum', in the pinned program and in every row, IS THE sha256 OF THE DUMP (.gsa) THAT YtinoedockljfeaaProg.lean LOADS. Nothing in Lean hashes anything: it is a label: what it is worth is what the hold of that sum in a sandbox is worth. -/
noncomputable def Try.pinned : Pinned := { name := "ytinoedockljfeaa", sum := "daccb8dc8aa01ddae041037d2fc410120addb66f936eff3f9d2ab0f08aea547d", checked := Try.checked }
namespace Rows
def none {H : Type} : Left H := { results := [], args := [] }

/-- 'sandpilelaw12.ContractNumbers': WHATEVER THE INPUT: true; the input reads as it did. -/
def contractNumbersSpec : ChangeSpec := { name := "contractNumbers", fn := fun _ => fun
  | [d1, d2] => { results := [.lit (.bool true)], args := [d1, d2] }
  | _ => none }
def contractNumbersRow : OpenClaim := { program := "ytinoedockljfeaa", sum := "daccb8dc8aa01ddae041037d2fc410120addb66f936eff3f9d2ab0f08aea547d", func := "sandpile/sandpilelaw12.ContractNumbers", spec := "contractNumbers", unfollowed := true, recurses := true, plainKeys := false, apart := false }
def ContractNumbersSaid : Prop := contractNumbersRow.holds Try.pinned (OpenSpec.ofChange contractNumbersSpec)

/-- ITS FALSE NEIGHBOUR: 'it returns false'. Refute it at one input. -/
def contractNumbersWrong : ChangeSpec := { name := "contractNumbers", fn := fun _ => fun
  | [d1, d2] => { results := [.lit (.bool false)], args := [d1, d2] }
  | _ => none }
def ContractNumbersWrongFalsely : Prop := contractNumbersRow.holds Try.pinned (OpenSpec.ofChange contractNumbersWrong)

/-- 'sandpilelaw12.ContractCollects': WHATEVER THE INPUT: true; the input reads as it did. -/
def contractCollectsSpec : ChangeSpec := { name := "contractCollects", fn := fun _ => fun
  | [d1, d2, d3] => { results := [.lit (.bool true)], args := [d1, d2, d3] }
  | _ => none }
def contractCollectsRow : OpenClaim := { program := "ytinoedockljfeaa", sum := "daccb8dc8aa01ddae041037d2fc410120addb66f936eff3f9d2ab0f08aea547d", func := "sandpile/sandpilelaw12.ContractCollects", spec := "contractCollects", unfollowed := true, recurses := true, plainKeys := false, apart := false }
def ContractCollectsSaid : Prop := contractCollectsRow.holds Try.pinned (OpenSpec.ofChange contractCollectsSpec)

/-- ITS FALSE NEIGHBOUR: 'it returns false'. Refute it at one input. -/
def contractCollectsWrong : ChangeSpec := { name := "contractCollects", fn := fun _ => fun
  | [d1, d2, d3] => { results := [.lit (.bool false)], args := [d1, d2, d3] }
  | _ => none }
def ContractCollectsWrongFalsely : Prop := contractCollectsRow.holds Try.pinned (OpenSpec.ofChange contractCollectsWrong)

/-- 'sandpilelaw12.ContractCounts': WHATEVER THE INPUT: true; the input reads as it did. -/
def contractCountsSpec : ChangeSpec := { name := "contractCounts", fn := fun _ => fun
  | [d1, d2, d3] => { results := [.lit (.bool true)], args := [d1, d2, d3] }
  | _ => none }
def contractCountsRow : OpenClaim := { program := "ytinoedockljfeaa", sum := "daccb8dc8aa01ddae041037d2fc410120addb66f936eff3f9d2ab0f08aea547d", func := "sandpile/sandpilelaw12.ContractCounts", spec := "contractCounts", unfollowed := true, recurses := true, plainKeys := false, apart := false }
def ContractCountsSaid : Prop := contractCountsRow.holds Try.pinned (OpenSpec.ofChange contractCountsSpec)

/-- ITS FALSE NEIGHBOUR: 'it returns false'. Refute it at one input. -/
def contractCountsWrong : ChangeSpec := { name := "contractCounts", fn := fun _ => fun
  | [d1, d2, d3] => { results := [.lit (.bool false)], args := [d1, d2, d3] }
  | _ => none }
def ContractCountsWrongFalsely : Prop := contractCountsRow.holds Try.pinned (OpenSpec.ofChange contractCountsWrong)

/-- 'sandpilelaw12.ContractMoves': WHATEVER THE INPUT: true; the input reads as it did. -/
def contractMovesSpec : ChangeSpec := { name := "contractMoves", fn := fun _ => fun
  | [d1, d2] => { results := [.lit (.bool true)], args := [d1, d2] }
  | _ => none }
def contractMovesRow : OpenClaim := { program := "ytinoedockljfeaa", sum := "daccb8dc8aa01ddae041037d2fc410120addb66f936eff3f9d2ab0f08aea547d", func := "sandpile/sandpilelaw12.ContractMoves", spec := "contractMoves", unfollowed := true, recurses := true, plainKeys := false, apart := false }
def ContractMovesSaid : Prop := contractMovesRow.holds Try.pinned (OpenSpec.ofChange contractMovesSpec)

/-- ITS FALSE NEIGHBOUR: 'it returns false'. Refute it at one input. -/
def contractMovesWrong : ChangeSpec := { name := "contractMoves", fn := fun _ => fun
  | [d1, d2] => { results := [.lit (.bool false)], args := [d1, d2] }
  | _ => none }
def ContractMovesWrongFalsely : Prop := contractMovesRow.holds Try.pinned (OpenSpec.ofChange contractMovesWrong)

/-- 'sandpilelaw12.ContractRefines': WHATEVER THE INPUT: true; the input reads as it did. -/
def contractRefinesSpec : ChangeSpec := { name := "contractRefines", fn := fun _ => fun
  | [d1, d2, d3] => { results := [.lit (.bool true)], args := [d1, d2, d3] }
  | _ => none }
def contractRefinesRow : OpenClaim := { program := "ytinoedockljfeaa", sum := "daccb8dc8aa01ddae041037d2fc410120addb66f936eff3f9d2ab0f08aea547d", func := "sandpile/sandpilelaw12.ContractRefines", spec := "contractRefines", unfollowed := true, recurses := true, plainKeys := false, apart := false }
def ContractRefinesSaid : Prop := contractRefinesRow.holds Try.pinned (OpenSpec.ofChange contractRefinesSpec)

/-- ITS FALSE NEIGHBOUR: 'it returns false'. Refute it at one input. -/
def contractRefinesWrong : ChangeSpec := { name := "contractRefines", fn := fun _ => fun
  | [d1, d2, d3] => { results := [.lit (.bool false)], args := [d1, d2, d3] }
  | _ => none }
def ContractRefinesWrongFalsely : Prop := contractRefinesRow.holds Try.pinned (OpenSpec.ofChange contractRefinesWrong)

/-- 'sandpilelaw12.ContractDegrees': WHATEVER THE INPUT: true; the input reads as it did. -/
def contractDegreesSpec : ChangeSpec := { name := "contractDegrees", fn := fun _ => fun
  | [d1, d2, d3] => { results := [.lit (.bool true)], args := [d1, d2, d3] }
  | _ => none }
def contractDegreesRow : OpenClaim := { program := "ytinoedockljfeaa", sum := "daccb8dc8aa01ddae041037d2fc410120addb66f936eff3f9d2ab0f08aea547d", func := "sandpile/sandpilelaw12.ContractDegrees", spec := "contractDegrees", unfollowed := true, recurses := true, plainKeys := false, apart := false }
def ContractDegreesSaid : Prop := contractDegreesRow.holds Try.pinned (OpenSpec.ofChange contractDegreesSpec)

/-- ITS FALSE NEIGHBOUR: 'it returns false'. Refute it at one input. -/
def contractDegreesWrong : ChangeSpec := { name := "contractDegrees", fn := fun _ => fun
  | [d1, d2, d3] => { results := [.lit (.bool false)], args := [d1, d2, d3] }
  | _ => none }
def ContractDegreesWrongFalsely : Prop := contractDegreesRow.holds Try.pinned (OpenSpec.ofChange contractDegreesWrong)

/-- 'sandpilelaw12.ContractChanges': WHATEVER THE INPUT: true; the input reads as it did. -/
def contractChangesSpec : ChangeSpec := { name := "contractChanges", fn := fun _ => fun
  | [d1, d2, d3] => { results := [.lit (.bool true)], args := [d1, d2, d3] }
  | _ => none }
def contractChangesRow : OpenClaim := { program := "ytinoedockljfeaa", sum := "daccb8dc8aa01ddae041037d2fc410120addb66f936eff3f9d2ab0f08aea547d", func := "sandpile/sandpilelaw12.ContractChanges", spec := "contractChanges", unfollowed := true, recurses := true, plainKeys := false, apart := false }
def ContractChangesSaid : Prop := contractChangesRow.holds Try.pinned (OpenSpec.ofChange contractChangesSpec)

/-- ITS FALSE NEIGHBOUR: 'it returns false'. Refute it at one input. -/
def contractChangesWrong : ChangeSpec := { name := "contractChanges", fn := fun _ => fun
  | [d1, d2, d3] => { results := [.lit (.bool false)], args := [d1, d2, d3] }
  | _ => none }
def ContractChangesWrongFalsely : Prop := contractChangesRow.holds Try.pinned (OpenSpec.ofChange contractChangesWrong)

/-- 'sandpilelaw12.ContractOrders': WHATEVER THE INPUT: true; the input reads as it did. -/
def contractOrdersSpec : ChangeSpec := { name := "contractOrders", fn := fun _ => fun
  | [d1, d2, d3] => { results := [.lit (.bool true)], args := [d1, d2, d3] }
  | _ => none }
def contractOrdersRow : OpenClaim := { program := "ytinoedockljfeaa", sum := "daccb8dc8aa01ddae041037d2fc410120addb66f936eff3f9d2ab0f08aea547d", func := "sandpile/sandpilelaw12.ContractOrders", spec := "contractOrders", unfollowed := true, recurses := true, plainKeys := false, apart := false }
def ContractOrdersSaid : Prop := contractOrdersRow.holds Try.pinned (OpenSpec.ofChange contractOrdersSpec)

/-- ITS FALSE NEIGHBOUR: 'it returns false'. Refute it at one input. -/
def contractOrdersWrong : ChangeSpec := { name := "contractOrders", fn := fun _ => fun
  | [d1, d2, d3] => { results := [.lit (.bool false)], args := [d1, d2, d3] }
  | _ => none }
def ContractOrdersWrongFalsely : Prop := contractOrdersRow.holds Try.pinned (OpenSpec.ofChange contractOrdersWrong)

/- THE SECOND FORM. 'bulk': how many values and letters a reading holds, each counted each time it is reached (what is shared counts as often as it is met; a slice's spare places count too). A statement '..UptoSaid' is the law's where the arguments, and the package variables that the reading takes, are together of bulk at most 1048576: NARROWER than '..Said'. Prove '..Said' where nothing that the law and all that it calls make is longer than what came in: it says more and counts as full. Else prove '..UptoSaid'. A law counts once. -/
mutual
def uptoBulk {H : Type} : DataW H → Nat
  | .lit (.string bytes) => bytes.length + 1
  | .lit _ => 1
  | .nil => 1
  | .ptr d => uptoBulk d + 1
  | .slice elems spare => uptoBulkAll elems + uptoBulkAll spare + 1
  | .agg parts => uptoBulkAll parts + 1
  | .iface _ d => uptoBulk d + 1
  | .map entries => uptoBulkEntries entries + 1
  | .held _ => 1
def uptoBulkAll {H : Type} : List (DataW H) → Nat
  | [] => 0
  | d :: r => uptoBulk d + uptoBulkAll r
def uptoBulkEntries {H : Type} : List (Lit × DataW H) → Nat
  | [] => 0
  | x :: r => uptoBulkEntry x + uptoBulkEntries r
def uptoBulkEntry {H : Type} : Lit × DataW H → Nat
  | (.string bytes, d) => bytes.length + uptoBulk d + 1
  | (_, d) => uptoBulk d + 1
 end
def uptoSmall : (H : Type) → List (DataW H) → Bool := fun _ ds => decide (uptoBulkAll ds ≤ 1048576)
def OpenSpec.upto (s : _root_.Go.ChangeSpec) : _root_.Go.OpenSpec := { _root_.Go.OpenSpec.ofChange s with cond := some uptoSmall }

/-- 'sandpilelaw12.ContractNumbers', WHERE WHAT IT READS IS OF BULK AT MOST 1048576: true; the input reads as it did. -/
def contractNumbersUptoRow : OpenClaim := { program := "ytinoedockljfeaa", sum := "daccb8dc8aa01ddae041037d2fc410120addb66f936eff3f9d2ab0f08aea547d", func := "sandpile/sandpilelaw12.ContractNumbers", spec := "contractNumbers", unfollowed := true, recurses := true, plainKeys := false, apart := false, narrowed := true }
def ContractNumbersUptoSaid : Prop := contractNumbersUptoRow.holds Try.pinned (OpenSpec.upto contractNumbersSpec)

/-- 'sandpilelaw12.ContractCollects', WHERE WHAT IT READS IS OF BULK AT MOST 1048576: true; the input reads as it did. -/
def contractCollectsUptoRow : OpenClaim := { program := "ytinoedockljfeaa", sum := "daccb8dc8aa01ddae041037d2fc410120addb66f936eff3f9d2ab0f08aea547d", func := "sandpile/sandpilelaw12.ContractCollects", spec := "contractCollects", unfollowed := true, recurses := true, plainKeys := false, apart := false, narrowed := true }
def ContractCollectsUptoSaid : Prop := contractCollectsUptoRow.holds Try.pinned (OpenSpec.upto contractCollectsSpec)

/-- 'sandpilelaw12.ContractCounts', WHERE WHAT IT READS IS OF BULK AT MOST 1048576: true; the input reads as it did. -/
def contractCountsUptoRow : OpenClaim := { program := "ytinoedockljfeaa", sum := "daccb8dc8aa01ddae041037d2fc410120addb66f936eff3f9d2ab0f08aea547d", func := "sandpile/sandpilelaw12.ContractCounts", spec := "contractCounts", unfollowed := true, recurses := true, plainKeys := false, apart := false, narrowed := true }
def ContractCountsUptoSaid : Prop := contractCountsUptoRow.holds Try.pinned (OpenSpec.upto contractCountsSpec)

/-- 'sandpilelaw12.ContractMoves', WHERE WHAT IT READS IS OF BULK AT MOST 1048576: true; the input reads as it did. -/
def contractMovesUptoRow : OpenClaim := { program := "ytinoedockljfeaa", sum := "daccb8dc8aa01ddae041037d2fc410120addb66f936eff3f9d2ab0f08aea547d", func := "sandpile/sandpilelaw12.ContractMoves", spec := "contractMoves", unfollowed := true, recurses := true, plainKeys := false, apart := false, narrowed := true }
def ContractMovesUptoSaid : Prop := contractMovesUptoRow.holds Try.pinned (OpenSpec.upto contractMovesSpec)

/-- 'sandpilelaw12.ContractRefines', WHERE WHAT IT READS IS OF BULK AT MOST 1048576: true; the input reads as it did. -/
def contractRefinesUptoRow : OpenClaim := { program := "ytinoedockljfeaa", sum := "daccb8dc8aa01ddae041037d2fc410120addb66f936eff3f9d2ab0f08aea547d", func := "sandpile/sandpilelaw12.ContractRefines", spec := "contractRefines", unfollowed := true, recurses := true, plainKeys := false, apart := false, narrowed := true }
def ContractRefinesUptoSaid : Prop := contractRefinesUptoRow.holds Try.pinned (OpenSpec.upto contractRefinesSpec)

/-- 'sandpilelaw12.ContractDegrees', WHERE WHAT IT READS IS OF BULK AT MOST 1048576: true; the input reads as it did. -/
def contractDegreesUptoRow : OpenClaim := { program := "ytinoedockljfeaa", sum := "daccb8dc8aa01ddae041037d2fc410120addb66f936eff3f9d2ab0f08aea547d", func := "sandpile/sandpilelaw12.ContractDegrees", spec := "contractDegrees", unfollowed := true, recurses := true, plainKeys := false, apart := false, narrowed := true }
def ContractDegreesUptoSaid : Prop := contractDegreesUptoRow.holds Try.pinned (OpenSpec.upto contractDegreesSpec)

/-- 'sandpilelaw12.ContractChanges', WHERE WHAT IT READS IS OF BULK AT MOST 1048576: true; the input reads as it did. -/
def contractChangesUptoRow : OpenClaim := { program := "ytinoedockljfeaa", sum := "daccb8dc8aa01ddae041037d2fc410120addb66f936eff3f9d2ab0f08aea547d", func := "sandpile/sandpilelaw12.ContractChanges", spec := "contractChanges", unfollowed := true, recurses := true, plainKeys := false, apart := false, narrowed := true }
def ContractChangesUptoSaid : Prop := contractChangesUptoRow.holds Try.pinned (OpenSpec.upto contractChangesSpec)

/-- 'sandpilelaw12.ContractOrders', WHERE WHAT IT READS IS OF BULK AT MOST 1048576: true; the input reads as it did. -/
def contractOrdersUptoRow : OpenClaim := { program := "ytinoedockljfeaa", sum := "daccb8dc8aa01ddae041037d2fc410120addb66f936eff3f9d2ab0f08aea547d", func := "sandpile/sandpilelaw12.ContractOrders", spec := "contractOrders", unfollowed := true, recurses := true, plainKeys := false, apart := false, narrowed := true }
def ContractOrdersUptoSaid : Prop := contractOrdersUptoRow.holds Try.pinned (OpenSpec.upto contractOrdersSpec)

end Rows
end Go.Proofs.Ytinoedockljfeaa
