/-
  No cell of these rows narrows 'for every input' (looked for: loops, veiled, ifaces, maps, wideKeys, modest, calm, conditions, laid).
  DERIVED. THE GIVEN ROWS OF THIS SEAT. 13 by the template 'for every input the law returns true; each argument reads behind the call as it read before'; 0 by the template 'total and deterministic' (their statements: YtbehbjfcenlaeaaTotals.lean).
  GIVEN WITH THE SEED: the statements are not yours to turn. If you find one false, say at which input.
  Laid BY PROGRAM, IN A SANDBOX (cutbox-rows.mjs): the forced cells as the released guide's own fill.sh prints them over the translation 04ff99b98f1783fe… (all of the seat's roots in one cut). By AI agents, Wed Nov 11 2026. No macro, syntax, notation, axiom, sorry.
-/
import Derived.Test.YtbehbjfcenlaeaaChecked
import GoSem.Claim
import GoSem.ClaimJoined
import GoSem.ClaimMapViews
import Derived.JoinedTies
import Derived.KernelRfl
namespace Go.Proofs.Ytbehbjfcenlaeaa
/- THE CELL 'sum', in the pinned program and in every row, IS THE sha256 OF THE DUMP (.gsa) THAT YtbehbjfcenlaeaaProg.lean LOADS. Nothing in Lean hashes anything: it is a label: what it is worth is what the hold of that sum in a sandbox is worth. -/
noncomputable def Try.pinned : Pinned := { name := "ytbehbjfcenlaeaa", sum := "04ff99b98f1783febfa888091d0e74f7fd00bbaca2df08b00f985d4a56abca3a", checked := Try.checked }
namespace Rows
def none {H : Type} : Left H := { results := [], args := [] }

/-- 'sandpilelaw36.EffectiveVerifies': WHATEVER THE INPUT: true; the input reads as it did. -/
def effectiveVerifiesSpec : ChangeSpec := { name := "effectiveVerifies", fn := fun _ => fun
  | [d1, d2, d3] => { results := [.lit (.bool true)], args := [d1, d2, d3] }
  | _ => none }
def effectiveVerifiesRow : OpenClaim := { program := "ytbehbjfcenlaeaa", sum := "04ff99b98f1783febfa888091d0e74f7fd00bbaca2df08b00f985d4a56abca3a", func := "sandpile/sandpilelaw36.EffectiveVerifies", spec := "effectiveVerifies", unfollowed := true, recurses := true, plainKeys := false, apart := false }
def EffectiveVerifiesSaid : Prop := effectiveVerifiesRow.holds Try.pinned (OpenSpec.ofChange effectiveVerifiesSpec)

/-- ITS FALSE NEIGHBOUR: 'it returns false'. Refute it at one input. -/
def effectiveVerifiesWrong : ChangeSpec := { name := "effectiveVerifies", fn := fun _ => fun
  | [d1, d2, d3] => { results := [.lit (.bool false)], args := [d1, d2, d3] }
  | _ => none }
def EffectiveVerifiesWrongFalsely : Prop := effectiveVerifiesRow.holds Try.pinned (OpenSpec.ofChange effectiveVerifiesWrong)

/-- 'sandpilelaw36.EffectivePrices': WHATEVER THE INPUT: true; the input reads as it did. -/
def effectivePricesSpec : ChangeSpec := { name := "effectivePrices", fn := fun _ => fun
  | [d1, d2, d3] => { results := [.lit (.bool true)], args := [d1, d2, d3] }
  | _ => none }
def effectivePricesRow : OpenClaim := { program := "ytbehbjfcenlaeaa", sum := "04ff99b98f1783febfa888091d0e74f7fd00bbaca2df08b00f985d4a56abca3a", func := "sandpile/sandpilelaw36.EffectivePrices", spec := "effectivePrices", unfollowed := true, recurses := true, plainKeys := false, apart := false }
def EffectivePricesSaid : Prop := effectivePricesRow.holds Try.pinned (OpenSpec.ofChange effectivePricesSpec)

/-- ITS FALSE NEIGHBOUR: 'it returns false'. Refute it at one input. -/
def effectivePricesWrong : ChangeSpec := { name := "effectivePrices", fn := fun _ => fun
  | [d1, d2, d3] => { results := [.lit (.bool false)], args := [d1, d2, d3] }
  | _ => none }
def EffectivePricesWrongFalsely : Prop := effectivePricesRow.holds Try.pinned (OpenSpec.ofChange effectivePricesWrong)

/-- 'sandpilelaw36.EffectiveCosts': WHATEVER THE INPUT: true; the input reads as it did. -/
def effectiveCostsSpec : ChangeSpec := { name := "effectiveCosts", fn := fun _ => fun
  | [d1, d2] => { results := [.lit (.bool true)], args := [d1, d2] }
  | _ => none }
def effectiveCostsRow : OpenClaim := { program := "ytbehbjfcenlaeaa", sum := "04ff99b98f1783febfa888091d0e74f7fd00bbaca2df08b00f985d4a56abca3a", func := "sandpile/sandpilelaw36.EffectiveCosts", spec := "effectiveCosts", unfollowed := true, recurses := true, plainKeys := false, apart := false }
def EffectiveCostsSaid : Prop := effectiveCostsRow.holds Try.pinned (OpenSpec.ofChange effectiveCostsSpec)

/-- ITS FALSE NEIGHBOUR: 'it returns false'. Refute it at one input. -/
def effectiveCostsWrong : ChangeSpec := { name := "effectiveCosts", fn := fun _ => fun
  | [d1, d2] => { results := [.lit (.bool false)], args := [d1, d2] }
  | _ => none }
def EffectiveCostsWrongFalsely : Prop := effectiveCostsRow.holds Try.pinned (OpenSpec.ofChange effectiveCostsWrong)

/-- 'sandpilelaw36.EffectiveProves': WHATEVER THE INPUT: true; the input reads as it did. -/
def effectiveProvesSpec : ChangeSpec := { name := "effectiveProves", fn := fun _ => fun
  | [d1, d2, d3] => { results := [.lit (.bool true)], args := [d1, d2, d3] }
  | _ => none }
def effectiveProvesRow : OpenClaim := { program := "ytbehbjfcenlaeaa", sum := "04ff99b98f1783febfa888091d0e74f7fd00bbaca2df08b00f985d4a56abca3a", func := "sandpile/sandpilelaw36.EffectiveProves", spec := "effectiveProves", unfollowed := true, recurses := true, plainKeys := false, apart := false }
def EffectiveProvesSaid : Prop := effectiveProvesRow.holds Try.pinned (OpenSpec.ofChange effectiveProvesSpec)

/-- ITS FALSE NEIGHBOUR: 'it returns false'. Refute it at one input. -/
def effectiveProvesWrong : ChangeSpec := { name := "effectiveProves", fn := fun _ => fun
  | [d1, d2, d3] => { results := [.lit (.bool false)], args := [d1, d2, d3] }
  | _ => none }
def EffectiveProvesWrongFalsely : Prop := effectiveProvesRow.holds Try.pinned (OpenSpec.ofChange effectiveProvesWrong)

/-- 'sandpilelaw36.EffectiveMoves': WHATEVER THE INPUT: true; the input reads as it did. -/
def effectiveMovesSpec : ChangeSpec := { name := "effectiveMoves", fn := fun _ => fun
  | [d1, d2, d3] => { results := [.lit (.bool true)], args := [d1, d2, d3] }
  | _ => none }
def effectiveMovesRow : OpenClaim := { program := "ytbehbjfcenlaeaa", sum := "04ff99b98f1783febfa888091d0e74f7fd00bbaca2df08b00f985d4a56abca3a", func := "sandpile/sandpilelaw36.EffectiveMoves", spec := "effectiveMoves", unfollowed := true, recurses := true, plainKeys := false, apart := false }
def EffectiveMovesSaid : Prop := effectiveMovesRow.holds Try.pinned (OpenSpec.ofChange effectiveMovesSpec)

/-- ITS FALSE NEIGHBOUR: 'it returns false'. Refute it at one input. -/
def effectiveMovesWrong : ChangeSpec := { name := "effectiveMoves", fn := fun _ => fun
  | [d1, d2, d3] => { results := [.lit (.bool false)], args := [d1, d2, d3] }
  | _ => none }
def EffectiveMovesWrongFalsely : Prop := effectiveMovesRow.holds Try.pinned (OpenSpec.ofChange effectiveMovesWrong)

/-- 'sandpilelaw36.EffectiveGrows': WHATEVER THE INPUT: true; the input reads as it did. -/
def effectiveGrowsSpec : ChangeSpec := { name := "effectiveGrows", fn := fun _ => fun
  | [d1, d2, d3] => { results := [.lit (.bool true)], args := [d1, d2, d3] }
  | _ => none }
def effectiveGrowsRow : OpenClaim := { program := "ytbehbjfcenlaeaa", sum := "04ff99b98f1783febfa888091d0e74f7fd00bbaca2df08b00f985d4a56abca3a", func := "sandpile/sandpilelaw36.EffectiveGrows", spec := "effectiveGrows", unfollowed := true, recurses := true, plainKeys := false, apart := false }
def EffectiveGrowsSaid : Prop := effectiveGrowsRow.holds Try.pinned (OpenSpec.ofChange effectiveGrowsSpec)

/-- ITS FALSE NEIGHBOUR: 'it returns false'. Refute it at one input. -/
def effectiveGrowsWrong : ChangeSpec := { name := "effectiveGrows", fn := fun _ => fun
  | [d1, d2, d3] => { results := [.lit (.bool false)], args := [d1, d2, d3] }
  | _ => none }
def EffectiveGrowsWrongFalsely : Prop := effectiveGrowsRow.holds Try.pinned (OpenSpec.ofChange effectiveGrowsWrong)

/-- 'sandpilelaw36.EffectiveFinds': WHATEVER THE INPUT: true; the input reads as it did. -/
def effectiveFindsSpec : ChangeSpec := { name := "effectiveFinds", fn := fun _ => fun
  | [d1, d2] => { results := [.lit (.bool true)], args := [d1, d2] }
  | _ => none }
def effectiveFindsRow : OpenClaim := { program := "ytbehbjfcenlaeaa", sum := "04ff99b98f1783febfa888091d0e74f7fd00bbaca2df08b00f985d4a56abca3a", func := "sandpile/sandpilelaw36.EffectiveFinds", spec := "effectiveFinds", unfollowed := true, recurses := true, plainKeys := false, apart := false }
def EffectiveFindsSaid : Prop := effectiveFindsRow.holds Try.pinned (OpenSpec.ofChange effectiveFindsSpec)

/-- ITS FALSE NEIGHBOUR: 'it returns false'. Refute it at one input. -/
def effectiveFindsWrong : ChangeSpec := { name := "effectiveFinds", fn := fun _ => fun
  | [d1, d2] => { results := [.lit (.bool false)], args := [d1, d2] }
  | _ => none }
def EffectiveFindsWrongFalsely : Prop := effectiveFindsRow.holds Try.pinned (OpenSpec.ofChange effectiveFindsWrong)

/-- 'sandpilelaw38.RankCounts': WHATEVER THE INPUT: true; the input reads as it did. -/
def rankCountsSpec : ChangeSpec := { name := "rankCounts", fn := fun _ => fun
  | [d1, d2, d3] => { results := [.lit (.bool true)], args := [d1, d2, d3] }
  | _ => none }
def rankCountsRow : OpenClaim := { program := "ytbehbjfcenlaeaa", sum := "04ff99b98f1783febfa888091d0e74f7fd00bbaca2df08b00f985d4a56abca3a", func := "sandpile/sandpilelaw38.RankCounts", spec := "rankCounts", unfollowed := true, recurses := true, plainKeys := false, apart := false }
def RankCountsSaid : Prop := rankCountsRow.holds Try.pinned (OpenSpec.ofChange rankCountsSpec)

/-- ITS FALSE NEIGHBOUR: 'it returns false'. Refute it at one input. -/
def rankCountsWrong : ChangeSpec := { name := "rankCounts", fn := fun _ => fun
  | [d1, d2, d3] => { results := [.lit (.bool false)], args := [d1, d2, d3] }
  | _ => none }
def RankCountsWrongFalsely : Prop := rankCountsRow.holds Try.pinned (OpenSpec.ofChange rankCountsWrong)

/-- 'sandpilelaw38.RankAdds': WHATEVER THE INPUT: true; the input reads as it did. -/
def rankAddsSpec : ChangeSpec := { name := "rankAdds", fn := fun _ => fun
  | [d1, d2, d3] => { results := [.lit (.bool true)], args := [d1, d2, d3] }
  | _ => none }
def rankAddsRow : OpenClaim := { program := "ytbehbjfcenlaeaa", sum := "04ff99b98f1783febfa888091d0e74f7fd00bbaca2df08b00f985d4a56abca3a", func := "sandpile/sandpilelaw38.RankAdds", spec := "rankAdds", unfollowed := true, recurses := true, plainKeys := false, apart := false }
def RankAddsSaid : Prop := rankAddsRow.holds Try.pinned (OpenSpec.ofChange rankAddsSpec)

/-- ITS FALSE NEIGHBOUR: 'it returns false'. Refute it at one input. -/
def rankAddsWrong : ChangeSpec := { name := "rankAdds", fn := fun _ => fun
  | [d1, d2, d3] => { results := [.lit (.bool false)], args := [d1, d2, d3] }
  | _ => none }
def RankAddsWrongFalsely : Prop := rankAddsRow.holds Try.pinned (OpenSpec.ofChange rankAddsWrong)

/-- 'sandpilelaw38.RankVerifies': WHATEVER THE INPUT: true; the input reads as it did. -/
def rankVerifiesSpec : ChangeSpec := { name := "rankVerifies", fn := fun _ => fun
  | [d1, d2, d3] => { results := [.lit (.bool true)], args := [d1, d2, d3] }
  | _ => none }
def rankVerifiesRow : OpenClaim := { program := "ytbehbjfcenlaeaa", sum := "04ff99b98f1783febfa888091d0e74f7fd00bbaca2df08b00f985d4a56abca3a", func := "sandpile/sandpilelaw38.RankVerifies", spec := "rankVerifies", unfollowed := true, recurses := true, plainKeys := false, apart := false }
def RankVerifiesSaid : Prop := rankVerifiesRow.holds Try.pinned (OpenSpec.ofChange rankVerifiesSpec)

/-- ITS FALSE NEIGHBOUR: 'it returns false'. Refute it at one input. -/
def rankVerifiesWrong : ChangeSpec := { name := "rankVerifies", fn := fun _ => fun
  | [d1, d2, d3] => { results := [.lit (.bool false)], args := [d1, d2, d3] }
  | _ => none }
def RankVerifiesWrongFalsely : Prop := rankVerifiesRow.holds Try.pinned (OpenSpec.ofChange rankVerifiesWrong)

/-- 'sandpilelaw38.RankMoves': WHATEVER THE INPUT: true; the input reads as it did. -/
def rankMovesSpec : ChangeSpec := { name := "rankMoves", fn := fun _ => fun
  | [d1, d2, d3] => { results := [.lit (.bool true)], args := [d1, d2, d3] }
  | _ => none }
def rankMovesRow : OpenClaim := { program := "ytbehbjfcenlaeaa", sum := "04ff99b98f1783febfa888091d0e74f7fd00bbaca2df08b00f985d4a56abca3a", func := "sandpile/sandpilelaw38.RankMoves", spec := "rankMoves", unfollowed := true, recurses := true, plainKeys := false, apart := false }
def RankMovesSaid : Prop := rankMovesRow.holds Try.pinned (OpenSpec.ofChange rankMovesSpec)

/-- ITS FALSE NEIGHBOUR: 'it returns false'. Refute it at one input. -/
def rankMovesWrong : ChangeSpec := { name := "rankMoves", fn := fun _ => fun
  | [d1, d2, d3] => { results := [.lit (.bool false)], args := [d1, d2, d3] }
  | _ => none }
def RankMovesWrongFalsely : Prop := rankMovesRow.holds Try.pinned (OpenSpec.ofChange rankMovesWrong)

/-- 'sandpilelaw38.RankRefutes': WHATEVER THE INPUT: true; the input reads as it did. -/
def rankRefutesSpec : ChangeSpec := { name := "rankRefutes", fn := fun _ => fun
  | [d1, d2, d3] => { results := [.lit (.bool true)], args := [d1, d2, d3] }
  | _ => none }
def rankRefutesRow : OpenClaim := { program := "ytbehbjfcenlaeaa", sum := "04ff99b98f1783febfa888091d0e74f7fd00bbaca2df08b00f985d4a56abca3a", func := "sandpile/sandpilelaw38.RankRefutes", spec := "rankRefutes", unfollowed := true, recurses := true, plainKeys := false, apart := false }
def RankRefutesSaid : Prop := rankRefutesRow.holds Try.pinned (OpenSpec.ofChange rankRefutesSpec)

/-- ITS FALSE NEIGHBOUR: 'it returns false'. Refute it at one input. -/
def rankRefutesWrong : ChangeSpec := { name := "rankRefutes", fn := fun _ => fun
  | [d1, d2, d3] => { results := [.lit (.bool false)], args := [d1, d2, d3] }
  | _ => none }
def RankRefutesWrongFalsely : Prop := rankRefutesRow.holds Try.pinned (OpenSpec.ofChange rankRefutesWrong)

/-- 'sandpilelaw38.RankAgrees': WHATEVER THE INPUT: true; the input reads as it did. -/
def rankAgreesSpec : ChangeSpec := { name := "rankAgrees", fn := fun _ => fun
  | [d1, d2] => { results := [.lit (.bool true)], args := [d1, d2] }
  | _ => none }
def rankAgreesRow : OpenClaim := { program := "ytbehbjfcenlaeaa", sum := "04ff99b98f1783febfa888091d0e74f7fd00bbaca2df08b00f985d4a56abca3a", func := "sandpile/sandpilelaw38.RankAgrees", spec := "rankAgrees", unfollowed := true, recurses := true, plainKeys := false, apart := false }
def RankAgreesSaid : Prop := rankAgreesRow.holds Try.pinned (OpenSpec.ofChange rankAgreesSpec)

/-- ITS FALSE NEIGHBOUR: 'it returns false'. Refute it at one input. -/
def rankAgreesWrong : ChangeSpec := { name := "rankAgrees", fn := fun _ => fun
  | [d1, d2] => { results := [.lit (.bool false)], args := [d1, d2] }
  | _ => none }
def RankAgreesWrongFalsely : Prop := rankAgreesRow.holds Try.pinned (OpenSpec.ofChange rankAgreesWrong)

/- THE SECOND FORM. 'bulk': how many values and letters a reading holds, each counted each time it is reached (what is shared counts as often as it is met; a slice's spare places count too). A statement '..UptoSaid' is the law's where the arguments, and the package variables that the reading takes, are together of bulk at most 1048576: NARROWER than '..Said'. Prove '..Said' where nothing that the law and all that it calls make is longer than what came in: it says more and counts as full. Else prove '..UptoSaid'. A law counts once. -/
mutual
def uptoBulk {H : Type} : DataW H → Nat
  | .lit (.string bytes) => bytes.length + 1
  | .lit _ => 1
  | .nil => 1
  | .ptr d => uptoBulk d + 1
  | .slice elems spare => uptoBulkAll elems + uptoBulkAll spare + 1
  | .agg parts => uptoBulkAll parts + 1
  | .iface _ d => uptoBulk d + 1
  | .map entries => uptoBulkEntries entries + 1
  | .held _ => 1
def uptoBulkAll {H : Type} : List (DataW H) → Nat
  | [] => 0
  | d :: r => uptoBulk d + uptoBulkAll r
def uptoBulkEntries {H : Type} : List (Lit × DataW H) → Nat
  | [] => 0
  | x :: r => uptoBulkEntry x + uptoBulkEntries r
def uptoBulkEntry {H : Type} : Lit × DataW H → Nat
  | (.string bytes, d) => bytes.length + uptoBulk d + 1
  | (_, d) => uptoBulk d + 1
 end
def uptoSmall : (H : Type) → List (DataW H) → Bool := fun _ ds => decide (uptoBulkAll ds ≤ 1048576)
def OpenSpec.upto (s : _root_.Go.ChangeSpec) : _root_.Go.OpenSpec := { _root_.Go.OpenSpec.ofChange s with cond := some uptoSmall }

/-- 'sandpilelaw36.EffectiveVerifies', WHERE WHAT IT READS IS OF BULK AT MOST 1048576: true; the input reads as it did. -/
def effectiveVerifiesUptoRow : OpenClaim := { program := "ytbehbjfcenlaeaa", sum := "04ff99b98f1783febfa888091d0e74f7fd00bbaca2df08b00f985d4a56abca3a", func := "sandpile/sandpilelaw36.EffectiveVerifies", spec := "effectiveVerifies", unfollowed := true, recurses := true, plainKeys := false, apart := false, narrowed := true }
def EffectiveVerifiesUptoSaid : Prop := effectiveVerifiesUptoRow.holds Try.pinned (OpenSpec.upto effectiveVerifiesSpec)

/-- 'sandpilelaw36.EffectivePrices', WHERE WHAT IT READS IS OF BULK AT MOST 1048576: true; the input reads as it did. -/
def effectivePricesUptoRow : OpenClaim := { program := "ytbehbjfcenlaeaa", sum := "04ff99b98f1783febfa888091d0e74f7fd00bbaca2df08b00f985d4a56abca3a", func := "sandpile/sandpilelaw36.EffectivePrices", spec := "effectivePrices", unfollowed := true, recurses := true, plainKeys := false, apart := false, narrowed := true }
def EffectivePricesUptoSaid : Prop := effectivePricesUptoRow.holds Try.pinned (OpenSpec.upto effectivePricesSpec)

/-- 'sandpilelaw36.EffectiveCosts', WHERE WHAT IT READS IS OF BULK AT MOST 1048576: true; the input reads as it did. -/
def effectiveCostsUptoRow : OpenClaim := { program := "ytbehbjfcenlaeaa", sum := "04ff99b98f1783febfa888091d0e74f7fd00bbaca2df08b00f985d4a56abca3a", func := "sandpile/sandpilelaw36.EffectiveCosts", spec := "effectiveCosts", unfollowed := true, recurses := true, plainKeys := false, apart := false, narrowed := true }
def EffectiveCostsUptoSaid : Prop := effectiveCostsUptoRow.holds Try.pinned (OpenSpec.upto effectiveCostsSpec)

/-- 'sandpilelaw36.EffectiveProves', WHERE WHAT IT READS IS OF BULK AT MOST 1048576: true; the input reads as it did. -/
def effectiveProvesUptoRow : OpenClaim := { program := "ytbehbjfcenlaeaa", sum := "04ff99b98f1783febfa888091d0e74f7fd00bbaca2df08b00f985d4a56abca3a", func := "sandpile/sandpilelaw36.EffectiveProves", spec := "effectiveProves", unfollowed := true, recurses := true, plainKeys := false, apart := false, narrowed := true }
def EffectiveProvesUptoSaid : Prop := effectiveProvesUptoRow.holds Try.pinned (OpenSpec.upto effectiveProvesSpec)

/-- 'sandpilelaw36.EffectiveMoves', WHERE WHAT IT READS IS OF BULK AT MOST 1048576: true; the input reads as it did. -/
def effectiveMovesUptoRow : OpenClaim := { program := "ytbehbjfcenlaeaa", sum := "04ff99b98f1783febfa888091d0e74f7fd00bbaca2df08b00f985d4a56abca3a", func := "sandpile/sandpilelaw36.EffectiveMoves", spec := "effectiveMoves", unfollowed := true, recurses := true, plainKeys := false, apart := false, narrowed := true }
def EffectiveMovesUptoSaid : Prop := effectiveMovesUptoRow.holds Try.pinned (OpenSpec.upto effectiveMovesSpec)

/-- 'sandpilelaw36.EffectiveGrows', WHERE WHAT IT READS IS OF BULK AT MOST 1048576: true; the input reads as it did. -/
def effectiveGrowsUptoRow : OpenClaim := { program := "ytbehbjfcenlaeaa", sum := "04ff99b98f1783febfa888091d0e74f7fd00bbaca2df08b00f985d4a56abca3a", func := "sandpile/sandpilelaw36.EffectiveGrows", spec := "effectiveGrows", unfollowed := true, recurses := true, plainKeys := false, apart := false, narrowed := true }
def EffectiveGrowsUptoSaid : Prop := effectiveGrowsUptoRow.holds Try.pinned (OpenSpec.upto effectiveGrowsSpec)

/-- 'sandpilelaw36.EffectiveFinds', WHERE WHAT IT READS IS OF BULK AT MOST 1048576: true; the input reads as it did. -/
def effectiveFindsUptoRow : OpenClaim := { program := "ytbehbjfcenlaeaa", sum := "04ff99b98f1783febfa888091d0e74f7fd00bbaca2df08b00f985d4a56abca3a", func := "sandpile/sandpilelaw36.EffectiveFinds", spec := "effectiveFinds", unfollowed := true, recurses := true, plainKeys := false, apart := false, narrowed := true }
def EffectiveFindsUptoSaid : Prop := effectiveFindsUptoRow.holds Try.pinned (OpenSpec.upto effectiveFindsSpec)

/-- 'sandpilelaw38.RankCounts', WHERE WHAT IT READS IS OF BULK AT MOST 1048576: true; the input reads as it did. -/
def rankCountsUptoRow : OpenClaim := { program := "ytbehbjfcenlaeaa", sum := "04ff99b98f1783febfa888091d0e74f7fd00bbaca2df08b00f985d4a56abca3a", func := "sandpile/sandpilelaw38.RankCounts", spec := "rankCounts", unfollowed := true, recurses := true, plainKeys := false, apart := false, narrowed := true }
def RankCountsUptoSaid : Prop := rankCountsUptoRow.holds Try.pinned (OpenSpec.upto rankCountsSpec)

/-- 'sandpilelaw38.RankAdds', WHERE WHAT IT READS IS OF BULK AT MOST 1048576: true; the input reads as it did. -/
def rankAddsUptoRow : OpenClaim := { program := "ytbehbjfcenlaeaa", sum := "04ff99b98f1783febfa888091d0e74f7fd00bbaca2df08b00f985d4a56abca3a", func := "sandpile/sandpilelaw38.RankAdds", spec := "rankAdds", unfollowed := true, recurses := true, plainKeys := false, apart := false, narrowed := true }
def RankAddsUptoSaid : Prop := rankAddsUptoRow.holds Try.pinned (OpenSpec.upto rankAddsSpec)

/-- 'sandpilelaw38.RankVerifies', WHERE WHAT IT READS IS OF BULK AT MOST 1048576: true; the input reads as it did. -/
def rankVerifiesUptoRow : OpenClaim := { program := "ytbehbjfcenlaeaa", sum := "04ff99b98f1783febfa888091d0e74f7fd00bbaca2df08b00f985d4a56abca3a", func := "sandpile/sandpilelaw38.RankVerifies", spec := "rankVerifies", unfollowed := true, recurses := true, plainKeys := false, apart := false, narrowed := true }
def RankVerifiesUptoSaid : Prop := rankVerifiesUptoRow.holds Try.pinned (OpenSpec.upto rankVerifiesSpec)

/-- 'sandpilelaw38.RankMoves', WHERE WHAT IT READS IS OF BULK AT MOST 1048576: true; the input reads as it did. -/
def rankMovesUptoRow : OpenClaim := { program := "ytbehbjfcenlaeaa", sum := "04ff99b98f1783febfa888091d0e74f7fd00bbaca2df08b00f985d4a56abca3a", func := "sandpile/sandpilelaw38.RankMoves", spec := "rankMoves", unfollowed := true, recurses := true, plainKeys := false, apart := false, narrowed := true }
def RankMovesUptoSaid : Prop := rankMovesUptoRow.holds Try.pinned (OpenSpec.upto rankMovesSpec)

/-- 'sandpilelaw38.RankRefutes', WHERE WHAT IT READS IS OF BULK AT MOST 1048576: true; the input reads as it did. -/
def rankRefutesUptoRow : OpenClaim := { program := "ytbehbjfcenlaeaa", sum := "04ff99b98f1783febfa888091d0e74f7fd00bbaca2df08b00f985d4a56abca3a", func := "sandpile/sandpilelaw38.RankRefutes", spec := "rankRefutes", unfollowed := true, recurses := true, plainKeys := false, apart := false, narrowed := true }
def RankRefutesUptoSaid : Prop := rankRefutesUptoRow.holds Try.pinned (OpenSpec.upto rankRefutesSpec)

/-- 'sandpilelaw38.RankAgrees', WHERE WHAT IT READS IS OF BULK AT MOST 1048576: true; the input reads as it did. -/
def rankAgreesUptoRow : OpenClaim := { program := "ytbehbjfcenlaeaa", sum := "04ff99b98f1783febfa888091d0e74f7fd00bbaca2df08b00f985d4a56abca3a", func := "sandpile/sandpilelaw38.RankAgrees", spec := "rankAgrees", unfollowed := true, recurses := true, plainKeys := false, apart := false, narrowed := true }
def RankAgreesUptoSaid : Prop := rankAgreesUptoRow.holds Try.pinned (OpenSpec.upto rankAgreesSpec)

end Rows
end Go.Proofs.Ytbehbjfcenlaeaa
