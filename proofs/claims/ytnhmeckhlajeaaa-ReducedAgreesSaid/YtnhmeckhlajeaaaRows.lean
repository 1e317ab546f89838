/-
  No cell of these rows narrows 'for every input' (looked for: loops, veiled, ifaces, maps, wideKeys, modest, calm, conditions, laid).
  DERIVED. THE GIVEN ROWS OF THIS SEAT. 11 by the template 'for every input the law returns true; each argument reads behind the call as it read before'; 0 by the template 'total and deterministic' (their statements: YtnhmeckhlajeaaaTotals.lean).
  GIVEN WITH THE SEED: the statements are not yours to turn. If you find one false, say at which input.
  Laid BY PROGRAM, IN A SANDBOX (cutbox-rows.mjs): the forced cells as the released guide's own fill.sh prints them over the translation 7ac9e1241ed51c1f… (all of the seat's roots in one cut). By AI agents, Wed Nov 11 2026. No macro, syntax, notation, axiom, sorry.
-/
import Derived.Test.YtnhmeckhlajeaaaChecked
import GoSem.Claim
import GoSem.ClaimJoined
import GoSem.ClaimMapViews
import Derived.JoinedTies
import Derived.KernelRfl
namespace Go.Proofs.Ytnhmeckhlajeaaa
/- THE CELL 'sum', in the pinned program and in every row, IS THE sha256 OF THE DUMP (.gsa) THAT YtnhmeckhlajeaaaProg.lean LOADS. Nothing in Lean hashes anything: it is a label: what it is worth is what the hold of that sum in a sandbox is worth. -/
noncomputable def Try.pinned : Pinned := { name := "ytnhmeckhlajeaaa", sum := "7ac9e1241ed51c1f8640cd49355629b81fc9ee2afabd4e3ff9bcd8f07ba373f4", checked := Try.checked }
namespace Rows
def none {H : Type} : Left H := { results := [], args := [] }

/-- 'sandpilelaw34.ReducedForms': WHATEVER THE INPUT: true; the input reads as it did. -/
def reducedFormsSpec : ChangeSpec := { name := "reducedForms", fn := fun _ => fun
  | [d1, d2, d3] => { results := [.lit (.bool true)], args := [d1, d2, d3] }
  | _ => none }
def reducedFormsRow : OpenClaim := { program := "ytnhmeckhlajeaaa", sum := "7ac9e1241ed51c1f8640cd49355629b81fc9ee2afabd4e3ff9bcd8f07ba373f4", func := "sandpile/sandpilelaw34.ReducedForms", spec := "reducedForms", unfollowed := true, recurses := true, apart := false }
def ReducedFormsSaid : Prop := reducedFormsRow.holds Try.pinned (OpenSpec.ofChange reducedFormsSpec)

/-- ITS FALSE NEIGHBOUR: 'it returns false'. Refute it at one input. -/
def reducedFormsWrong : ChangeSpec := { name := "reducedForms", fn := fun _ => fun
  | [d1, d2, d3] => { results := [.lit (.bool false)], args := [d1, d2, d3] }
  | _ => none }
def ReducedFormsWrongFalsely : Prop := reducedFormsRow.holds Try.pinned (OpenSpec.ofChange reducedFormsWrong)

/-- 'sandpilelaw34.ReducedAdds': WHATEVER THE INPUT: true; the input reads as it did. -/
def reducedAddsSpec : ChangeSpec := { name := "reducedAdds", fn := fun _ => fun
  | [d1, d2, d3] => { results := [.lit (.bool true)], args := [d1, d2, d3] }
  | _ => none }
def reducedAddsRow : OpenClaim := { program := "ytnhmeckhlajeaaa", sum := "7ac9e1241ed51c1f8640cd49355629b81fc9ee2afabd4e3ff9bcd8f07ba373f4", func := "sandpile/sandpilelaw34.ReducedAdds", spec := "reducedAdds", unfollowed := true, recurses := true, apart := false }
def ReducedAddsSaid : Prop := reducedAddsRow.holds Try.pinned (OpenSpec.ofChange reducedAddsSpec)

/-- ITS FALSE NEIGHBOUR: 'it returns false'. Refute it at one input. -/
def reducedAddsWrong : ChangeSpec := { name := "reducedAdds", fn := fun _ => fun
  | [d1, d2, d3] => { results := [.lit (.bool false)], args := [d1, d2, d3] }
  | _ => none }
def ReducedAddsWrongFalsely : Prop := reducedAddsRow.holds Try.pinned (OpenSpec.ofChange reducedAddsWrong)

/-- 'sandpilelaw34.ReducedLends': WHATEVER THE INPUT: true; the input reads as it did. -/
def reducedLendsSpec : ChangeSpec := { name := "reducedLends", fn := fun _ => fun
  | [d1, d2, d3] => { results := [.lit (.bool true)], args := [d1, d2, d3] }
  | _ => none }
def reducedLendsRow : OpenClaim := { program := "ytnhmeckhlajeaaa", sum := "7ac9e1241ed51c1f8640cd49355629b81fc9ee2afabd4e3ff9bcd8f07ba373f4", func := "sandpile/sandpilelaw34.ReducedLends", spec := "reducedLends", unfollowed := true, recurses := true, apart := false }
def ReducedLendsSaid : Prop := reducedLendsRow.holds Try.pinned (OpenSpec.ofChange reducedLendsSpec)

/-- ITS FALSE NEIGHBOUR: 'it returns false'. Refute it at one input. -/
def reducedLendsWrong : ChangeSpec := { name := "reducedLends", fn := fun _ => fun
  | [d1, d2, d3] => { results := [.lit (.bool false)], args := [d1, d2, d3] }
  | _ => none }
def ReducedLendsWrongFalsely : Prop := reducedLendsRow.holds Try.pinned (OpenSpec.ofChange reducedLendsWrong)

/-- 'sandpilelaw34.ReducedBurns': WHATEVER THE INPUT: true; the input reads as it did. -/
def reducedBurnsSpec : ChangeSpec := { name := "reducedBurns", fn := fun _ => fun
  | [d1, d2, d3] => { results := [.lit (.bool true)], args := [d1, d2, d3] }
  | _ => none }
def reducedBurnsRow : OpenClaim := { program := "ytnhmeckhlajeaaa", sum := "7ac9e1241ed51c1f8640cd49355629b81fc9ee2afabd4e3ff9bcd8f07ba373f4", func := "sandpile/sandpilelaw34.ReducedBurns", spec := "reducedBurns", unfollowed := true, recurses := true, apart := false }
def ReducedBurnsSaid : Prop := reducedBurnsRow.holds Try.pinned (OpenSpec.ofChange reducedBurnsSpec)

/-- ITS FALSE NEIGHBOUR: 'it returns false'. Refute it at one input. -/
def reducedBurnsWrong : ChangeSpec := { name := "reducedBurns", fn := fun _ => fun
  | [d1, d2, d3] => { results := [.lit (.bool false)], args := [d1, d2, d3] }
  | _ => none }
def ReducedBurnsWrongFalsely : Prop := reducedBurnsRow.holds Try.pinned (OpenSpec.ofChange reducedBurnsWrong)

/-- 'sandpilelaw34.ReducedWins': WHATEVER THE INPUT: true; the input reads as it did. -/
def reducedWinsSpec : ChangeSpec := { name := "reducedWins", fn := fun _ => fun
  | [d1, d2, d3] => { results := [.lit (.bool true)], args := [d1, d2, d3] }
  | _ => none }
def reducedWinsRow : OpenClaim := { program := "ytnhmeckhlajeaaa", sum := "7ac9e1241ed51c1f8640cd49355629b81fc9ee2afabd4e3ff9bcd8f07ba373f4", func := "sandpile/sandpilelaw34.ReducedWins", spec := "reducedWins", unfollowed := true, recurses := true, apart := false }
def ReducedWinsSaid : Prop := reducedWinsRow.holds Try.pinned (OpenSpec.ofChange reducedWinsSpec)

/-- ITS FALSE NEIGHBOUR: 'it returns false'. Refute it at one input. -/
def reducedWinsWrong : ChangeSpec := { name := "reducedWins", fn := fun _ => fun
  | [d1, d2, d3] => { results := [.lit (.bool false)], args := [d1, d2, d3] }
  | _ => none }
def ReducedWinsWrongFalsely : Prop := reducedWinsRow.holds Try.pinned (OpenSpec.ofChange reducedWinsWrong)

/-- 'sandpilelaw34.ReducedVerifies': WHATEVER THE INPUT: true; the input reads as it did. -/
def reducedVerifiesSpec : ChangeSpec := { name := "reducedVerifies", fn := fun _ => fun
  | [d1, d2] => { results := [.lit (.bool true)], args := [d1, d2] }
  | _ => none }
def reducedVerifiesRow : OpenClaim := { program := "ytnhmeckhlajeaaa", sum := "7ac9e1241ed51c1f8640cd49355629b81fc9ee2afabd4e3ff9bcd8f07ba373f4", func := "sandpile/sandpilelaw34.ReducedVerifies", spec := "reducedVerifies", unfollowed := true, recurses := true, apart := false }
def ReducedVerifiesSaid : Prop := reducedVerifiesRow.holds Try.pinned (OpenSpec.ofChange reducedVerifiesSpec)

/-- ITS FALSE NEIGHBOUR: 'it returns false'. Refute it at one input. -/
def reducedVerifiesWrong : ChangeSpec := { name := "reducedVerifies", fn := fun _ => fun
  | [d1, d2] => { results := [.lit (.bool false)], args := [d1, d2] }
  | _ => none }
def ReducedVerifiesWrongFalsely : Prop := reducedVerifiesRow.holds Try.pinned (OpenSpec.ofChange reducedVerifiesWrong)

/-- 'sandpilelaw34.ReducedBurnsDown': WHATEVER THE INPUT: true; the input reads as it did. -/
def reducedBurnsDownSpec : ChangeSpec := { name := "reducedBurnsDown", fn := fun _ => fun
  | [d1, d2, d3] => { results := [.lit (.bool true)], args := [d1, d2, d3] }
  | _ => none }
def reducedBurnsDownRow : OpenClaim := { program := "ytnhmeckhlajeaaa", sum := "7ac9e1241ed51c1f8640cd49355629b81fc9ee2afabd4e3ff9bcd8f07ba373f4", func := "sandpile/sandpilelaw34.ReducedBurnsDown", spec := "reducedBurnsDown", unfollowed := true, recurses := true, apart := false }
def ReducedBurnsDownSaid : Prop := reducedBurnsDownRow.holds Try.pinned (OpenSpec.ofChange reducedBurnsDownSpec)

/-- ITS FALSE NEIGHBOUR: 'it returns false'. Refute it at one input. -/
def reducedBurnsDownWrong : ChangeSpec := { name := "reducedBurnsDown", fn := fun _ => fun
  | [d1, d2, d3] => { results := [.lit (.bool false)], args := [d1, d2, d3] }
  | _ => none }
def ReducedBurnsDownWrongFalsely : Prop := reducedBurnsDownRow.holds Try.pinned (OpenSpec.ofChange reducedBurnsDownWrong)

/-- 'sandpilelaw36.EffectiveVerifies': WHATEVER THE INPUT: true; the input reads as it did. -/
def effectiveVerifiesSpec : ChangeSpec := { name := "effectiveVerifies", fn := fun _ => fun
  | [d1, d2, d3] => { results := [.lit (.bool true)], args := [d1, d2, d3] }
  | _ => none }
def effectiveVerifiesRow : OpenClaim := { program := "ytnhmeckhlajeaaa", sum := "7ac9e1241ed51c1f8640cd49355629b81fc9ee2afabd4e3ff9bcd8f07ba373f4", func := "sandpile/sandpilelaw36.EffectiveVerifies", spec := "effectiveVerifies", unfollowed := true, recurses := true, apart := false }
def EffectiveVerifiesSaid : Prop := effectiveVerifiesRow.holds Try.pinned (OpenSpec.ofChange effectiveVerifiesSpec)

/-- ITS FALSE NEIGHBOUR: 'it returns false'. Refute it at one input. -/
def effectiveVerifiesWrong : ChangeSpec := { name := "effectiveVerifies", fn := fun _ => fun
  | [d1, d2, d3] => { results := [.lit (.bool false)], args := [d1, d2, d3] }
  | _ => none }
def EffectiveVerifiesWrongFalsely : Prop := effectiveVerifiesRow.holds Try.pinned (OpenSpec.ofChange effectiveVerifiesWrong)

/-- 'sandpilelaw36.EffectivePrices': WHATEVER THE INPUT: true; the input reads as it did. -/
def effectivePricesSpec : ChangeSpec := { name := "effectivePrices", fn := fun _ => fun
  | [d1, d2, d3] => { results := [.lit (.bool true)], args := [d1, d2, d3] }
  | _ => none }
def effectivePricesRow : OpenClaim := { program := "ytnhmeckhlajeaaa", sum := "7ac9e1241ed51c1f8640cd49355629b81fc9ee2afabd4e3ff9bcd8f07ba373f4", func := "sandpile/sandpilelaw36.EffectivePrices", spec := "effectivePrices", unfollowed := true, recurses := true, apart := false }
def EffectivePricesSaid : Prop := effectivePricesRow.holds Try.pinned (OpenSpec.ofChange effectivePricesSpec)

/-- ITS FALSE NEIGHBOUR: 'it returns false'. Refute it at one input. -/
def effectivePricesWrong : ChangeSpec := { name := "effectivePrices", fn := fun _ => fun
  | [d1, d2, d3] => { results := [.lit (.bool false)], args := [d1, d2, d3] }
  | _ => none }
def EffectivePricesWrongFalsely : Prop := effectivePricesRow.holds Try.pinned (OpenSpec.ofChange effectivePricesWrong)

/-- 'sandpilelaw36.EffectiveCosts': WHATEVER THE INPUT: true; the input reads as it did. -/
def effectiveCostsSpec : ChangeSpec := { name := "effectiveCosts", fn := fun _ => fun
  | [d1, d2] => { results := [.lit (.bool true)], args := [d1, d2] }
  | _ => none }
def effectiveCostsRow : OpenClaim := { program := "ytnhmeckhlajeaaa", sum := "7ac9e1241ed51c1f8640cd49355629b81fc9ee2afabd4e3ff9bcd8f07ba373f4", func := "sandpile/sandpilelaw36.EffectiveCosts", spec := "effectiveCosts", unfollowed := true, recurses := true, apart := false }
def EffectiveCostsSaid : Prop := effectiveCostsRow.holds Try.pinned (OpenSpec.ofChange effectiveCostsSpec)

/-- ITS FALSE NEIGHBOUR: 'it returns false'. Refute it at one input. -/
def effectiveCostsWrong : ChangeSpec := { name := "effectiveCosts", fn := fun _ => fun
  | [d1, d2] => { results := [.lit (.bool false)], args := [d1, d2] }
  | _ => none }
def EffectiveCostsWrongFalsely : Prop := effectiveCostsRow.holds Try.pinned (OpenSpec.ofChange effectiveCostsWrong)

/-- 'sandpilelaw34.ReducedAgrees': WHATEVER THE INPUT: true; the input reads as it did. -/
def reducedAgreesSpec : ChangeSpec := { name := "reducedAgrees", fn := fun _ => fun
  | [d1, d2, d3] => { results := [.lit (.bool true)], args := [d1, d2, d3] }
  | _ => none }
def reducedAgreesRow : OpenClaim := { program := "ytnhmeckhlajeaaa", sum := "7ac9e1241ed51c1f8640cd49355629b81fc9ee2afabd4e3ff9bcd8f07ba373f4", func := "sandpile/sandpilelaw34.ReducedAgrees", spec := "reducedAgrees", unfollowed := true, recurses := true, apart := false }
def ReducedAgreesSaid : Prop := reducedAgreesRow.holds Try.pinned (OpenSpec.ofChange reducedAgreesSpec)

/-- ITS FALSE NEIGHBOUR: 'it returns false'. Refute it at one input. -/
def reducedAgreesWrong : ChangeSpec := { name := "reducedAgrees", fn := fun _ => fun
  | [d1, d2, d3] => { results := [.lit (.bool false)], args := [d1, d2, d3] }
  | _ => none }
def ReducedAgreesWrongFalsely : Prop := reducedAgreesRow.holds Try.pinned (OpenSpec.ofChange reducedAgreesWrong)

/- THE SECOND FORM. 'bulk': how many values and letters a reading holds, each counted each time it is reached (what is shared counts as often as it is met; a slice's spare places count too). A statement '..UptoSaid' is the law's where the arguments, and the package variables that the reading takes, are together of bulk at most 1048576: NARROWER than '..Said'. Prove '..Said' where nothing that the law and all that it calls make is longer than what came in: it says more and counts as full. Else prove '..UptoSaid'. A law counts once. -/
mutual
def uptoBulk {H : Type} : DataW H → Nat
  | .lit (.string bytes) => bytes.length + 1
  | .lit _ => 1
  | .nil => 1
  | .ptr d => uptoBulk d + 1
  | .slice elems spare => uptoBulkAll elems + uptoBulkAll spare + 1
  | .agg parts => uptoBulkAll parts + 1
  | .iface _ d => uptoBulk d + 1
  | .map entries => uptoBulkEntries entries + 1
  | .held _ => 1
def uptoBulkAll {H : Type} : List (DataW H) → Nat
  | [] => 0
  | d :: r => uptoBulk d + uptoBulkAll r
def uptoBulkEntries {H : Type} : List (Lit × DataW H) → Nat
  | [] => 0
  | x :: r => uptoBulkEntry x + uptoBulkEntries r
def uptoBulkEntry {H : Type} : Lit × DataW H → Nat
  | (.string bytes, d) => bytes.length + uptoBulk d + 1
  | (_, d) => uptoBulk d + 1
 end
def uptoSmall : (H : Type) → List (DataW H) → Bool := fun _ ds => decide (uptoBulkAll ds ≤ 1048576)
def OpenSpec.upto (s : _root_.Go.ChangeSpec) : _root_.Go.OpenSpec := { _root_.Go.OpenSpec.ofChange s with cond := some uptoSmall }

/-- 'sandpilelaw34.ReducedForms', WHERE WHAT IT READS IS OF BULK AT MOST 1048576: true; the input reads as it did. -/
def reducedFormsUptoRow : OpenClaim := { program := "ytnhmeckhlajeaaa", sum := "7ac9e1241ed51c1f8640cd49355629b81fc9ee2afabd4e3ff9bcd8f07ba373f4", func := "sandpile/sandpilelaw34.ReducedForms", spec := "reducedForms", unfollowed := true, recurses := true, apart := false, narrowed := true }
def ReducedFormsUptoSaid : Prop := reducedFormsUptoRow.holds Try.pinned (OpenSpec.upto reducedFormsSpec)

/-- 'sandpilelaw34.ReducedAdds', WHERE WHAT IT READS IS OF BULK AT MOST 1048576: true; the input reads as it did. -/
def reducedAddsUptoRow : OpenClaim := { program := "ytnhmeckhlajeaaa", sum := "7ac9e1241ed51c1f8640cd49355629b81fc9ee2afabd4e3ff9bcd8f07ba373f4", func := "sandpile/sandpilelaw34.ReducedAdds", spec := "reducedAdds", unfollowed := true, recurses := true, apart := false, narrowed := true }
def ReducedAddsUptoSaid : Prop := reducedAddsUptoRow.holds Try.pinned (OpenSpec.upto reducedAddsSpec)

/-- 'sandpilelaw34.ReducedLends', WHERE WHAT IT READS IS OF BULK AT MOST 1048576: true; the input reads as it did. -/
def reducedLendsUptoRow : OpenClaim := { program := "ytnhmeckhlajeaaa", sum := "7ac9e1241ed51c1f8640cd49355629b81fc9ee2afabd4e3ff9bcd8f07ba373f4", func := "sandpile/sandpilelaw34.ReducedLends", spec := "reducedLends", unfollowed := true, recurses := true, apart := false, narrowed := true }
def ReducedLendsUptoSaid : Prop := reducedLendsUptoRow.holds Try.pinned (OpenSpec.upto reducedLendsSpec)

/-- 'sandpilelaw34.ReducedBurns', WHERE WHAT IT READS IS OF BULK AT MOST 1048576: true; the input reads as it did. -/
def reducedBurnsUptoRow : OpenClaim := { program := "ytnhmeckhlajeaaa", sum := "7ac9e1241ed51c1f8640cd49355629b81fc9ee2afabd4e3ff9bcd8f07ba373f4", func := "sandpile/sandpilelaw34.ReducedBurns", spec := "reducedBurns", unfollowed := true, recurses := true, apart := false, narrowed := true }
def ReducedBurnsUptoSaid : Prop := reducedBurnsUptoRow.holds Try.pinned (OpenSpec.upto reducedBurnsSpec)

/-- 'sandpilelaw34.ReducedWins', WHERE WHAT IT READS IS OF BULK AT MOST 1048576: true; the input reads as it did. -/
def reducedWinsUptoRow : OpenClaim := { program := "ytnhmeckhlajeaaa", sum := "7ac9e1241ed51c1f8640cd49355629b81fc9ee2afabd4e3ff9bcd8f07ba373f4", func := "sandpile/sandpilelaw34.ReducedWins", spec := "reducedWins", unfollowed := true, recurses := true, apart := false, narrowed := true }
def ReducedWinsUptoSaid : Prop := reducedWinsUptoRow.holds Try.pinned (OpenSpec.upto reducedWinsSpec)

/-- 'sandpilelaw34.ReducedVerifies', WHERE WHAT IT READS IS OF BULK AT MOST 1048576: true; the input reads as it did. -/
def reducedVerifiesUptoRow : OpenClaim := { program := "ytnhmeckhlajeaaa", sum := "7ac9e1241ed51c1f8640cd49355629b81fc9ee2afabd4e3ff9bcd8f07ba373f4", func := "sandpile/sandpilelaw34.ReducedVerifies", spec := "reducedVerifies", unfollowed := true, recurses := true, apart := false, narrowed := true }
def ReducedVerifiesUptoSaid : Prop := reducedVerifiesUptoRow.holds Try.pinned (OpenSpec.upto reducedVerifiesSpec)

/-- 'sandpilelaw34.ReducedBurnsDown', WHERE WHAT IT READS IS OF BULK AT MOST 1048576: true; the input reads as it did. -/
def reducedBurnsDownUptoRow : OpenClaim := { program := "ytnhmeckhlajeaaa", sum := "7ac9e1241ed51c1f8640cd49355629b81fc9ee2afabd4e3ff9bcd8f07ba373f4", func := "sandpile/sandpilelaw34.ReducedBurnsDown", spec := "reducedBurnsDown", unfollowed := true, recurses := true, apart := false, narrowed := true }
def ReducedBurnsDownUptoSaid : Prop := reducedBurnsDownUptoRow.holds Try.pinned (OpenSpec.upto reducedBurnsDownSpec)

/-- 'sandpilelaw36.EffectiveVerifies', WHERE WHAT IT READS IS OF BULK AT MOST 1048576: true; the input reads as it did. -/
def effectiveVerifiesUptoRow : OpenClaim := { program := "ytnhmeckhlajeaaa", sum := "7ac9e1241ed51c1f8640cd49355629b81fc9ee2afabd4e3ff9bcd8f07ba373f4", func := "sandpile/sandpilelaw36.EffectiveVerifies", spec := "effectiveVerifies", unfollowed := true, recurses := true, apart := false, narrowed := true }
def EffectiveVerifiesUptoSaid : Prop := effectiveVerifiesUptoRow.holds Try.pinned (OpenSpec.upto effectiveVerifiesSpec)

/-- 'sandpilelaw36.EffectivePrices', WHERE WHAT IT READS IS OF BULK AT MOST 1048576: true; the input reads as it did. -/
def effectivePricesUptoRow : OpenClaim := { program := "ytnhmeckhlajeaaa", sum := "7ac9e1241ed51c1f8640cd49355629b81fc9ee2afabd4e3ff9bcd8f07ba373f4", func := "sandpile/sandpilelaw36.EffectivePrices", spec := "effectivePrices", unfollowed := true, recurses := true, apart := false, narrowed := true }
def EffectivePricesUptoSaid : Prop := effectivePricesUptoRow.holds Try.pinned (OpenSpec.upto effectivePricesSpec)

/-- 'sandpilelaw36.EffectiveCosts', WHERE WHAT IT READS IS OF BULK AT MOST 1048576: true; the input reads as it did. -/
def effectiveCostsUptoRow : OpenClaim := { program := "ytnhmeckhlajeaaa", sum := "7ac9e1241ed51c1f8640cd49355629b81fc9ee2afabd4e3ff9bcd8f07ba373f4", func := "sandpile/sandpilelaw36.EffectiveCosts", spec := "effectiveCosts", unfollowed := true, recurses := true, apart := false, narrowed := true }
def EffectiveCostsUptoSaid : Prop := effectiveCostsUptoRow.holds Try.pinned (OpenSpec.upto effectiveCostsSpec)

/-- 'sandpilelaw34.ReducedAgrees', WHERE WHAT IT READS IS OF BULK AT MOST 1048576: true; the input reads as it did. -/
def reducedAgreesUptoRow : OpenClaim := { program := "ytnhmeckhlajeaaa", sum := "7ac9e1241ed51c1f8640cd49355629b81fc9ee2afabd4e3ff9bcd8f07ba373f4", func := "sandpile/sandpilelaw34.ReducedAgrees", spec := "reducedAgrees", unfollowed := true, recurses := true, apart := false, narrowed := true }
def ReducedAgreesUptoSaid : Prop := reducedAgreesUptoRow.holds Try.pinned (OpenSpec.upto reducedAgreesSpec)

end Rows
end Go.Proofs.Ytnhmeckhlajeaaa
