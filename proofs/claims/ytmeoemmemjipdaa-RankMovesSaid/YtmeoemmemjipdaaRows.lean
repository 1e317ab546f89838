/-
  No cell of these rows narrows 'for every input' (looked for: loops, veiled, ifaces, maps, wideKeys, modest, calm, conditions, laid).
  DERIVED. THE GIVEN ROWS OF THIS SEAT. 7 by the template 'for every input the law returns true; each argument reads behind the call as it read before'; 0 by the template 'total and deterministic' (their statements: YtmeoemmemjipdaaTotals.lean).
  GIVEN WITH THE SEED: the statements are not yours to turn. If you find one false, say at which input.
  Laid BY PROGRAM, IN A SANDBOX (cutbox-rows.mjs): the forced cells as the released guide's own fill.sh prints them over the translation 3b117799d21977a4… (all of the seat's roots in one cut). By AI agents, Wed Nov 11 2026. No macro, syntax, notation, axiom, sorry.
-/
import Derived.Test.YtmeoemmemjipdaaChecked
import GoSem.Claim
import GoSem.ClaimJoined
import GoSem.ClaimMapViews
import Derived.JoinedTies
import Derived.KernelRfl
namespace Go.Proofs.Ytmeoemmemjipdaa
/- THE CELL 'sum', in the pinned program and in every row, IS THE sha256 OF THE DUMP (.gsa) THAT YtmeoemmemjipdaaProg.lean LOADS. Nothing in Lean hashes anything: it is a label: what it is worth is what the hold of that sum in a sandbox is worth. -/
noncomputable def Try.pinned : Pinned := { name := "ytmeoemmemjipdaa", sum := "3b117799d21977a4014fe4530340c2c5e801012da0a05341c8987720efd06f6e", checked := Try.checked }
namespace Rows
def none {H : Type} : Left H := { results := [], args := [] }

/-- 'sandpilelaw38.RankCounts': WHATEVER THE INPUT: true; the input reads as it did. -/
def rankCountsSpec : ChangeSpec := { name := "rankCounts", fn := fun _ => fun
  | [d1, d2, d3] => { results := [.lit (.bool true)], args := [d1, d2, d3] }
  | _ => none }
def rankCountsRow : OpenClaim := { program := "ytmeoemmemjipdaa", sum := "3b117799d21977a4014fe4530340c2c5e801012da0a05341c8987720efd06f6e", func := "sandpile/sandpilelaw38.RankCounts", spec := "rankCounts", unfollowed := true, recurses := true, plainKeys := false, apart := false }
def RankCountsSaid : Prop := rankCountsRow.holds Try.pinned (OpenSpec.ofChange rankCountsSpec)

/-- ITS FALSE NEIGHBOUR: 'it returns false'. Refute it at one input. -/
def rankCountsWrong : ChangeSpec := { name := "rankCounts", fn := fun _ => fun
  | [d1, d2, d3] => { results := [.lit (.bool false)], args := [d1, d2, d3] }
  | _ => none }
def RankCountsWrongFalsely : Prop := rankCountsRow.holds Try.pinned (OpenSpec.ofChange rankCountsWrong)

/-- 'sandpilelaw38.RankAdds': WHATEVER THE INPUT: true; the input reads as it did. -/
def rankAddsSpec : ChangeSpec := { name := "rankAdds", fn := fun _ => fun
  | [d1, d2, d3] => { results := [.lit (.bool true)], args := [d1, d2, d3] }
  | _ => none }
def rankAddsRow : OpenClaim := { program := "ytmeoemmemjipdaa", sum := "3b117799d21977a4014fe4530340c2c5e801012da0a05341c8987720efd06f6e", func := "sandpile/sandpilelaw38.RankAdds", spec := "rankAdds", unfollowed := true, recurses := true, plainKeys := false, apart := false }
def RankAddsSaid : Prop := rankAddsRow.holds Try.pinned (OpenSpec.ofChange rankAddsSpec)

/-- ITS FALSE NEIGHBOUR: 'it returns false'. Refute it at one input. -/
def rankAddsWrong : ChangeSpec := { name := "rankAdds", fn := fun _ => fun
  | [d1, d2, d3] => { results := [.lit (.bool false)], args := [d1, d2, d3] }
  | _ => none }
def RankAddsWrongFalsely : Prop := rankAddsRow.holds Try.pinned (OpenSpec.ofChange rankAddsWrong)

/-- 'sandpilelaw38.RankVerifies': WHATEVER THE INPUT: true; the input reads as it did. -/
def rankVerifiesSpec : ChangeSpec := { name := "rankVerifies", fn := fun _ => fun
  | [d1, d2, d3] => { results := [.lit (.bool true)], args := [d1, d2, d3] }
  | _ => none }
def rankVerifiesRow : OpenClaim := { program := "ytmeoemmemjipdaa", sum := "3b117799d21977a4014fe4530340c2c5e801012da0a05341c8987720efd06f6e", func := "sandpile/sandpilelaw38.RankVerifies", spec := "rankVerifies", unfollowed := true, recurses := true, plainKeys := false, apart := false }
def RankVerifiesSaid : Prop := rankVerifiesRow.holds Try.pinned (OpenSpec.ofChange rankVerifiesSpec)

/-- ITS FALSE NEIGHBOUR: 'it returns false'. Refute it at one input. -/
def rankVerifiesWrong : ChangeSpec := { name := "rankVerifies", fn := fun _ => fun
  | [d1, d2, d3] => { results := [.lit (.bool false)], args := [d1, d2, d3] }
  | _ => none }
def RankVerifiesWrongFalsely : Prop := rankVerifiesRow.holds Try.pinned (OpenSpec.ofChange rankVerifiesWrong)

/-- 'sandpilelaw38.RankMoves': WHATEVER THE INPUT: true; the input reads as it did. -/
def rankMovesSpec : ChangeSpec := { name := "rankMoves", fn := fun _ => fun
  | [d1, d2, d3] => { results := [.lit (.bool true)], args := [d1, d2, d3] }
  | _ => none }
def rankMovesRow : OpenClaim := { program := "ytmeoemmemjipdaa", sum := "3b117799d21977a4014fe4530340c2c5e801012da0a05341c8987720efd06f6e", func := "sandpile/sandpilelaw38.RankMoves", spec := "rankMoves", unfollowed := true, recurses := true, plainKeys := false, apart := false }
def RankMovesSaid : Prop := rankMovesRow.holds Try.pinned (OpenSpec.ofChange rankMovesSpec)

/-- ITS FALSE NEIGHBOUR: 'it returns false'. Refute it at one input. -/
def rankMovesWrong : ChangeSpec := { name := "rankMoves", fn := fun _ => fun
  | [d1, d2, d3] => { results := [.lit (.bool false)], args := [d1, d2, d3] }
  | _ => none }
def RankMovesWrongFalsely : Prop := rankMovesRow.holds Try.pinned (OpenSpec.ofChange rankMovesWrong)

/-- 'sandpilelaw38.RankRefutes': WHATEVER THE INPUT: true; the input reads as it did. -/
def rankRefutesSpec : ChangeSpec := { name := "rankRefutes", fn := fun _ => fun
  | [d1, d2, d3] => { results := [.lit (.bool true)], args := [d1, d2, d3] }
  | _ => none }
def rankRefutesRow : OpenClaim := { program := "ytmeoemmemjipdaa", sum := "3b117799d21977a4014fe4530340c2c5e801012da0a05341c8987720efd06f6e", func := "sandpile/sandpilelaw38.RankRefutes", spec := "rankRefutes", unfollowed := true, recurses := true, plainKeys := false, apart := false }
def RankRefutesSaid : Prop := rankRefutesRow.holds Try.pinned (OpenSpec.ofChange rankRefutesSpec)

/-- ITS FALSE NEIGHBOUR: 'it returns false'. Refute it at one input. -/
def rankRefutesWrong : ChangeSpec := { name := "rankRefutes", fn := fun _ => fun
  | [d1, d2, d3] => { results := [.lit (.bool false)], args := [d1, d2, d3] }
  | _ => none }
def RankRefutesWrongFalsely : Prop := rankRefutesRow.holds Try.pinned (OpenSpec.ofChange rankRefutesWrong)

/-- 'sandpilelaw38.RankAgrees': WHATEVER THE INPUT: true; the input reads as it did. -/
def rankAgreesSpec : ChangeSpec := { name := "rankAgrees", fn := fun _ => fun
  | [d1, d2] => { results := [.lit (.bool true)], args := [d1, d2] }
  | _ => none }
def rankAgreesRow : OpenClaim := { program := "ytmeoemmemjipdaa", sum := "3b117799d21977a4014fe4530340c2c5e801012da0a05341c8987720efd06f6e", func := "sandpile/sandpilelaw38.RankAgrees", spec := "rankAgrees", unfollowed := true, recurses := true, plainKeys := false, apart := false }
def RankAgreesSaid : Prop := rankAgreesRow.holds Try.pinned (OpenSpec.ofChange rankAgreesSpec)

/-- ITS FALSE NEIGHBOUR: 'it returns false'. Refute it at one input. -/
def rankAgreesWrong : ChangeSpec := { name := "rankAgrees", fn := fun _ => fun
  | [d1, d2] => { results := [.lit (.bool false)], args := [d1, d2] }
  | _ => none }
def RankAgreesWrongFalsely : Prop := rankAgreesRow.holds Try.pinned (OpenSpec.ofChange rankAgreesWrong)

/-- 'sandpiletop.TopDollarsPrice': WHATEVER THE INPUT: true; the input reads as it did. -/
def topDollarsPriceSpec : ChangeSpec := { name := "topDollarsPrice", fn := fun _ => fun
  | [d1, d2, d3] => { results := [.lit (.bool true)], args := [d1, d2, d3] }
  | _ => none }
def topDollarsPriceRow : OpenClaim := { program := "ytmeoemmemjipdaa", sum := "3b117799d21977a4014fe4530340c2c5e801012da0a05341c8987720efd06f6e", func := "sandpile/sandpiletop.TopDollarsPrice", spec := "topDollarsPrice", unfollowed := true, recurses := true, plainKeys := false, apart := false }
def TopDollarsPriceSaid : Prop := topDollarsPriceRow.holds Try.pinned (OpenSpec.ofChange topDollarsPriceSpec)

/-- ITS FALSE NEIGHBOUR: 'it returns false'. Refute it at one input. -/
def topDollarsPriceWrong : ChangeSpec := { name := "topDollarsPrice", fn := fun _ => fun
  | [d1, d2, d3] => { results := [.lit (.bool false)], args := [d1, d2, d3] }
  | _ => none }
def TopDollarsPriceWrongFalsely : Prop := topDollarsPriceRow.holds Try.pinned (OpenSpec.ofChange topDollarsPriceWrong)

/- THE SECOND FORM. 'bulk': how many values and letters a reading holds, each counted each time it is reached (what is shared counts as often as it is met; a slice's spare places count too). A statement '..UptoSaid' is the law's where the arguments, and the package variables that the reading takes, are together of bulk at most 1048576: NARROWER than '..Said'. Prove '..Said' where nothing that the law and all that it calls make is longer than what came in: it says more and counts as full. Else prove '..UptoSaid'. A law counts once. -/
mutual
def uptoBulk {H : Type} : DataW H → Nat
  | .lit (.string bytes) => bytes.length + 1
  | .lit _ => 1
  | .nil => 1
  | .ptr d => uptoBulk d + 1
  | .slice elems spare => uptoBulkAll elems + uptoBulkAll spare + 1
  | .agg parts => uptoBulkAll parts + 1
  | .iface _ d => uptoBulk d + 1
  | .map entries => uptoBulkEntries entries + 1
  | .held _ => 1
def uptoBulkAll {H : Type} : List (DataW H) → Nat
  | [] => 0
  | d :: r => uptoBulk d + uptoBulkAll r
def uptoBulkEntries {H : Type} : List (Lit × DataW H) → Nat
  | [] => 0
  | x :: r => uptoBulkEntry x + uptoBulkEntries r
def uptoBulkEntry {H : Type} : Lit × DataW H → Nat
  | (.string bytes, d) => bytes.length + uptoBulk d + 1
  | (_, d) => uptoBulk d + 1
 end
def uptoSmall : (H : Type) → List (DataW H) → Bool := fun _ ds => decide (uptoBulkAll ds ≤ 1048576)
def OpenSpec.upto (s : _root_.Go.ChangeSpec) : _root_.Go.OpenSpec := { _root_.Go.OpenSpec.ofChange s with cond := some uptoSmall }

/-- 'sandpilelaw38.RankCounts', WHERE WHAT IT READS IS OF BULK AT MOST 1048576: true; the input reads as it did. -/
def rankCountsUptoRow : OpenClaim := { program := "ytmeoemmemjipdaa", sum := "3b117799d21977a4014fe4530340c2c5e801012da0a05341c8987720efd06f6e", func := "sandpile/sandpilelaw38.RankCounts", spec := "rankCounts", unfollowed := true, recurses := true, plainKeys := false, apart := false, narrowed := true }
def RankCountsUptoSaid : Prop := rankCountsUptoRow.holds Try.pinned (OpenSpec.upto rankCountsSpec)

/-- 'sandpilelaw38.RankAdds', WHERE WHAT IT READS IS OF BULK AT MOST 1048576: true; the input reads as it did. -/
def rankAddsUptoRow : OpenClaim := { program := "ytmeoemmemjipdaa", sum := "3b117799d21977a4014fe4530340c2c5e801012da0a05341c8987720efd06f6e", func := "sandpile/sandpilelaw38.RankAdds", spec := "rankAdds", unfollowed := true, recurses := true, plainKeys := false, apart := false, narrowed := true }
def RankAddsUptoSaid : Prop := rankAddsUptoRow.holds Try.pinned (OpenSpec.upto rankAddsSpec)

/-- 'sandpilelaw38.RankVerifies', WHERE WHAT IT READS IS OF BULK AT MOST 1048576: true; the input reads as it did. -/
def rankVerifiesUptoRow : OpenClaim := { program := "ytmeoemmemjipdaa", sum := "3b117799d21977a4014fe4530340c2c5e801012da0a05341c8987720efd06f6e", func := "sandpile/sandpilelaw38.RankVerifies", spec := "rankVerifies", unfollowed := true, recurses := true, plainKeys := false, apart := false, narrowed := true }
def RankVerifiesUptoSaid : Prop := rankVerifiesUptoRow.holds Try.pinned (OpenSpec.upto rankVerifiesSpec)

/-- 'sandpilelaw38.RankMoves', WHERE WHAT IT READS IS OF BULK AT MOST 1048576: true; the input reads as it did. -/
def rankMovesUptoRow : OpenClaim := { program := "ytmeoemmemjipdaa", sum := "3b117799d21977a4014fe4530340c2c5e801012da0a05341c8987720efd06f6e", func := "sandpile/sandpilelaw38.RankMoves", spec := "rankMoves", unfollowed := true, recurses := true, plainKeys := false, apart := false, narrowed := true }
def RankMovesUptoSaid : Prop := rankMovesUptoRow.holds Try.pinned (OpenSpec.upto rankMovesSpec)

/-- 'sandpilelaw38.RankRefutes', WHERE WHAT IT READS IS OF BULK AT MOST 1048576: true; the input reads as it did. -/
def rankRefutesUptoRow : OpenClaim := { program := "ytmeoemmemjipdaa", sum := "3b117799d21977a4014fe4530340c2c5e801012da0a05341c8987720efd06f6e", func := "sandpile/sandpilelaw38.RankRefutes", spec := "rankRefutes", unfollowed := true, recurses := true, plainKeys := false, apart := false, narrowed := true }
def RankRefutesUptoSaid : Prop := rankRefutesUptoRow.holds Try.pinned (OpenSpec.upto rankRefutesSpec)

/-- 'sandpilelaw38.RankAgrees', WHERE WHAT IT READS IS OF BULK AT MOST 1048576: true; the input reads as it did. -/
def rankAgreesUptoRow : OpenClaim := { program := "ytmeoemmemjipdaa", sum := "3b117799d21977a4014fe4530340c2c5e801012da0a05341c8987720efd06f6e", func := "sandpile/sandpilelaw38.RankAgrees", spec := "rankAgrees", unfollowed := true, recurses := true, plainKeys := false, apart := false, narrowed := true }
def RankAgreesUptoSaid : Prop := rankAgreesUptoRow.holds Try.pinned (OpenSpec.upto rankAgreesSpec)

/-- 'sandpiletop.TopDollarsPrice', WHERE WHAT IT READS IS OF BULK AT MOST 1048576: true; the input reads as it did. -/
def topDollarsPriceUptoRow : OpenClaim := { program := "ytmeoemmemjipdaa", sum := "3b117799d21977a4014fe4530340c2c5e801012da0a05341c8987720efd06f6e", func := "sandpile/sandpiletop.TopDollarsPrice", spec := "topDollarsPrice", unfollowed := true, recurses := true, plainKeys := false, apart := false, narrowed := true }
def TopDollarsPriceUptoSaid : Prop := topDollarsPriceUptoRow.holds Try.pinned (OpenSpec.upto topDollarsPriceSpec)

end Rows
end Go.Proofs.Ytmeoemmemjipdaa
