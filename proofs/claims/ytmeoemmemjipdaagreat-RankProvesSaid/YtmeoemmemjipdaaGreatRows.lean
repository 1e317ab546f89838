/-
  No cell of these rows narrows 'for every input' (looked for: loops, veiled, ifaces, maps, wideKeys, modest, calm, conditions, laid).
  DERIVED. THE GIVEN ROWS OF THIS SEAT. 4 by the template 'for every input the law returns true; each argument reads behind the call as it read before'; 0 by the template 'total and deterministic' (their statements: YtmeoemmemjipdaaGreatTotals.lean).
  GIVEN WITH THE SEED: the statements are not yours to turn. If you find one false, say at which input.
  Laid BY PROGRAM, IN A SANDBOX (cutbox-rows.mjs): the forced cells as the released guide's own fill.sh prints them over the translation 2f9d07bbc9d51810… (all of the seat's roots in one cut). By AI agents, Wed Nov 11 2026. No macro, syntax, notation, axiom, sorry.
-/
import Derived.Test.YtmeoemmemjipdaaGreatChecked
import GoSem.Claim
import GoSem.ClaimJoined
import GoSem.ClaimMapViews
import Derived.JoinedTies
import Derived.KernelRfl
namespace Go.Proofs.YtmeoemmemjipdaaGreat
/- THE CELL 'sum', in the pinned program and in every row, IS THE sha256 OF THE DUMP (.gsa) THAT YtmeoemmemjipdaaGreatProg.lean LOADS. Nothing in Lean hashes anything: it is a label: what it is worth is what the hold of that sum in a sandbox is worth. -/
noncomputable def Tryz.pinned : Pinned := { name := "ytmeoemmemjipdaagreat", sum := "2f9d07bbc9d51810850fe03301bbbb27a807931a013c67d5afdeec36ed06acef", checked := Tryz.checked }
namespace Rows
def none {H : Type} : Left H := { results := [], args := [] }

/-- 'sandpilelaw38.RankProves': WHATEVER THE INPUT: true; the input reads as it did. -/
def rankProvesSpec : ChangeSpec := { name := "rankProves", fn := fun _ => fun
  | [d1, d2, d3] => { results := [.lit (.bool true)], args := [d1, d2, d3] }
  | _ => none }
def rankProvesRow : OpenClaim := { program := "ytmeoemmemjipdaagreat", sum := "2f9d07bbc9d51810850fe03301bbbb27a807931a013c67d5afdeec36ed06acef", func := "sandpile/sandpilelaw38.RankProves", spec := "rankProves", unfollowed := true, recurses := true, plainKeys := false, apart := false }
def RankProvesSaid : Prop := rankProvesRow.holds Tryz.pinned (OpenSpec.ofChange rankProvesSpec)

/-- ITS FALSE NEIGHBOUR: 'it returns false'. Refute it at one input. -/
def rankProvesWrong : ChangeSpec := { name := "rankProves", fn := fun _ => fun
  | [d1, d2, d3] => { results := [.lit (.bool false)], args := [d1, d2, d3] }
  | _ => none }
def RankProvesWrongFalsely : Prop := rankProvesRow.holds Tryz.pinned (OpenSpec.ofChange rankProvesWrong)

/-- 'sandpiletop.TopDollarsMirror': WHATEVER THE INPUT: true; the input reads as it did. -/
def topDollarsMirrorSpec : ChangeSpec := { name := "topDollarsMirror", fn := fun _ => fun
  | [d1, d2, d3] => { results := [.lit (.bool true)], args := [d1, d2, d3] }
  | _ => none }
def topDollarsMirrorRow : OpenClaim := { program := "ytmeoemmemjipdaagreat", sum := "2f9d07bbc9d51810850fe03301bbbb27a807931a013c67d5afdeec36ed06acef", func := "sandpile/sandpiletop.TopDollarsMirror", spec := "topDollarsMirror", unfollowed := true, recurses := true, plainKeys := false, apart := false }
def TopDollarsMirrorSaid : Prop := topDollarsMirrorRow.holds Tryz.pinned (OpenSpec.ofChange topDollarsMirrorSpec)

/-- ITS FALSE NEIGHBOUR: 'it returns false'. Refute it at one input. -/
def topDollarsMirrorWrong : ChangeSpec := { name := "topDollarsMirror", fn := fun _ => fun
  | [d1, d2, d3] => { results := [.lit (.bool false)], args := [d1, d2, d3] }
  | _ => none }
def TopDollarsMirrorWrongFalsely : Prop := topDollarsMirrorRow.holds Tryz.pinned (OpenSpec.ofChange topDollarsMirrorWrong)

/-- 'sandpiletop.TopDollarsMoves': WHATEVER THE INPUT: true; the input reads as it did. -/
def topDollarsMovesSpec : ChangeSpec := { name := "topDollarsMoves", fn := fun _ => fun
  | [d1, d2, d3] => { results := [.lit (.bool true)], args := [d1, d2, d3] }
  | _ => none }
def topDollarsMovesRow : OpenClaim := { program := "ytmeoemmemjipdaagreat", sum := "2f9d07bbc9d51810850fe03301bbbb27a807931a013c67d5afdeec36ed06acef", func := "sandpile/sandpiletop.TopDollarsMoves", spec := "topDollarsMoves", unfollowed := true, recurses := true, plainKeys := false, apart := false }
def TopDollarsMovesSaid : Prop := topDollarsMovesRow.holds Tryz.pinned (OpenSpec.ofChange topDollarsMovesSpec)

/-- ITS FALSE NEIGHBOUR: 'it returns false'. Refute it at one input. -/
def topDollarsMovesWrong : ChangeSpec := { name := "topDollarsMoves", fn := fun _ => fun
  | [d1, d2, d3] => { results := [.lit (.bool false)], args := [d1, d2, d3] }
  | _ => none }
def TopDollarsMovesWrongFalsely : Prop := topDollarsMovesRow.holds Tryz.pinned (OpenSpec.ofChange topDollarsMovesWrong)

/-- 'sandpiletop.TopRochHolds': WHATEVER THE INPUT: true; the input reads as it did. -/
def topRochHoldsSpec : ChangeSpec := { name := "topRochHolds", fn := fun _ => fun
  | [d1, d2] => { results := [.lit (.bool true)], args := [d1, d2] }
  | _ => none }
def topRochHoldsRow : OpenClaim := { program := "ytmeoemmemjipdaagreat", sum := "2f9d07bbc9d51810850fe03301bbbb27a807931a013c67d5afdeec36ed06acef", func := "sandpile/sandpiletop.TopRochHolds", spec := "topRochHolds", unfollowed := true, recurses := true, plainKeys := false, apart := false }
def TopRochHoldsSaid : Prop := topRochHoldsRow.holds Tryz.pinned (OpenSpec.ofChange topRochHoldsSpec)

/-- ITS FALSE NEIGHBOUR: 'it returns false'. Refute it at one input. -/
def topRochHoldsWrong : ChangeSpec := { name := "topRochHolds", fn := fun _ => fun
  | [d1, d2] => { results := [.lit (.bool false)], args := [d1, d2] }
  | _ => none }
def TopRochHoldsWrongFalsely : Prop := topRochHoldsRow.holds Tryz.pinned (OpenSpec.ofChange topRochHoldsWrong)

/- THE SECOND FORM. 'bulk': how many values and letters a reading holds, each counted each time it is reached (what is shared counts as often as it is met; a slice's spare places count too). A statement '..UptoSaid' is the law's where the arguments, and the package variables that the reading takes, are together of bulk at most 1048576: NARROWER than '..Said'. Prove '..Said' where nothing that the law and all that it calls make is longer than what came in: it says more and counts as full. Else prove '..UptoSaid'. A law counts once. -/
mutual
def uptoBulk {H : Type} : DataW H → Nat
  | .lit (.string bytes) => bytes.length + 1
  | .lit _ => 1
  | .nil => 1
  | .ptr d => uptoBulk d + 1
  | .slice elems spare => uptoBulkAll elems + uptoBulkAll spare + 1
  | .agg parts => uptoBulkAll parts + 1
  | .iface _ d => uptoBulk d + 1
  | .map entries => uptoBulkEntries entries + 1
  | .held _ => 1
def uptoBulkAll {H : Type} : List (DataW H) → Nat
  | [] => 0
  | d :: r => uptoBulk d + uptoBulkAll r
def uptoBulkEntries {H : Type} : List (Lit × DataW H) → Nat
  | [] => 0
  | x :: r => uptoBulkEntry x + uptoBulkEntries r
def uptoBulkEntry {H : Type} : Lit × DataW H → Nat
  | (.string bytes, d) => bytes.length + uptoBulk d + 1
  | (_, d) => uptoBulk d + 1
 end
def uptoSmall : (H : Type) → List (DataW H) → Bool := fun _ ds => decide (uptoBulkAll ds ≤ 1048576)
def OpenSpec.upto (s : _root_.Go.ChangeSpec) : _root_.Go.OpenSpec := { _root_.Go.OpenSpec.ofChange s with cond := some uptoSmall }

/-- 'sandpilelaw38.RankProves', WHERE WHAT IT READS IS OF BULK AT MOST 1048576: true; the input reads as it did. -/
def rankProvesUptoRow : OpenClaim := { program := "ytmeoemmemjipdaagreat", sum := "2f9d07bbc9d51810850fe03301bbbb27a807931a013c67d5afdeec36ed06acef", func := "sandpile/sandpilelaw38.RankProves", spec := "rankProves", unfollowed := true, recurses := true, plainKeys := false, apart := false, narrowed := true }
def RankProvesUptoSaid : Prop := rankProvesUptoRow.holds Tryz.pinned (OpenSpec.upto rankProvesSpec)

/-- 'sandpiletop.TopDollarsMirror', WHERE WHAT IT READS IS OF BULK AT MOST 1048576: true; the input reads as it did. -/
def topDollarsMirrorUptoRow : OpenClaim := { program := "ytmeoemmemjipdaagreat", sum := "2f9d07bbc9d51810850fe03301bbbb27a807931a013c67d5afdeec36ed06acef", func := "sandpile/sandpiletop.TopDollarsMirror", spec := "topDollarsMirror", unfollowed := true, recurses := true, plainKeys := false, apart := false, narrowed := true }
def TopDollarsMirrorUptoSaid : Prop := topDollarsMirrorUptoRow.holds Tryz.pinned (OpenSpec.upto topDollarsMirrorSpec)

/-- 'sandpiletop.TopDollarsMoves', WHERE WHAT IT READS IS OF BULK AT MOST 1048576: true; the input reads as it did. -/
def topDollarsMovesUptoRow : OpenClaim := { program := "ytmeoemmemjipdaagreat", sum := "2f9d07bbc9d51810850fe03301bbbb27a807931a013c67d5afdeec36ed06acef", func := "sandpile/sandpiletop.TopDollarsMoves", spec := "topDollarsMoves", unfollowed := true, recurses := true, plainKeys := false, apart := false, narrowed := true }
def TopDollarsMovesUptoSaid : Prop := topDollarsMovesUptoRow.holds Tryz.pinned (OpenSpec.upto topDollarsMovesSpec)

/-- 'sandpiletop.TopRochHolds', WHERE WHAT IT READS IS OF BULK AT MOST 1048576: true; the input reads as it did. -/
def topRochHoldsUptoRow : OpenClaim := { program := "ytmeoemmemjipdaagreat", sum := "2f9d07bbc9d51810850fe03301bbbb27a807931a013c67d5afdeec36ed06acef", func := "sandpile/sandpiletop.TopRochHolds", spec := "topRochHolds", unfollowed := true, recurses := true, plainKeys := false, apart := false, narrowed := true }
def TopRochHoldsUptoSaid : Prop := topRochHoldsUptoRow.holds Tryz.pinned (OpenSpec.upto topRochHoldsSpec)

end Rows
end Go.Proofs.YtmeoemmemjipdaaGreat
