/-
  No cell of these rows narrows 'for every input' (looked for: loops, veiled, ifaces, maps, wideKeys, modest, calm, conditions, laid).
  DERIVED. THE GIVEN ROWS OF THIS SEAT. 9 by the template 'for every input the law returns true; each argument reads behind the call as it read before'; 0 by the template 'total and deterministic' (their statements: YtncilechkclmbaaGreatTotals.lean).
  GIVEN WITH THE SEED: the statements are not yours to turn. If you find one false, say at which input.
  Laid BY PROGRAM, IN A SANDBOX (cutbox-rows.mjs): the forced cells as the released guide's own fill.sh prints them over the translation 798d932987a838ad… (all of the seat's roots in one cut). By AI agents, Wed Nov 11 2026. No macro, syntax, notation, axiom, sorry.
-/
import Derived.Test.YtncilechkclmbaaGreatChecked
import GoSem.Claim
import GoSem.ClaimJoined
import GoSem.ClaimMapViews
import Derived.JoinedTies
import Derived.KernelRfl
namespace Go.Proofs.YtncilechkclmbaaGreat
/- THE CELL 'sum', in the pinned program and in every row, IS THE sha256 OF THE DUMP (.gsa) THAT YtncilechkclmbaaGreatProg.lean LOADS. Nothing in Lean hashes anything: it is a label: what it is worth is what the hold of that sum in a sandbox is worth. -/
noncomputable def Tryz.pinned : Pinned := { name := "ytncilechkclmbaagreat", sum := "798d932987a838ad473feaaba72680689f4e8d8a94d0f8d2172aff6927df30cc", checked := Tryz.checked }
namespace Rows
def none {H : Type} : Left H := { results := [], args := [] }

/-- 'sandpilelaw37.SystemReaches': WHATEVER THE INPUT: true; the input reads as it did. -/
def systemReachesSpec : ChangeSpec := { name := "systemReaches", fn := fun _ => fun
  | [d1, d2] => { results := [.lit (.bool true)], args := [d1, d2] }
  | _ => none }
def systemReachesRow : OpenClaim := { program := "ytncilechkclmbaagreat", sum := "798d932987a838ad473feaaba72680689f4e8d8a94d0f8d2172aff6927df30cc", func := "sandpile/sandpilelaw37.SystemReaches", spec := "systemReaches", unfollowed := true, recurses := true, plainKeys := false, apart := false }
def SystemReachesSaid : Prop := systemReachesRow.holds Tryz.pinned (OpenSpec.ofChange systemReachesSpec)

/-- ITS FALSE NEIGHBOUR: 'it returns false'. Refute it at one input. -/
def systemReachesWrong : ChangeSpec := { name := "systemReaches", fn := fun _ => fun
  | [d1, d2] => { results := [.lit (.bool false)], args := [d1, d2] }
  | _ => none }
def SystemReachesWrongFalsely : Prop := systemReachesRow.holds Tryz.pinned (OpenSpec.ofChange systemReachesWrong)

/-- 'sandpilelaw37.SystemAdds': WHATEVER THE INPUT: true; the input reads as it did. -/
def systemAddsSpec : ChangeSpec := { name := "systemAdds", fn := fun _ => fun
  | [d1, d2, d3] => { results := [.lit (.bool true)], args := [d1, d2, d3] }
  | _ => none }
def systemAddsRow : OpenClaim := { program := "ytncilechkclmbaagreat", sum := "798d932987a838ad473feaaba72680689f4e8d8a94d0f8d2172aff6927df30cc", func := "sandpile/sandpilelaw37.SystemAdds", spec := "systemAdds", unfollowed := true, recurses := true, plainKeys := false, apart := false }
def SystemAddsSaid : Prop := systemAddsRow.holds Tryz.pinned (OpenSpec.ofChange systemAddsSpec)

/-- ITS FALSE NEIGHBOUR: 'it returns false'. Refute it at one input. -/
def systemAddsWrong : ChangeSpec := { name := "systemAdds", fn := fun _ => fun
  | [d1, d2, d3] => { results := [.lit (.bool false)], args := [d1, d2, d3] }
  | _ => none }
def SystemAddsWrongFalsely : Prop := systemAddsRow.holds Tryz.pinned (OpenSpec.ofChange systemAddsWrong)

/-- 'sandpilelaw37.SystemAgrees': WHATEVER THE INPUT: true; the input reads as it did. -/
def systemAgreesSpec : ChangeSpec := { name := "systemAgrees", fn := fun _ => fun
  | [d1, d2, d3] => { results := [.lit (.bool true)], args := [d1, d2, d3] }
  | _ => none }
def systemAgreesRow : OpenClaim := { program := "ytncilechkclmbaagreat", sum := "798d932987a838ad473feaaba72680689f4e8d8a94d0f8d2172aff6927df30cc", func := "sandpile/sandpilelaw37.SystemAgrees", spec := "systemAgrees", unfollowed := true, recurses := true, plainKeys := false, apart := false }
def SystemAgreesSaid : Prop := systemAgreesRow.holds Tryz.pinned (OpenSpec.ofChange systemAgreesSpec)

/-- ITS FALSE NEIGHBOUR: 'it returns false'. Refute it at one input. -/
def systemAgreesWrong : ChangeSpec := { name := "systemAgrees", fn := fun _ => fun
  | [d1, d2, d3] => { results := [.lit (.bool false)], args := [d1, d2, d3] }
  | _ => none }
def SystemAgreesWrongFalsely : Prop := systemAgreesRow.holds Tryz.pinned (OpenSpec.ofChange systemAgreesWrong)

/-- 'sandpilelaw38.RankCovers': WHATEVER THE INPUT: true; the input reads as it did. -/
def rankCoversSpec : ChangeSpec := { name := "rankCovers", fn := fun _ => fun
  | [d1, d2, d3] => { results := [.lit (.bool true)], args := [d1, d2, d3] }
  | _ => none }
def rankCoversRow : OpenClaim := { program := "ytncilechkclmbaagreat", sum := "798d932987a838ad473feaaba72680689f4e8d8a94d0f8d2172aff6927df30cc", func := "sandpile/sandpilelaw38.RankCovers", spec := "rankCovers", unfollowed := true, recurses := true, plainKeys := false, apart := false }
def RankCoversSaid : Prop := rankCoversRow.holds Tryz.pinned (OpenSpec.ofChange rankCoversSpec)

/-- ITS FALSE NEIGHBOUR: 'it returns false'. Refute it at one input. -/
def rankCoversWrong : ChangeSpec := { name := "rankCovers", fn := fun _ => fun
  | [d1, d2, d3] => { results := [.lit (.bool false)], args := [d1, d2, d3] }
  | _ => none }
def RankCoversWrongFalsely : Prop := rankCoversRow.holds Tryz.pinned (OpenSpec.ofChange rankCoversWrong)

/-- 'sandpiletop.TopReducedDecides': WHATEVER THE INPUT: true; the input reads as it did. -/
def topReducedDecidesSpec : ChangeSpec := { name := "topReducedDecides", fn := fun _ => fun
  | [d1, d2] => { results := [.lit (.bool true)], args := [d1, d2] }
  | _ => none }
def topReducedDecidesRow : OpenClaim := { program := "ytncilechkclmbaagreat", sum := "798d932987a838ad473feaaba72680689f4e8d8a94d0f8d2172aff6927df30cc", func := "sandpile/sandpiletop.TopReducedDecides", spec := "topReducedDecides", unfollowed := true, recurses := true, plainKeys := false, apart := false }
def TopReducedDecidesSaid : Prop := topReducedDecidesRow.holds Tryz.pinned (OpenSpec.ofChange topReducedDecidesSpec)

/-- ITS FALSE NEIGHBOUR: 'it returns false'. Refute it at one input. -/
def topReducedDecidesWrong : ChangeSpec := { name := "topReducedDecides", fn := fun _ => fun
  | [d1, d2] => { results := [.lit (.bool false)], args := [d1, d2] }
  | _ => none }
def TopReducedDecidesWrongFalsely : Prop := topReducedDecidesRow.holds Tryz.pinned (OpenSpec.ofChange topReducedDecidesWrong)

/-- 'sandpiletop.TopReducedSame': WHATEVER THE INPUT: true; the input reads as it did. -/
def topReducedSameSpec : ChangeSpec := { name := "topReducedSame", fn := fun _ => fun
  | [d1, d2, d3] => { results := [.lit (.bool true)], args := [d1, d2, d3] }
  | _ => none }
def topReducedSameRow : OpenClaim := { program := "ytncilechkclmbaagreat", sum := "798d932987a838ad473feaaba72680689f4e8d8a94d0f8d2172aff6927df30cc", func := "sandpile/sandpiletop.TopReducedSame", spec := "topReducedSame", unfollowed := true, recurses := true, plainKeys := false, apart := false }
def TopReducedSameSaid : Prop := topReducedSameRow.holds Tryz.pinned (OpenSpec.ofChange topReducedSameSpec)

/-- ITS FALSE NEIGHBOUR: 'it returns false'. Refute it at one input. -/
def topReducedSameWrong : ChangeSpec := { name := "topReducedSame", fn := fun _ => fun
  | [d1, d2, d3] => { results := [.lit (.bool false)], args := [d1, d2, d3] }
  | _ => none }
def TopReducedSameWrongFalsely : Prop := topReducedSameRow.holds Tryz.pinned (OpenSpec.ofChange topReducedSameWrong)

/-- 'sandpiletop.TopReducedCounts': WHATEVER THE INPUT: true; the input reads as it did. -/
def topReducedCountsSpec : ChangeSpec := { name := "topReducedCounts", fn := fun _ => fun
  | [d1, d2] => { results := [.lit (.bool true)], args := [d1, d2] }
  | _ => none }
def topReducedCountsRow : OpenClaim := { program := "ytncilechkclmbaagreat", sum := "798d932987a838ad473feaaba72680689f4e8d8a94d0f8d2172aff6927df30cc", func := "sandpile/sandpiletop.TopReducedCounts", spec := "topReducedCounts", unfollowed := true, recurses := true, plainKeys := false, apart := false }
def TopReducedCountsSaid : Prop := topReducedCountsRow.holds Tryz.pinned (OpenSpec.ofChange topReducedCountsSpec)

/-- ITS FALSE NEIGHBOUR: 'it returns false'. Refute it at one input. -/
def topReducedCountsWrong : ChangeSpec := { name := "topReducedCounts", fn := fun _ => fun
  | [d1, d2] => { results := [.lit (.bool false)], args := [d1, d2] }
  | _ => none }
def TopReducedCountsWrongFalsely : Prop := topReducedCountsRow.holds Tryz.pinned (OpenSpec.ofChange topReducedCountsWrong)

/-- 'sandpiletop.TopDollarsMirror': WHATEVER THE INPUT: true; the input reads as it did. -/
def topDollarsMirrorSpec : ChangeSpec := { name := "topDollarsMirror", fn := fun _ => fun
  | [d1, d2, d3] => { results := [.lit (.bool true)], args := [d1, d2, d3] }
  | _ => none }
def topDollarsMirrorRow : OpenClaim := { program := "ytncilechkclmbaagreat", sum := "798d932987a838ad473feaaba72680689f4e8d8a94d0f8d2172aff6927df30cc", func := "sandpile/sandpiletop.TopDollarsMirror", spec := "topDollarsMirror", unfollowed := true, recurses := true, plainKeys := false, apart := false }
def TopDollarsMirrorSaid : Prop := topDollarsMirrorRow.holds Tryz.pinned (OpenSpec.ofChange topDollarsMirrorSpec)

/-- ITS FALSE NEIGHBOUR: 'it returns false'. Refute it at one input. -/
def topDollarsMirrorWrong : ChangeSpec := { name := "topDollarsMirror", fn := fun _ => fun
  | [d1, d2, d3] => { results := [.lit (.bool false)], args := [d1, d2, d3] }
  | _ => none }
def TopDollarsMirrorWrongFalsely : Prop := topDollarsMirrorRow.holds Tryz.pinned (OpenSpec.ofChange topDollarsMirrorWrong)

/-- 'sandpiletop.TopDollarsMoves': WHATEVER THE INPUT: true; the input reads as it did. -/
def topDollarsMovesSpec : ChangeSpec := { name := "topDollarsMoves", fn := fun _ => fun
  | [d1, d2, d3] => { results := [.lit (.bool true)], args := [d1, d2, d3] }
  | _ => none }
def topDollarsMovesRow : OpenClaim := { program := "ytncilechkclmbaagreat", sum := "798d932987a838ad473feaaba72680689f4e8d8a94d0f8d2172aff6927df30cc", func := "sandpile/sandpiletop.TopDollarsMoves", spec := "topDollarsMoves", unfollowed := true, recurses := true, plainKeys := false, apart := false }
def TopDollarsMovesSaid : Prop := topDollarsMovesRow.holds Tryz.pinned (OpenSpec.ofChange topDollarsMovesSpec)

/-- ITS FALSE NEIGHBOUR: 'it returns false'. Refute it at one input. -/
def topDollarsMovesWrong : ChangeSpec := { name := "topDollarsMoves", fn := fun _ => fun
  | [d1, d2, d3] => { results := [.lit (.bool false)], args := [d1, d2, d3] }
  | _ => none }
def TopDollarsMovesWrongFalsely : Prop := topDollarsMovesRow.holds Tryz.pinned (OpenSpec.ofChange topDollarsMovesWrong)

/- THE SECOND FORM. 'bulk': how many values and letters a reading holds, each counted each time it is reached (what is shared counts as often as it is met; a slice's spare places count too). A statement '..UptoSaid' is the law's where the arguments, and the package variables that the reading takes, are together of bulk at most 1048576: NARROWER than '..Said'. Prove '..Said' where nothing that the law and all that it calls make is longer than what came in: it says more and counts as full. Else prove '..UptoSaid'. A law counts once. -/
mutual
def uptoBulk {H : Type} : DataW H → Nat
  | .lit (.string bytes) => bytes.length + 1
  | .lit _ => 1
  | .nil => 1
  | .ptr d => uptoBulk d + 1
  | .slice elems spare => uptoBulkAll elems + uptoBulkAll spare + 1
  | .agg parts => uptoBulkAll parts + 1
  | .iface _ d => uptoBulk d + 1
  | .map entries => uptoBulkEntries entries + 1
  | .held _ => 1
def uptoBulkAll {H : Type} : List (DataW H) → Nat
  | [] => 0
  | d :: r => uptoBulk d + uptoBulkAll r
def uptoBulkEntries {H : Type} : List (Lit × DataW H) → Nat
  | [] => 0
  | x :: r => uptoBulkEntry x + uptoBulkEntries r
def uptoBulkEntry {H : Type} : Lit × DataW H → Nat
  | (.string bytes, d) => bytes.length + uptoBulk d + 1
  | (_, d) => uptoBulk d + 1
 end
def uptoSmall : (H : Type) → List (DataW H) → Bool := fun _ ds => decide (uptoBulkAll ds ≤ 1048576)
def OpenSpec.upto (s : _root_.Go.ChangeSpec) : _root_.Go.OpenSpec := { _root_.Go.OpenSpec.ofChange s with cond := some uptoSmall }

/-- 'sandpilelaw37.SystemReaches', WHERE WHAT IT READS IS OF BULK AT MOST 1048576: true; the input reads as it did. -/
def systemReachesUptoRow : OpenClaim := { program := "ytncilechkclmbaagreat", sum := "798d932987a838ad473feaaba72680689f4e8d8a94d0f8d2172aff6927df30cc", func := "sandpile/sandpilelaw37.SystemReaches", spec := "systemReaches", unfollowed := true, recurses := true, plainKeys := false, apart := false, narrowed := true }
def SystemReachesUptoSaid : Prop := systemReachesUptoRow.holds Tryz.pinned (OpenSpec.upto systemReachesSpec)

/-- 'sandpilelaw37.SystemAdds', WHERE WHAT IT READS IS OF BULK AT MOST 1048576: true; the input reads as it did. -/
def systemAddsUptoRow : OpenClaim := { program := "ytncilechkclmbaagreat", sum := "798d932987a838ad473feaaba72680689f4e8d8a94d0f8d2172aff6927df30cc", func := "sandpile/sandpilelaw37.SystemAdds", spec := "systemAdds", unfollowed := true, recurses := true, plainKeys := false, apart := false, narrowed := true }
def SystemAddsUptoSaid : Prop := systemAddsUptoRow.holds Tryz.pinned (OpenSpec.upto systemAddsSpec)

/-- 'sandpilelaw37.SystemAgrees', WHERE WHAT IT READS IS OF BULK AT MOST 1048576: true; the input reads as it did. -/
def systemAgreesUptoRow : OpenClaim := { program := "ytncilechkclmbaagreat", sum := "798d932987a838ad473feaaba72680689f4e8d8a94d0f8d2172aff6927df30cc", func := "sandpile/sandpilelaw37.SystemAgrees", spec := "systemAgrees", unfollowed := true, recurses := true, plainKeys := false, apart := false, narrowed := true }
def SystemAgreesUptoSaid : Prop := systemAgreesUptoRow.holds Tryz.pinned (OpenSpec.upto systemAgreesSpec)

/-- 'sandpilelaw38.RankCovers', WHERE WHAT IT READS IS OF BULK AT MOST 1048576: true; the input reads as it did. -/
def rankCoversUptoRow : OpenClaim := { program := "ytncilechkclmbaagreat", sum := "798d932987a838ad473feaaba72680689f4e8d8a94d0f8d2172aff6927df30cc", func := "sandpile/sandpilelaw38.RankCovers", spec := "rankCovers", unfollowed := true, recurses := true, plainKeys := false, apart := false, narrowed := true }
def RankCoversUptoSaid : Prop := rankCoversUptoRow.holds Tryz.pinned (OpenSpec.upto rankCoversSpec)

/-- 'sandpiletop.TopReducedDecides', WHERE WHAT IT READS IS OF BULK AT MOST 1048576: true; the input reads as it did. -/
def topReducedDecidesUptoRow : OpenClaim := { program := "ytncilechkclmbaagreat", sum := "798d932987a838ad473feaaba72680689f4e8d8a94d0f8d2172aff6927df30cc", func := "sandpile/sandpiletop.TopReducedDecides", spec := "topReducedDecides", unfollowed := true, recurses := true, plainKeys := false, apart := false, narrowed := true }
def TopReducedDecidesUptoSaid : Prop := topReducedDecidesUptoRow.holds Tryz.pinned (OpenSpec.upto topReducedDecidesSpec)

/-- 'sandpiletop.TopReducedSame', WHERE WHAT IT READS IS OF BULK AT MOST 1048576: true; the input reads as it did. -/
def topReducedSameUptoRow : OpenClaim := { program := "ytncilechkclmbaagreat", sum := "798d932987a838ad473feaaba72680689f4e8d8a94d0f8d2172aff6927df30cc", func := "sandpile/sandpiletop.TopReducedSame", spec := "topReducedSame", unfollowed := true, recurses := true, plainKeys := false, apart := false, narrowed := true }
def TopReducedSameUptoSaid : Prop := topReducedSameUptoRow.holds Tryz.pinned (OpenSpec.upto topReducedSameSpec)

/-- 'sandpiletop.TopReducedCounts', WHERE WHAT IT READS IS OF BULK AT MOST 1048576: true; the input reads as it did. -/
def topReducedCountsUptoRow : OpenClaim := { program := "ytncilechkclmbaagreat", sum := "798d932987a838ad473feaaba72680689f4e8d8a94d0f8d2172aff6927df30cc", func := "sandpile/sandpiletop.TopReducedCounts", spec := "topReducedCounts", unfollowed := true, recurses := true, plainKeys := false, apart := false, narrowed := true }
def TopReducedCountsUptoSaid : Prop := topReducedCountsUptoRow.holds Tryz.pinned (OpenSpec.upto topReducedCountsSpec)

/-- 'sandpiletop.TopDollarsMirror', WHERE WHAT IT READS IS OF BULK AT MOST 1048576: true; the input reads as it did. -/
def topDollarsMirrorUptoRow : OpenClaim := { program := "ytncilechkclmbaagreat", sum := "798d932987a838ad473feaaba72680689f4e8d8a94d0f8d2172aff6927df30cc", func := "sandpile/sandpiletop.TopDollarsMirror", spec := "topDollarsMirror", unfollowed := true, recurses := true, plainKeys := false, apart := false, narrowed := true }
def TopDollarsMirrorUptoSaid : Prop := topDollarsMirrorUptoRow.holds Tryz.pinned (OpenSpec.upto topDollarsMirrorSpec)

/-- 'sandpiletop.TopDollarsMoves', WHERE WHAT IT READS IS OF BULK AT MOST 1048576: true; the input reads as it did. -/
def topDollarsMovesUptoRow : OpenClaim := { program := "ytncilechkclmbaagreat", sum := "798d932987a838ad473feaaba72680689f4e8d8a94d0f8d2172aff6927df30cc", func := "sandpile/sandpiletop.TopDollarsMoves", spec := "topDollarsMoves", unfollowed := true, recurses := true, plainKeys := false, apart := false, narrowed := true }
def TopDollarsMovesUptoSaid : Prop := topDollarsMovesUptoRow.holds Tryz.pinned (OpenSpec.upto topDollarsMovesSpec)

end Rows
end Go.Proofs.YtncilechkclmbaaGreat
