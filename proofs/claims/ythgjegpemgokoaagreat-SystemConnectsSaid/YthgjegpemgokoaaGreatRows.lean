/-
  No cell of these rows narrows 'for every input' (looked for: loops, veiled, ifaces, maps, wideKeys, modest, calm, conditions, laid).
  DERIVED. THE GIVEN ROWS OF THIS SEAT. 11 by the template 'for every input the law returns true; each argument reads behind the call as it read before'; 0 by the template 'total and deterministic' (their statements: YthgjegpemgokoaaGreatTotals.lean).
  GIVEN WITH THE SEED: the statements are not yours to turn. If you find one false, say at which input.
  Laid BY PROGRAM, IN A SANDBOX (cutbox-rows.mjs): the forced cells as the released guide's own fill.sh prints them over the translation bee39f72a620a113… (all of the seat's roots in one cut). By AI agents, Wed Nov 11 2026. No macro, syntax, notation, axiom, sorry.
-/
import Derived.Test.YthgjegpemgokoaaGreatChecked
import GoSem.Claim
import GoSem.ClaimJoined
import GoSem.ClaimMapViews
import Derived.JoinedTies
import Derived.KernelRfl
namespace Go.Proofs.YthgjegpemgokoaaGreat
/- THE CELL 'sum', in the pinned program and in every row, IS THE sha256 OF THE DUMP (.gsa) THAT YthgjegpemgokoaaGreatProg.lean LOADS. Nothing in Lean hashes anything: it is a label: what it is worth is what the hold of that sum in a sandbox is worth. -/
noncomputable def Tryz.pinned : Pinned := { name := "ythgjegpemgokoaagreat", sum := "bee39f72a620a11302333d268e584a753079bcb66574766f5661e10a77e9938d", checked := Tryz.checked }
namespace Rows
def none {H : Type} : Left H := { results := [], args := [] }

/-- 'sandpilelaw37.SystemPoints': WHATEVER THE INPUT: true; the input reads as it did. -/
def systemPointsSpec : ChangeSpec := { name := "systemPoints", fn := fun _ => fun
  | [d1, d2] => { results := [.lit (.bool true)], args := [d1, d2] }
  | _ => none }
def systemPointsRow : OpenClaim := { program := "ythgjegpemgokoaagreat", sum := "bee39f72a620a11302333d268e584a753079bcb66574766f5661e10a77e9938d", func := "sandpile/sandpilelaw37.SystemPoints", spec := "systemPoints", unfollowed := true, recurses := true, plainKeys := false, apart := false }
def SystemPointsSaid : Prop := systemPointsRow.holds Tryz.pinned (OpenSpec.ofChange systemPointsSpec)

/-- ITS FALSE NEIGHBOUR: 'it returns false'. Refute it at one input. -/
def systemPointsWrong : ChangeSpec := { name := "systemPoints", fn := fun _ => fun
  | [d1, d2] => { results := [.lit (.bool false)], args := [d1, d2] }
  | _ => none }
def SystemPointsWrongFalsely : Prop := systemPointsRow.holds Tryz.pinned (OpenSpec.ofChange systemPointsWrong)

/-- 'sandpilelaw37.SystemConnects': WHATEVER THE INPUT: true; the input reads as it did. -/
def systemConnectsSpec : ChangeSpec := { name := "systemConnects", fn := fun _ => fun
  | [d1, d2] => { results := [.lit (.bool true)], args := [d1, d2] }
  | _ => none }
def systemConnectsRow : OpenClaim := { program := "ythgjegpemgokoaagreat", sum := "bee39f72a620a11302333d268e584a753079bcb66574766f5661e10a77e9938d", func := "sandpile/sandpilelaw37.SystemConnects", spec := "systemConnects", unfollowed := true, recurses := true, plainKeys := false, apart := false }
def SystemConnectsSaid : Prop := systemConnectsRow.holds Tryz.pinned (OpenSpec.ofChange systemConnectsSpec)

/-- ITS FALSE NEIGHBOUR: 'it returns false'. Refute it at one input. -/
def systemConnectsWrong : ChangeSpec := { name := "systemConnects", fn := fun _ => fun
  | [d1, d2] => { results := [.lit (.bool false)], args := [d1, d2] }
  | _ => none }
def SystemConnectsWrongFalsely : Prop := systemConnectsRow.holds Tryz.pinned (OpenSpec.ofChange systemConnectsWrong)

/-- 'sandpilelaw37.SystemLists': WHATEVER THE INPUT: true; the input reads as it did. -/
def systemListsSpec : ChangeSpec := { name := "systemLists", fn := fun _ => fun
  | [d1, d2] => { results := [.lit (.bool true)], args := [d1, d2] }
  | _ => none }
def systemListsRow : OpenClaim := { program := "ythgjegpemgokoaagreat", sum := "bee39f72a620a11302333d268e584a753079bcb66574766f5661e10a77e9938d", func := "sandpile/sandpilelaw37.SystemLists", spec := "systemLists", unfollowed := true, recurses := true, plainKeys := false, apart := false }
def SystemListsSaid : Prop := systemListsRow.holds Tryz.pinned (OpenSpec.ofChange systemListsSpec)

/-- ITS FALSE NEIGHBOUR: 'it returns false'. Refute it at one input. -/
def systemListsWrong : ChangeSpec := { name := "systemLists", fn := fun _ => fun
  | [d1, d2] => { results := [.lit (.bool false)], args := [d1, d2] }
  | _ => none }
def SystemListsWrongFalsely : Prop := systemListsRow.holds Tryz.pinned (OpenSpec.ofChange systemListsWrong)

/-- 'sandpilelaw37.SystemSteps': WHATEVER THE INPUT: true; the input reads as it did. -/
def systemStepsSpec : ChangeSpec := { name := "systemSteps", fn := fun _ => fun
  | [d1, d2] => { results := [.lit (.bool true)], args := [d1, d2] }
  | _ => none }
def systemStepsRow : OpenClaim := { program := "ythgjegpemgokoaagreat", sum := "bee39f72a620a11302333d268e584a753079bcb66574766f5661e10a77e9938d", func := "sandpile/sandpilelaw37.SystemSteps", spec := "systemSteps", unfollowed := true, recurses := true, plainKeys := false, apart := false }
def SystemStepsSaid : Prop := systemStepsRow.holds Tryz.pinned (OpenSpec.ofChange systemStepsSpec)

/-- ITS FALSE NEIGHBOUR: 'it returns false'. Refute it at one input. -/
def systemStepsWrong : ChangeSpec := { name := "systemSteps", fn := fun _ => fun
  | [d1, d2] => { results := [.lit (.bool false)], args := [d1, d2] }
  | _ => none }
def SystemStepsWrongFalsely : Prop := systemStepsRow.holds Tryz.pinned (OpenSpec.ofChange systemStepsWrong)

/-- 'sandpilelaw37.SystemReaches': WHATEVER THE INPUT: true; the input reads as it did. -/
def systemReachesSpec : ChangeSpec := { name := "systemReaches", fn := fun _ => fun
  | [d1, d2] => { results := [.lit (.bool true)], args := [d1, d2] }
  | _ => none }
def systemReachesRow : OpenClaim := { program := "ythgjegpemgokoaagreat", sum := "bee39f72a620a11302333d268e584a753079bcb66574766f5661e10a77e9938d", func := "sandpile/sandpilelaw37.SystemReaches", spec := "systemReaches", unfollowed := true, recurses := true, plainKeys := false, apart := false }
def SystemReachesSaid : Prop := systemReachesRow.holds Tryz.pinned (OpenSpec.ofChange systemReachesSpec)

/-- ITS FALSE NEIGHBOUR: 'it returns false'. Refute it at one input. -/
def systemReachesWrong : ChangeSpec := { name := "systemReaches", fn := fun _ => fun
  | [d1, d2] => { results := [.lit (.bool false)], args := [d1, d2] }
  | _ => none }
def SystemReachesWrongFalsely : Prop := systemReachesRow.holds Tryz.pinned (OpenSpec.ofChange systemReachesWrong)

/-- 'sandpilelaw37.SystemCovers': WHATEVER THE INPUT: true; the input reads as it did. -/
def systemCoversSpec : ChangeSpec := { name := "systemCovers", fn := fun _ => fun
  | [d1, d2, d3] => { results := [.lit (.bool true)], args := [d1, d2, d3] }
  | _ => none }
def systemCoversRow : OpenClaim := { program := "ythgjegpemgokoaagreat", sum := "bee39f72a620a11302333d268e584a753079bcb66574766f5661e10a77e9938d", func := "sandpile/sandpilelaw37.SystemCovers", spec := "systemCovers", unfollowed := true, recurses := true, plainKeys := false, apart := false }
def SystemCoversSaid : Prop := systemCoversRow.holds Tryz.pinned (OpenSpec.ofChange systemCoversSpec)

/-- ITS FALSE NEIGHBOUR: 'it returns false'. Refute it at one input. -/
def systemCoversWrong : ChangeSpec := { name := "systemCovers", fn := fun _ => fun
  | [d1, d2, d3] => { results := [.lit (.bool false)], args := [d1, d2, d3] }
  | _ => none }
def SystemCoversWrongFalsely : Prop := systemCoversRow.holds Tryz.pinned (OpenSpec.ofChange systemCoversWrong)

/-- 'sandpilelaw37.SystemAdds': WHATEVER THE INPUT: true; the input reads as it did. -/
def systemAddsSpec : ChangeSpec := { name := "systemAdds", fn := fun _ => fun
  | [d1, d2, d3] => { results := [.lit (.bool true)], args := [d1, d2, d3] }
  | _ => none }
def systemAddsRow : OpenClaim := { program := "ythgjegpemgokoaagreat", sum := "bee39f72a620a11302333d268e584a753079bcb66574766f5661e10a77e9938d", func := "sandpile/sandpilelaw37.SystemAdds", spec := "systemAdds", unfollowed := true, recurses := true, plainKeys := false, apart := false }
def SystemAddsSaid : Prop := systemAddsRow.holds Tryz.pinned (OpenSpec.ofChange systemAddsSpec)

/-- ITS FALSE NEIGHBOUR: 'it returns false'. Refute it at one input. -/
def systemAddsWrong : ChangeSpec := { name := "systemAdds", fn := fun _ => fun
  | [d1, d2, d3] => { results := [.lit (.bool false)], args := [d1, d2, d3] }
  | _ => none }
def SystemAddsWrongFalsely : Prop := systemAddsRow.holds Tryz.pinned (OpenSpec.ofChange systemAddsWrong)

/-- 'sandpilelaw37.SystemAgrees': WHATEVER THE INPUT: true; the input reads as it did. -/
def systemAgreesSpec : ChangeSpec := { name := "systemAgrees", fn := fun _ => fun
  | [d1, d2, d3] => { results := [.lit (.bool true)], args := [d1, d2, d3] }
  | _ => none }
def systemAgreesRow : OpenClaim := { program := "ythgjegpemgokoaagreat", sum := "bee39f72a620a11302333d268e584a753079bcb66574766f5661e10a77e9938d", func := "sandpile/sandpilelaw37.SystemAgrees", spec := "systemAgrees", unfollowed := true, recurses := true, plainKeys := false, apart := false }
def SystemAgreesSaid : Prop := systemAgreesRow.holds Tryz.pinned (OpenSpec.ofChange systemAgreesSpec)

/-- ITS FALSE NEIGHBOUR: 'it returns false'. Refute it at one input. -/
def systemAgreesWrong : ChangeSpec := { name := "systemAgrees", fn := fun _ => fun
  | [d1, d2, d3] => { results := [.lit (.bool false)], args := [d1, d2, d3] }
  | _ => none }
def SystemAgreesWrongFalsely : Prop := systemAgreesRow.holds Tryz.pinned (OpenSpec.ofChange systemAgreesWrong)

/-- 'sandpilelaw38.RankCovers': WHATEVER THE INPUT: true; the input reads as it did. -/
def rankCoversSpec : ChangeSpec := { name := "rankCovers", fn := fun _ => fun
  | [d1, d2, d3] => { results := [.lit (.bool true)], args := [d1, d2, d3] }
  | _ => none }
def rankCoversRow : OpenClaim := { program := "ythgjegpemgokoaagreat", sum := "bee39f72a620a11302333d268e584a753079bcb66574766f5661e10a77e9938d", func := "sandpile/sandpilelaw38.RankCovers", spec := "rankCovers", unfollowed := true, recurses := true, plainKeys := false, apart := false }
def RankCoversSaid : Prop := rankCoversRow.holds Tryz.pinned (OpenSpec.ofChange rankCoversSpec)

/-- ITS FALSE NEIGHBOUR: 'it returns false'. Refute it at one input. -/
def rankCoversWrong : ChangeSpec := { name := "rankCovers", fn := fun _ => fun
  | [d1, d2, d3] => { results := [.lit (.bool false)], args := [d1, d2, d3] }
  | _ => none }
def RankCoversWrongFalsely : Prop := rankCoversRow.holds Tryz.pinned (OpenSpec.ofChange rankCoversWrong)

/-- 'sandpiletop.TopReducedDecides': WHATEVER THE INPUT: true; the input reads as it did. -/
def topReducedDecidesSpec : ChangeSpec := { name := "topReducedDecides", fn := fun _ => fun
  | [d1, d2] => { results := [.lit (.bool true)], args := [d1, d2] }
  | _ => none }
def topReducedDecidesRow : OpenClaim := { program := "ythgjegpemgokoaagreat", sum := "bee39f72a620a11302333d268e584a753079bcb66574766f5661e10a77e9938d", func := "sandpile/sandpiletop.TopReducedDecides", spec := "topReducedDecides", unfollowed := true, recurses := true, plainKeys := false, apart := false }
def TopReducedDecidesSaid : Prop := topReducedDecidesRow.holds Tryz.pinned (OpenSpec.ofChange topReducedDecidesSpec)

/-- ITS FALSE NEIGHBOUR: 'it returns false'. Refute it at one input. -/
def topReducedDecidesWrong : ChangeSpec := { name := "topReducedDecides", fn := fun _ => fun
  | [d1, d2] => { results := [.lit (.bool false)], args := [d1, d2] }
  | _ => none }
def TopReducedDecidesWrongFalsely : Prop := topReducedDecidesRow.holds Tryz.pinned (OpenSpec.ofChange topReducedDecidesWrong)

/-- 'sandpiletop.TopReducedSame': WHATEVER THE INPUT: true; the input reads as it did. -/
def topReducedSameSpec : ChangeSpec := { name := "topReducedSame", fn := fun _ => fun
  | [d1, d2, d3] => { results := [.lit (.bool true)], args := [d1, d2, d3] }
  | _ => none }
def topReducedSameRow : OpenClaim := { program := "ythgjegpemgokoaagreat", sum := "bee39f72a620a11302333d268e584a753079bcb66574766f5661e10a77e9938d", func := "sandpile/sandpiletop.TopReducedSame", spec := "topReducedSame", unfollowed := true, recurses := true, plainKeys := false, apart := false }
def TopReducedSameSaid : Prop := topReducedSameRow.holds Tryz.pinned (OpenSpec.ofChange topReducedSameSpec)

/-- ITS FALSE NEIGHBOUR: 'it returns false'. Refute it at one input. -/
def topReducedSameWrong : ChangeSpec := { name := "topReducedSame", fn := fun _ => fun
  | [d1, d2, d3] => { results := [.lit (.bool false)], args := [d1, d2, d3] }
  | _ => none }
def TopReducedSameWrongFalsely : Prop := topReducedSameRow.holds Tryz.pinned (OpenSpec.ofChange topReducedSameWrong)

/- THE SECOND FORM. 'bulk': how many values and letters a reading holds, each counted each time it is reached (what is shared counts as often as it is met; a slice's spare places count too). A statement '..UptoSaid' is the law's where the arguments, and the package variables that the reading takes, are together of bulk at most 1048576: NARROWER than '..Said'. Prove '..Said' where nothing that the law and all that it calls make is longer than what came in: it says more and counts as full. Else prove '..UptoSaid'. A law counts once. -/
mutual
def uptoBulk {H : Type} : DataW H → Nat
  | .lit (.string bytes) => bytes.length + 1
  | .lit _ => 1
  | .nil => 1
  | .ptr d => uptoBulk d + 1
  | .slice elems spare => uptoBulkAll elems + uptoBulkAll spare + 1
  | .agg parts => uptoBulkAll parts + 1
  | .iface _ d => uptoBulk d + 1
  | .map entries => uptoBulkEntries entries + 1
  | .held _ => 1
def uptoBulkAll {H : Type} : List (DataW H) → Nat
  | [] => 0
  | d :: r => uptoBulk d + uptoBulkAll r
def uptoBulkEntries {H : Type} : List (Lit × DataW H) → Nat
  | [] => 0
  | x :: r => uptoBulkEntry x + uptoBulkEntries r
def uptoBulkEntry {H : Type} : Lit × DataW H → Nat
  | (.string bytes, d) => bytes.length + uptoBulk d + 1
  | (_, d) => uptoBulk d + 1
 end
def uptoSmall : (H : Type) → List (DataW H) → Bool := fun _ ds => decide (uptoBulkAll ds ≤ 1048576)
def OpenSpec.upto (s : _root_.Go.ChangeSpec) : _root_.Go.OpenSpec := { _root_.Go.OpenSpec.ofChange s with cond := some uptoSmall }

/-- 'sandpilelaw37.SystemPoints', WHERE WHAT IT READS IS OF BULK AT MOST 1048576: true; the input reads as it did. -/
def systemPointsUptoRow : OpenClaim := { program := "ythgjegpemgokoaagreat", sum := "bee39f72a620a11302333d268e584a753079bcb66574766f5661e10a77e9938d", func := "sandpile/sandpilelaw37.SystemPoints", spec := "systemPoints", unfollowed := true, recurses := true, plainKeys := false, apart := false, narrowed := true }
def SystemPointsUptoSaid : Prop := systemPointsUptoRow.holds Tryz.pinned (OpenSpec.upto systemPointsSpec)

/-- 'sandpilelaw37.SystemConnects', WHERE WHAT IT READS IS OF BULK AT MOST 1048576: true; the input reads as it did. -/
def systemConnectsUptoRow : OpenClaim := { program := "ythgjegpemgokoaagreat", sum := "bee39f72a620a11302333d268e584a753079bcb66574766f5661e10a77e9938d", func := "sandpile/sandpilelaw37.SystemConnects", spec := "systemConnects", unfollowed := true, recurses := true, plainKeys := false, apart := false, narrowed := true }
def SystemConnectsUptoSaid : Prop := systemConnectsUptoRow.holds Tryz.pinned (OpenSpec.upto systemConnectsSpec)

/-- 'sandpilelaw37.SystemLists', WHERE WHAT IT READS IS OF BULK AT MOST 1048576: true; the input reads as it did. -/
def systemListsUptoRow : OpenClaim := { program := "ythgjegpemgokoaagreat", sum := "bee39f72a620a11302333d268e584a753079bcb66574766f5661e10a77e9938d", func := "sandpile/sandpilelaw37.SystemLists", spec := "systemLists", unfollowed := true, recurses := true, plainKeys := false, apart := false, narrowed := true }
def SystemListsUptoSaid : Prop := systemListsUptoRow.holds Tryz.pinned (OpenSpec.upto systemListsSpec)

/-- 'sandpilelaw37.SystemSteps', WHERE WHAT IT READS IS OF BULK AT MOST 1048576: true; the input reads as it did. -/
def systemStepsUptoRow : OpenClaim := { program := "ythgjegpemgokoaagreat", sum := "bee39f72a620a11302333d268e584a753079bcb66574766f5661e10a77e9938d", func := "sandpile/sandpilelaw37.SystemSteps", spec := "systemSteps", unfollowed := true, recurses := true, plainKeys := false, apart := false, narrowed := true }
def SystemStepsUptoSaid : Prop := systemStepsUptoRow.holds Tryz.pinned (OpenSpec.upto systemStepsSpec)

/-- 'sandpilelaw37.SystemReaches', WHERE WHAT IT READS IS OF BULK AT MOST 1048576: true; the input reads as it did. -/
def systemReachesUptoRow : OpenClaim := { program := "ythgjegpemgokoaagreat", sum := "bee39f72a620a11302333d268e584a753079bcb66574766f5661e10a77e9938d", func := "sandpile/sandpilelaw37.SystemReaches", spec := "systemReaches", unfollowed := true, recurses := true, plainKeys := false, apart := false, narrowed := true }
def SystemReachesUptoSaid : Prop := systemReachesUptoRow.holds Tryz.pinned (OpenSpec.upto systemReachesSpec)

/-- 'sandpilelaw37.SystemCovers', WHERE WHAT IT READS IS OF BULK AT MOST 1048576: true; the input reads as it did. -/
def systemCoversUptoRow : OpenClaim := { program := "ythgjegpemgokoaagreat", sum := "bee39f72a620a11302333d268e584a753079bcb66574766f5661e10a77e9938d", func := "sandpile/sandpilelaw37.SystemCovers", spec := "systemCovers", unfollowed := true, recurses := true, plainKeys := false, apart := false, narrowed := true }
def SystemCoversUptoSaid : Prop := systemCoversUptoRow.holds Tryz.pinned (OpenSpec.upto systemCoversSpec)

/-- 'sandpilelaw37.SystemAdds', WHERE WHAT IT READS IS OF BULK AT MOST 1048576: true; the input reads as it did. -/
def systemAddsUptoRow : OpenClaim := { program := "ythgjegpemgokoaagreat", sum := "bee39f72a620a11302333d268e584a753079bcb66574766f5661e10a77e9938d", func := "sandpile/sandpilelaw37.SystemAdds", spec := "systemAdds", unfollowed := true, recurses := true, plainKeys := false, apart := false, narrowed := true }
def SystemAddsUptoSaid : Prop := systemAddsUptoRow.holds Tryz.pinned (OpenSpec.upto systemAddsSpec)

/-- 'sandpilelaw37.SystemAgrees', WHERE WHAT IT READS IS OF BULK AT MOST 1048576: true; the input reads as it did. -/
def systemAgreesUptoRow : OpenClaim := { program := "ythgjegpemgokoaagreat", sum := "bee39f72a620a11302333d268e584a753079bcb66574766f5661e10a77e9938d", func := "sandpile/sandpilelaw37.SystemAgrees", spec := "systemAgrees", unfollowed := true, recurses := true, plainKeys := false, apart := false, narrowed := true }
def SystemAgreesUptoSaid : Prop := systemAgreesUptoRow.holds Tryz.pinned (OpenSpec.upto systemAgreesSpec)

/-- 'sandpilelaw38.RankCovers', WHERE WHAT IT READS IS OF BULK AT MOST 1048576: true; the input reads as it did. -/
def rankCoversUptoRow : OpenClaim := { program := "ythgjegpemgokoaagreat", sum := "bee39f72a620a11302333d268e584a753079bcb66574766f5661e10a77e9938d", func := "sandpile/sandpilelaw38.RankCovers", spec := "rankCovers", unfollowed := true, recurses := true, plainKeys := false, apart := false, narrowed := true }
def RankCoversUptoSaid : Prop := rankCoversUptoRow.holds Tryz.pinned (OpenSpec.upto rankCoversSpec)

/-- 'sandpiletop.TopReducedDecides', WHERE WHAT IT READS IS OF BULK AT MOST 1048576: true; the input reads as it did. -/
def topReducedDecidesUptoRow : OpenClaim := { program := "ythgjegpemgokoaagreat", sum := "bee39f72a620a11302333d268e584a753079bcb66574766f5661e10a77e9938d", func := "sandpile/sandpiletop.TopReducedDecides", spec := "topReducedDecides", unfollowed := true, recurses := true, plainKeys := false, apart := false, narrowed := true }
def TopReducedDecidesUptoSaid : Prop := topReducedDecidesUptoRow.holds Tryz.pinned (OpenSpec.upto topReducedDecidesSpec)

/-- 'sandpiletop.TopReducedSame', WHERE WHAT IT READS IS OF BULK AT MOST 1048576: true; the input reads as it did. -/
def topReducedSameUptoRow : OpenClaim := { program := "ythgjegpemgokoaagreat", sum := "bee39f72a620a11302333d268e584a753079bcb66574766f5661e10a77e9938d", func := "sandpile/sandpiletop.TopReducedSame", spec := "topReducedSame", unfollowed := true, recurses := true, plainKeys := false, apart := false, narrowed := true }
def TopReducedSameUptoSaid : Prop := topReducedSameUptoRow.holds Tryz.pinned (OpenSpec.upto topReducedSameSpec)

end Rows
end Go.Proofs.YthgjegpemgokoaaGreat
