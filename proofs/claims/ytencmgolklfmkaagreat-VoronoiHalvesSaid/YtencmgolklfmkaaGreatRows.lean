/-
  No cell of these rows narrows 'for every input' (looked for: loops, veiled, ifaces, maps, wideKeys, modest, calm, conditions, laid).
  DERIVED. THE GIVEN ROWS OF THIS SEAT. 5 by the template 'for every input the law returns true; each argument reads behind the call as it read before'; 0 by the template 'total and deterministic' (their statements: YtencmgolklfmkaaGreatTotals.lean).
  GIVEN WITH THE SEED: the statements are not yours to turn. If you find one false, say at which input.
  Laid BY PROGRAM, IN A SANDBOX (cutbox-rows.mjs): the forced cells as the released guide's own fill.sh prints them over the translation 15b8e1a5f995ef82… (all of the seat's roots in one cut). By AI agents, Wed Nov 11 2026. No macro, syntax, notation, axiom, sorry.
-/
import Derived.Test.YtencmgolklfmkaaGreatChecked
import GoSem.Claim
import GoSem.ClaimJoined
import GoSem.ClaimMapViews
import Derived.JoinedTies
import Derived.KernelRfl
namespace Go.Proofs.YtencmgolklfmkaaGreat
/- THE CELL 'sum', in the pinned program and in every row, IS THE sha256 OF THE DUMP (.gsa) THAT YtencmgolklfmkaaGreatProg.lean LOADS. Nothing in Lean hashes anything: it is a label: what it is worth is what the hold of that sum in a sandbox is worth. -/
noncomputable def Tryz.pinned : Pinned := { name := "ytencmgolklfmkaagreat", sum := "15b8e1a5f995ef82cfc1b931e9ea936b3c4162b64eeeacfd9ccc01d1696342dd", checked := Tryz.checked }
namespace Rows
def none {H : Type} : Left H := { results := [], args := [] }

/-- 'sandpilelaw49.VoronoiVectors': WHATEVER THE INPUT: true; the input reads as it did. -/
def voronoiVectorsSpec : ChangeSpec := { name := "voronoiVectors", fn := fun _ => fun
  | [d] => { results := [.lit (.bool true)], args := [d] }
  | _ => none }
def voronoiVectorsRow : OpenClaim := { program := "ytencmgolklfmkaagreat", sum := "15b8e1a5f995ef82cfc1b931e9ea936b3c4162b64eeeacfd9ccc01d1696342dd", func := "sandpile/sandpilelaw49.VoronoiVectors", spec := "voronoiVectors", unfollowed := true, recurses := true, apart := false }
def VoronoiVectorsSaid : Prop := voronoiVectorsRow.holds Tryz.pinned (OpenSpec.ofChange voronoiVectorsSpec)

/-- ITS FALSE NEIGHBOUR: 'it returns false'. Refute it at one input. -/
def voronoiVectorsWrong : ChangeSpec := { name := "voronoiVectors", fn := fun _ => fun
  | [d] => { results := [.lit (.bool false)], args := [d] }
  | _ => none }
def VoronoiVectorsWrongFalsely : Prop := voronoiVectorsRow.holds Tryz.pinned (OpenSpec.ofChange voronoiVectorsWrong)

/-- 'sandpilelaw49.VoronoiSlices': WHATEVER THE INPUT: true; the input reads as it did. -/
def voronoiSlicesSpec : ChangeSpec := { name := "voronoiSlices", fn := fun _ => fun
  | [d1, d2, d3] => { results := [.lit (.bool true)], args := [d1, d2, d3] }
  | _ => none }
def voronoiSlicesRow : OpenClaim := { program := "ytencmgolklfmkaagreat", sum := "15b8e1a5f995ef82cfc1b931e9ea936b3c4162b64eeeacfd9ccc01d1696342dd", func := "sandpile/sandpilelaw49.VoronoiSlices", spec := "voronoiSlices", unfollowed := true, recurses := true, apart := false }
def VoronoiSlicesSaid : Prop := voronoiSlicesRow.holds Tryz.pinned (OpenSpec.ofChange voronoiSlicesSpec)

/-- ITS FALSE NEIGHBOUR: 'it returns false'. Refute it at one input. -/
def voronoiSlicesWrong : ChangeSpec := { name := "voronoiSlices", fn := fun _ => fun
  | [d1, d2, d3] => { results := [.lit (.bool false)], args := [d1, d2, d3] }
  | _ => none }
def VoronoiSlicesWrongFalsely : Prop := voronoiSlicesRow.holds Tryz.pinned (OpenSpec.ofChange voronoiSlicesWrong)

/-- 'sandpilelaw49.VoronoiNearest': WHATEVER THE INPUT: true; the input reads as it did. -/
def voronoiNearestSpec : ChangeSpec := { name := "voronoiNearest", fn := fun _ => fun
  | [d1, d2] => { results := [.lit (.bool true)], args := [d1, d2] }
  | _ => none }
def voronoiNearestRow : OpenClaim := { program := "ytencmgolklfmkaagreat", sum := "15b8e1a5f995ef82cfc1b931e9ea936b3c4162b64eeeacfd9ccc01d1696342dd", func := "sandpile/sandpilelaw49.VoronoiNearest", spec := "voronoiNearest", unfollowed := true, recurses := true, apart := false }
def VoronoiNearestSaid : Prop := voronoiNearestRow.holds Tryz.pinned (OpenSpec.ofChange voronoiNearestSpec)

/-- ITS FALSE NEIGHBOUR: 'it returns false'. Refute it at one input. -/
def voronoiNearestWrong : ChangeSpec := { name := "voronoiNearest", fn := fun _ => fun
  | [d1, d2] => { results := [.lit (.bool false)], args := [d1, d2] }
  | _ => none }
def VoronoiNearestWrongFalsely : Prop := voronoiNearestRow.holds Tryz.pinned (OpenSpec.ofChange voronoiNearestWrong)

/-- 'sandpilelaw49.VoronoiLeast': WHATEVER THE INPUT: true; the input reads as it did. -/
def voronoiLeastSpec : ChangeSpec := { name := "voronoiLeast", fn := fun _ => fun
  | [d1, d2] => { results := [.lit (.bool true)], args := [d1, d2] }
  | _ => none }
def voronoiLeastRow : OpenClaim := { program := "ytencmgolklfmkaagreat", sum := "15b8e1a5f995ef82cfc1b931e9ea936b3c4162b64eeeacfd9ccc01d1696342dd", func := "sandpile/sandpilelaw49.VoronoiLeast", spec := "voronoiLeast", unfollowed := true, recurses := true, apart := false }
def VoronoiLeastSaid : Prop := voronoiLeastRow.holds Tryz.pinned (OpenSpec.ofChange voronoiLeastSpec)

/-- ITS FALSE NEIGHBOUR: 'it returns false'. Refute it at one input. -/
def voronoiLeastWrong : ChangeSpec := { name := "voronoiLeast", fn := fun _ => fun
  | [d1, d2] => { results := [.lit (.bool false)], args := [d1, d2] }
  | _ => none }
def VoronoiLeastWrongFalsely : Prop := voronoiLeastRow.holds Tryz.pinned (OpenSpec.ofChange voronoiLeastWrong)

/-- 'sandpilelaw49.VoronoiHalves': WHATEVER THE INPUT: true; the input reads as it did. -/
def voronoiHalvesSpec : ChangeSpec := { name := "voronoiHalves", fn := fun _ => fun
  | [d1, d2] => { results := [.lit (.bool true)], args := [d1, d2] }
  | _ => none }
def voronoiHalvesRow : OpenClaim := { program := "ytencmgolklfmkaagreat", sum := "15b8e1a5f995ef82cfc1b931e9ea936b3c4162b64eeeacfd9ccc01d1696342dd", func := "sandpile/sandpilelaw49.VoronoiHalves", spec := "voronoiHalves", unfollowed := true, recurses := true, apart := false }
def VoronoiHalvesSaid : Prop := voronoiHalvesRow.holds Tryz.pinned (OpenSpec.ofChange voronoiHalvesSpec)

/-- ITS FALSE NEIGHBOUR: 'it returns false'. Refute it at one input. -/
def voronoiHalvesWrong : ChangeSpec := { name := "voronoiHalves", fn := fun _ => fun
  | [d1, d2] => { results := [.lit (.bool false)], args := [d1, d2] }
  | _ => none }
def VoronoiHalvesWrongFalsely : Prop := voronoiHalvesRow.holds Tryz.pinned (OpenSpec.ofChange voronoiHalvesWrong)

/- THE SECOND FORM. 'bulk': how many values and letters a reading holds, each counted each time it is reached (what is shared counts as often as it is met; a slice's spare places count too). A statement '..UptoSaid' is the law's where the arguments, and the package variables that the reading takes, are together of bulk at most 1048576: NARROWER than '..Said'. Prove '..Said' where nothing that the law and all that it calls make is longer than what came in: it says more and counts as full. Else prove '..UptoSaid'. A law counts once. -/
mutual
def uptoBulk {H : Type} : DataW H → Nat
  | .lit (.string bytes) => bytes.length + 1
  | .lit _ => 1
  | .nil => 1
  | .ptr d => uptoBulk d + 1
  | .slice elems spare => uptoBulkAll elems + uptoBulkAll spare + 1
  | .agg parts => uptoBulkAll parts + 1
  | .iface _ d => uptoBulk d + 1
  | .map entries => uptoBulkEntries entries + 1
  | .held _ => 1
def uptoBulkAll {H : Type} : List (DataW H) → Nat
  | [] => 0
  | d :: r => uptoBulk d + uptoBulkAll r
def uptoBulkEntries {H : Type} : List (Lit × DataW H) → Nat
  | [] => 0
  | x :: r => uptoBulkEntry x + uptoBulkEntries r
def uptoBulkEntry {H : Type} : Lit × DataW H → Nat
  | (.string bytes, d) => bytes.length + uptoBulk d + 1
  | (_, d) => uptoBulk d + 1
 end
def uptoSmall : (H : Type) → List (DataW H) → Bool := fun _ ds => decide (uptoBulkAll ds ≤ 1048576)
def OpenSpec.upto (s : _root_.Go.ChangeSpec) : _root_.Go.OpenSpec := { _root_.Go.OpenSpec.ofChange s with cond := some uptoSmall }

/-- 'sandpilelaw49.VoronoiVectors', WHERE WHAT IT READS IS OF BULK AT MOST 1048576: true; the input reads as it did. -/
def voronoiVectorsUptoRow : OpenClaim := { program := "ytencmgolklfmkaagreat", sum := "15b8e1a5f995ef82cfc1b931e9ea936b3c4162b64eeeacfd9ccc01d1696342dd", func := "sandpile/sandpilelaw49.VoronoiVectors", spec := "voronoiVectors", unfollowed := true, recurses := true, apart := false, narrowed := true }
def VoronoiVectorsUptoSaid : Prop := voronoiVectorsUptoRow.holds Tryz.pinned (OpenSpec.upto voronoiVectorsSpec)

/-- 'sandpilelaw49.VoronoiSlices', WHERE WHAT IT READS IS OF BULK AT MOST 1048576: true; the input reads as it did. -/
def voronoiSlicesUptoRow : OpenClaim := { program := "ytencmgolklfmkaagreat", sum := "15b8e1a5f995ef82cfc1b931e9ea936b3c4162b64eeeacfd9ccc01d1696342dd", func := "sandpile/sandpilelaw49.VoronoiSlices", spec := "voronoiSlices", unfollowed := true, recurses := true, apart := false, narrowed := true }
def VoronoiSlicesUptoSaid : Prop := voronoiSlicesUptoRow.holds Tryz.pinned (OpenSpec.upto voronoiSlicesSpec)

/-- 'sandpilelaw49.VoronoiNearest', WHERE WHAT IT READS IS OF BULK AT MOST 1048576: true; the input reads as it did. -/
def voronoiNearestUptoRow : OpenClaim := { program := "ytencmgolklfmkaagreat", sum := "15b8e1a5f995ef82cfc1b931e9ea936b3c4162b64eeeacfd9ccc01d1696342dd", func := "sandpile/sandpilelaw49.VoronoiNearest", spec := "voronoiNearest", unfollowed := true, recurses := true, apart := false, narrowed := true }
def VoronoiNearestUptoSaid : Prop := voronoiNearestUptoRow.holds Tryz.pinned (OpenSpec.upto voronoiNearestSpec)

/-- 'sandpilelaw49.VoronoiLeast', WHERE WHAT IT READS IS OF BULK AT MOST 1048576: true; the input reads as it did. -/
def voronoiLeastUptoRow : OpenClaim := { program := "ytencmgolklfmkaagreat", sum := "15b8e1a5f995ef82cfc1b931e9ea936b3c4162b64eeeacfd9ccc01d1696342dd", func := "sandpile/sandpilelaw49.VoronoiLeast", spec := "voronoiLeast", unfollowed := true, recurses := true, apart := false, narrowed := true }
def VoronoiLeastUptoSaid : Prop := voronoiLeastUptoRow.holds Tryz.pinned (OpenSpec.upto voronoiLeastSpec)

/-- 'sandpilelaw49.VoronoiHalves', WHERE WHAT IT READS IS OF BULK AT MOST 1048576: true; the input reads as it did. -/
def voronoiHalvesUptoRow : OpenClaim := { program := "ytencmgolklfmkaagreat", sum := "15b8e1a5f995ef82cfc1b931e9ea936b3c4162b64eeeacfd9ccc01d1696342dd", func := "sandpile/sandpilelaw49.VoronoiHalves", spec := "voronoiHalves", unfollowed := true, recurses := true, apart := false, narrowed := true }
def VoronoiHalvesUptoSaid : Prop := voronoiHalvesUptoRow.holds Tryz.pinned (OpenSpec.upto voronoiHalvesSpec)

end Rows
end Go.Proofs.YtencmgolklfmkaaGreat
