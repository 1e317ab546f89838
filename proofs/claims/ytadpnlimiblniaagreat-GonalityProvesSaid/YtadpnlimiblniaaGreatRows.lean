/-
  No cell of these rows narrows 'for every input' (looked for: loops, veiled, ifaces, maps, wideKeys, modest, calm, conditions, laid).
  DERIVED. THE GIVEN ROWS OF THIS SEAT. 8 by the template 'for every input the law returns true; each argument reads behind the call as it read before'; 0 by the template 'total and deterministic' (their statements: YtadpnlimiblniaaGreatTotals.lean).
  GIVEN WITH THE SEED: the statements are not yours to turn. If you find one false, say at which input.
  Laid BY PROGRAM, IN A SANDBOX (cutbox-rows.mjs): the forced cells as the released guide's own fill.sh prints them over the translation 24df1bdba0e91f92… (all of the seat's roots in one cut). By AI agents, Wed Nov 11 2026. No macro, syntax, notation, axiom, sorry.
-/
import Derived.Test.YtadpnlimiblniaaGreatChecked
import GoSem.Claim
import GoSem.ClaimJoined
import GoSem.ClaimMapViews
import Derived.JoinedTies
import Derived.KernelRfl
namespace Go.Proofs.YtadpnlimiblniaaGreat
/- THE CELL 'sum', in the pinned program and in every row, IS THE sha256 OF THE DUMP (.gsa) THAT YtadpnlimiblniaaGreatProg.lean LOADS. Nothing in Lean hashes anything: it is a label: what it is worth is what the hold of that sum in a sandbox is worth. -/
noncomputable def Tryz.pinned : Pinned := { name := "ytadpnlimiblniaagreat", sum := "24df1bdba0e91f923f4166f511bb9425eaadafb6799bb9a32678eec64ef47160", checked := Tryz.checked }
namespace Rows
def none {H : Type} : Left H := { results := [], args := [] }

/-- 'sandpilelaw40.GonalityScrambles': WHATEVER THE INPUT: true; the input reads as it did. -/
def gonalityScramblesSpec : ChangeSpec := { name := "gonalityScrambles", fn := fun _ => fun
  | [d1, d2] => { results := [.lit (.bool true)], args := [d1, d2] }
  | _ => none }
def gonalityScramblesRow : OpenClaim := { program := "ytadpnlimiblniaagreat", sum := "24df1bdba0e91f923f4166f511bb9425eaadafb6799bb9a32678eec64ef47160", func := "sandpile/sandpilelaw40.GonalityScrambles", spec := "gonalityScrambles", unfollowed := true, recurses := true, plainKeys := false, apart := false }
def GonalityScramblesSaid : Prop := gonalityScramblesRow.holds Tryz.pinned (OpenSpec.ofChange gonalityScramblesSpec)

/-- ITS FALSE NEIGHBOUR: 'it returns false'. Refute it at one input. -/
def gonalityScramblesWrong : ChangeSpec := { name := "gonalityScrambles", fn := fun _ => fun
  | [d1, d2] => { results := [.lit (.bool false)], args := [d1, d2] }
  | _ => none }
def GonalityScramblesWrongFalsely : Prop := gonalityScramblesRow.holds Tryz.pinned (OpenSpec.ofChange gonalityScramblesWrong)

/-- 'sandpilelaw40.GonalityFinds': WHATEVER THE INPUT: true; the input reads as it did. -/
def gonalityFindsSpec : ChangeSpec := { name := "gonalityFinds", fn := fun _ => fun
  | [d] => { results := [.lit (.bool true)], args := [d] }
  | _ => none }
def gonalityFindsRow : OpenClaim := { program := "ytadpnlimiblniaagreat", sum := "24df1bdba0e91f923f4166f511bb9425eaadafb6799bb9a32678eec64ef47160", func := "sandpile/sandpilelaw40.GonalityFinds", spec := "gonalityFinds", unfollowed := true, recurses := true, plainKeys := false, apart := false }
def GonalityFindsSaid : Prop := gonalityFindsRow.holds Tryz.pinned (OpenSpec.ofChange gonalityFindsSpec)

/-- ITS FALSE NEIGHBOUR: 'it returns false'. Refute it at one input. -/
def gonalityFindsWrong : ChangeSpec := { name := "gonalityFinds", fn := fun _ => fun
  | [d] => { results := [.lit (.bool false)], args := [d] }
  | _ => none }
def GonalityFindsWrongFalsely : Prop := gonalityFindsRow.holds Tryz.pinned (OpenSpec.ofChange gonalityFindsWrong)

/-- 'sandpilelaw40.GonalityBounds': WHATEVER THE INPUT: true; the input reads as it did. -/
def gonalityBoundsSpec : ChangeSpec := { name := "gonalityBounds", fn := fun _ => fun
  | [d1, d2, d3] => { results := [.lit (.bool true)], args := [d1, d2, d3] }
  | _ => none }
def gonalityBoundsRow : OpenClaim := { program := "ytadpnlimiblniaagreat", sum := "24df1bdba0e91f923f4166f511bb9425eaadafb6799bb9a32678eec64ef47160", func := "sandpile/sandpilelaw40.GonalityBounds", spec := "gonalityBounds", unfollowed := true, recurses := true, plainKeys := false, apart := false }
def GonalityBoundsSaid : Prop := gonalityBoundsRow.holds Tryz.pinned (OpenSpec.ofChange gonalityBoundsSpec)

/-- ITS FALSE NEIGHBOUR: 'it returns false'. Refute it at one input. -/
def gonalityBoundsWrong : ChangeSpec := { name := "gonalityBounds", fn := fun _ => fun
  | [d1, d2, d3] => { results := [.lit (.bool false)], args := [d1, d2, d3] }
  | _ => none }
def GonalityBoundsWrongFalsely : Prop := gonalityBoundsRow.holds Tryz.pinned (OpenSpec.ofChange gonalityBoundsWrong)

/-- 'sandpilelaw40.GonalityLists': WHATEVER THE INPUT: true; the input reads as it did. -/
def gonalityListsSpec : ChangeSpec := { name := "gonalityLists", fn := fun _ => fun
  | [d] => { results := [.lit (.bool true)], args := [d] }
  | _ => none }
def gonalityListsRow : OpenClaim := { program := "ytadpnlimiblniaagreat", sum := "24df1bdba0e91f923f4166f511bb9425eaadafb6799bb9a32678eec64ef47160", func := "sandpile/sandpilelaw40.GonalityLists", spec := "gonalityLists", unfollowed := true, recurses := true, plainKeys := false, apart := false }
def GonalityListsSaid : Prop := gonalityListsRow.holds Tryz.pinned (OpenSpec.ofChange gonalityListsSpec)

/-- ITS FALSE NEIGHBOUR: 'it returns false'. Refute it at one input. -/
def gonalityListsWrong : ChangeSpec := { name := "gonalityLists", fn := fun _ => fun
  | [d] => { results := [.lit (.bool false)], args := [d] }
  | _ => none }
def GonalityListsWrongFalsely : Prop := gonalityListsRow.holds Tryz.pinned (OpenSpec.ofChange gonalityListsWrong)

/-- 'sandpilelaw40.GonalityProves': WHATEVER THE INPUT: true; the input reads as it did. -/
def gonalityProvesSpec : ChangeSpec := { name := "gonalityProves", fn := fun _ => fun
  | [d1, d2] => { results := [.lit (.bool true)], args := [d1, d2] }
  | _ => none }
def gonalityProvesRow : OpenClaim := { program := "ytadpnlimiblniaagreat", sum := "24df1bdba0e91f923f4166f511bb9425eaadafb6799bb9a32678eec64ef47160", func := "sandpile/sandpilelaw40.GonalityProves", spec := "gonalityProves", unfollowed := true, recurses := true, plainKeys := false, apart := false }
def GonalityProvesSaid : Prop := gonalityProvesRow.holds Tryz.pinned (OpenSpec.ofChange gonalityProvesSpec)

/-- ITS FALSE NEIGHBOUR: 'it returns false'. Refute it at one input. -/
def gonalityProvesWrong : ChangeSpec := { name := "gonalityProves", fn := fun _ => fun
  | [d1, d2] => { results := [.lit (.bool false)], args := [d1, d2] }
  | _ => none }
def GonalityProvesWrongFalsely : Prop := gonalityProvesRow.holds Tryz.pinned (OpenSpec.ofChange gonalityProvesWrong)

/-- 'sandpilelaw40.GonalityTrees': WHATEVER THE INPUT: true; the input reads as it did. -/
def gonalityTreesSpec : ChangeSpec := { name := "gonalityTrees", fn := fun _ => fun
  | [d] => { results := [.lit (.bool true)], args := [d] }
  | _ => none }
def gonalityTreesRow : OpenClaim := { program := "ytadpnlimiblniaagreat", sum := "24df1bdba0e91f923f4166f511bb9425eaadafb6799bb9a32678eec64ef47160", func := "sandpile/sandpilelaw40.GonalityTrees", spec := "gonalityTrees", unfollowed := true, recurses := true, plainKeys := false, apart := false }
def GonalityTreesSaid : Prop := gonalityTreesRow.holds Tryz.pinned (OpenSpec.ofChange gonalityTreesSpec)

/-- ITS FALSE NEIGHBOUR: 'it returns false'. Refute it at one input. -/
def gonalityTreesWrong : ChangeSpec := { name := "gonalityTrees", fn := fun _ => fun
  | [d] => { results := [.lit (.bool false)], args := [d] }
  | _ => none }
def GonalityTreesWrongFalsely : Prop := gonalityTreesRow.holds Tryz.pinned (OpenSpec.ofChange gonalityTreesWrong)

/-- 'sandpilelaw40.GonalityEggs': WHATEVER THE INPUT: true; the input reads as it did. -/
def gonalityEggsSpec : ChangeSpec := { name := "gonalityEggs", fn := fun _ => fun
  | [d1, d2, d3] => { results := [.lit (.bool true)], args := [d1, d2, d3] }
  | _ => none }
def gonalityEggsRow : OpenClaim := { program := "ytadpnlimiblniaagreat", sum := "24df1bdba0e91f923f4166f511bb9425eaadafb6799bb9a32678eec64ef47160", func := "sandpile/sandpilelaw40.GonalityEggs", spec := "gonalityEggs", unfollowed := true, recurses := true, plainKeys := false, apart := false }
def GonalityEggsSaid : Prop := gonalityEggsRow.holds Tryz.pinned (OpenSpec.ofChange gonalityEggsSpec)

/-- ITS FALSE NEIGHBOUR: 'it returns false'. Refute it at one input. -/
def gonalityEggsWrong : ChangeSpec := { name := "gonalityEggs", fn := fun _ => fun
  | [d1, d2, d3] => { results := [.lit (.bool false)], args := [d1, d2, d3] }
  | _ => none }
def GonalityEggsWrongFalsely : Prop := gonalityEggsRow.holds Tryz.pinned (OpenSpec.ofChange gonalityEggsWrong)

/-- 'sandpiletop.TopGonalityConnected': WHATEVER THE INPUT: true; the input reads as it did. -/
def topGonalityConnectedSpec : ChangeSpec := { name := "topGonalityConnected", fn := fun _ => fun
  | [d] => { results := [.lit (.bool true)], args := [d] }
  | _ => none }
def topGonalityConnectedRow : OpenClaim := { program := "ytadpnlimiblniaagreat", sum := "24df1bdba0e91f923f4166f511bb9425eaadafb6799bb9a32678eec64ef47160", func := "sandpile/sandpiletop.TopGonalityConnected", spec := "topGonalityConnected", unfollowed := true, recurses := true, plainKeys := false, apart := false }
def TopGonalityConnectedSaid : Prop := topGonalityConnectedRow.holds Tryz.pinned (OpenSpec.ofChange topGonalityConnectedSpec)

/-- ITS FALSE NEIGHBOUR: 'it returns false'. Refute it at one input. -/
def topGonalityConnectedWrong : ChangeSpec := { name := "topGonalityConnected", fn := fun _ => fun
  | [d] => { results := [.lit (.bool false)], args := [d] }
  | _ => none }
def TopGonalityConnectedWrongFalsely : Prop := topGonalityConnectedRow.holds Tryz.pinned (OpenSpec.ofChange topGonalityConnectedWrong)

/- THE SECOND FORM. 'bulk': how many values and letters a reading holds, each counted each time it is reached (what is shared counts as often as it is met; a slice's spare places count too). A statement '..UptoSaid' is the law's where the arguments, and the package variables that the reading takes, are together of bulk at most 1048576: NARROWER than '..Said'. Prove '..Said' where nothing that the law and all that it calls make is longer than what came in: it says more and counts as full. Else prove '..UptoSaid'. A law counts once. -/
mutual
def uptoBulk {H : Type} : DataW H → Nat
  | .lit (.string bytes) => bytes.length + 1
  | .lit _ => 1
  | .nil => 1
  | .ptr d => uptoBulk d + 1
  | .slice elems spare => uptoBulkAll elems + uptoBulkAll spare + 1
  | .agg parts => uptoBulkAll parts + 1
  | .iface _ d => uptoBulk d + 1
  | .map entries => uptoBulkEntries entries + 1
  | .held _ => 1
def uptoBulkAll {H : Type} : List (DataW H) → Nat
  | [] => 0
  | d :: r => uptoBulk d + uptoBulkAll r
def uptoBulkEntries {H : Type} : List (Lit × DataW H) → Nat
  | [] => 0
  | x :: r => uptoBulkEntry x + uptoBulkEntries r
def uptoBulkEntry {H : Type} : Lit × DataW H → Nat
  | (.string bytes, d) => bytes.length + uptoBulk d + 1
  | (_, d) => uptoBulk d + 1
 end
def uptoSmall : (H : Type) → List (DataW H) → Bool := fun _ ds => decide (uptoBulkAll ds ≤ 1048576)
def OpenSpec.upto (s : _root_.Go.ChangeSpec) : _root_.Go.OpenSpec := { _root_.Go.OpenSpec.ofChange s with cond := some uptoSmall }

/-- 'sandpilelaw40.GonalityScrambles', WHERE WHAT IT READS IS OF BULK AT MOST 1048576: true; the input reads as it did. -/
def gonalityScramblesUptoRow : OpenClaim := { program := "ytadpnlimiblniaagreat", sum := "24df1bdba0e91f923f4166f511bb9425eaadafb6799bb9a32678eec64ef47160", func := "sandpile/sandpilelaw40.GonalityScrambles", spec := "gonalityScrambles", unfollowed := true, recurses := true, plainKeys := false, apart := false, narrowed := true }
def GonalityScramblesUptoSaid : Prop := gonalityScramblesUptoRow.holds Tryz.pinned (OpenSpec.upto gonalityScramblesSpec)

/-- 'sandpilelaw40.GonalityFinds', WHERE WHAT IT READS IS OF BULK AT MOST 1048576: true; the input reads as it did. -/
def gonalityFindsUptoRow : OpenClaim := { program := "ytadpnlimiblniaagreat", sum := "24df1bdba0e91f923f4166f511bb9425eaadafb6799bb9a32678eec64ef47160", func := "sandpile/sandpilelaw40.GonalityFinds", spec := "gonalityFinds", unfollowed := true, recurses := true, plainKeys := false, apart := false, narrowed := true }
def GonalityFindsUptoSaid : Prop := gonalityFindsUptoRow.holds Tryz.pinned (OpenSpec.upto gonalityFindsSpec)

/-- 'sandpilelaw40.GonalityBounds', WHERE WHAT IT READS IS OF BULK AT MOST 1048576: true; the input reads as it did. -/
def gonalityBoundsUptoRow : OpenClaim := { program := "ytadpnlimiblniaagreat", sum := "24df1bdba0e91f923f4166f511bb9425eaadafb6799bb9a32678eec64ef47160", func := "sandpile/sandpilelaw40.GonalityBounds", spec := "gonalityBounds", unfollowed := true, recurses := true, plainKeys := false, apart := false, narrowed := true }
def GonalityBoundsUptoSaid : Prop := gonalityBoundsUptoRow.holds Tryz.pinned (OpenSpec.upto gonalityBoundsSpec)

/-- 'sandpilelaw40.GonalityLists', WHERE WHAT IT READS IS OF BULK AT MOST 1048576: true; the input reads as it did. -/
def gonalityListsUptoRow : OpenClaim := { program := "ytadpnlimiblniaagreat", sum := "24df1bdba0e91f923f4166f511bb9425eaadafb6799bb9a32678eec64ef47160", func := "sandpile/sandpilelaw40.GonalityLists", spec := "gonalityLists", unfollowed := true, recurses := true, plainKeys := false, apart := false, narrowed := true }
def GonalityListsUptoSaid : Prop := gonalityListsUptoRow.holds Tryz.pinned (OpenSpec.upto gonalityListsSpec)

/-- 'sandpilelaw40.GonalityProves', WHERE WHAT IT READS IS OF BULK AT MOST 1048576: true; the input reads as it did. -/
def gonalityProvesUptoRow : OpenClaim := { program := "ytadpnlimiblniaagreat", sum := "24df1bdba0e91f923f4166f511bb9425eaadafb6799bb9a32678eec64ef47160", func := "sandpile/sandpilelaw40.GonalityProves", spec := "gonalityProves", unfollowed := true, recurses := true, plainKeys := false, apart := false, narrowed := true }
def GonalityProvesUptoSaid : Prop := gonalityProvesUptoRow.holds Tryz.pinned (OpenSpec.upto gonalityProvesSpec)

/-- 'sandpilelaw40.GonalityTrees', WHERE WHAT IT READS IS OF BULK AT MOST 1048576: true; the input reads as it did. -/
def gonalityTreesUptoRow : OpenClaim := { program := "ytadpnlimiblniaagreat", sum := "24df1bdba0e91f923f4166f511bb9425eaadafb6799bb9a32678eec64ef47160", func := "sandpile/sandpilelaw40.GonalityTrees", spec := "gonalityTrees", unfollowed := true, recurses := true, plainKeys := false, apart := false, narrowed := true }
def GonalityTreesUptoSaid : Prop := gonalityTreesUptoRow.holds Tryz.pinned (OpenSpec.upto gonalityTreesSpec)

/-- 'sandpilelaw40.GonalityEggs', WHERE WHAT IT READS IS OF BULK AT MOST 1048576: true; the input reads as it did. -/
def gonalityEggsUptoRow : OpenClaim := { program := "ytadpnlimiblniaagreat", sum := "24df1bdba0e91f923f4166f511bb9425eaadafb6799bb9a32678eec64ef47160", func := "sandpile/sandpilelaw40.GonalityEggs", spec := "gonalityEggs", unfollowed := true, recurses := true, plainKeys := false, apart := false, narrowed := true }
def GonalityEggsUptoSaid : Prop := gonalityEggsUptoRow.holds Tryz.pinned (OpenSpec.upto gonalityEggsSpec)

/-- 'sandpiletop.TopGonalityConnected', WHERE WHAT IT READS IS OF BULK AT MOST 1048576: true; the input reads as it did. -/
def topGonalityConnectedUptoRow : OpenClaim := { program := "ytadpnlimiblniaagreat", sum := "24df1bdba0e91f923f4166f511bb9425eaadafb6799bb9a32678eec64ef47160", func := "sandpile/sandpiletop.TopGonalityConnected", spec := "topGonalityConnected", unfollowed := true, recurses := true, plainKeys := false, apart := false, narrowed := true }
def TopGonalityConnectedUptoSaid : Prop := topGonalityConnectedUptoRow.holds Tryz.pinned (OpenSpec.upto topGonalityConnectedSpec)

end Rows
end Go.Proofs.YtadpnlimiblniaaGreat
