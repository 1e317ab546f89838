/-
  No cell of these rows narrows 'for every input' (looked for: loops, veiled, ifaces, maps, wideKeys, modest, calm, conditions, laid).
  DERIVED. THE GIVEN ROWS OF THIS SEAT. 7 by the template 'for every input the law returns true; each argument reads behind the call as it read before'; 0 by the template 'total and deterministic' (their statements: YtdbpajnjhgocoaaTotals.lean).
  GIVEN WITH THE SEED: the statements are not yours to turn. If you find one false, say at which input.
  Laid BY PROGRAM, IN A SANDBOX (cutbox-rows.mjs): the forced cells as the released guide's own fill.sh prints them over the translation 99c597bcdf5ed036… (all of the seat's roots in one cut). By AI agents, Wed Nov 11 2026. No macro, syntax, notation, axiom, sorry.
-/
import Derived.Test.YtdbpajnjhgocoaaChecked
import GoSem.Claim
import GoSem.ClaimJoined
import GoSem.ClaimMapViews
import Derived.JoinedTies
import Derived.KernelRfl
namespace Go.Proofs.Ytdbpajnjhgocoaa
/- THE CELL 'sum', in the pinned program and in every row, IS THE sha256 OF THE DUMP (.gsa) THAT YtdbpajnjhgocoaaProg.lean LOADS. Nothing in Lean hashes anything: it is a label: what it is worth is what the hold of that sum in a sandbox is worth. -/
noncomputable def Try.pinned : Pinned := { name := "ytdbpajnjhgocoaa", sum := "99c597bcdf5ed0363b11bbafd6d1a50f2fd6ca3ac038253a49bdcdf3814a854d", checked := Try.checked }
namespace Rows
def none {H : Type} : Left H := { results := [], args := [] }

/-- 'sandpilelaw11.FamilyMakes': WHATEVER THE INPUT: true; the input reads as it did. -/
def familyMakesSpec : ChangeSpec := { name := "familyMakes", fn := fun _ => fun
  | [d1, d2] => { results := [.lit (.bool true)], args := [d1, d2] }
  | _ => none }
def familyMakesRow : OpenClaim := { program := "ytdbpajnjhgocoaa", sum := "99c597bcdf5ed0363b11bbafd6d1a50f2fd6ca3ac038253a49bdcdf3814a854d", func := "sandpile/sandpilelaw11.FamilyMakes", spec := "familyMakes", unfollowed := true, recurses := true, plainKeys := false, apart := false }
def FamilyMakesSaid : Prop := familyMakesRow.holds Try.pinned (OpenSpec.ofChange familyMakesSpec)

/-- ITS FALSE NEIGHBOUR: 'it returns false'. Refute it at one input. -/
def familyMakesWrong : ChangeSpec := { name := "familyMakes", fn := fun _ => fun
  | [d1, d2] => { results := [.lit (.bool false)], args := [d1, d2] }
  | _ => none }
def FamilyMakesWrongFalsely : Prop := familyMakesRow.holds Try.pinned (OpenSpec.ofChange familyMakesWrong)

/-- 'sandpilelaw11.FamilyTells': WHATEVER THE INPUT: true; the input reads as it did. -/
def familyTellsSpec : ChangeSpec := { name := "familyTells", fn := fun _ => fun
  | [d1, d2] => { results := [.lit (.bool true)], args := [d1, d2] }
  | _ => none }
def familyTellsRow : OpenClaim := { program := "ytdbpajnjhgocoaa", sum := "99c597bcdf5ed0363b11bbafd6d1a50f2fd6ca3ac038253a49bdcdf3814a854d", func := "sandpile/sandpilelaw11.FamilyTells", spec := "familyTells", unfollowed := true, recurses := true, plainKeys := false, apart := false }
def FamilyTellsSaid : Prop := familyTellsRow.holds Try.pinned (OpenSpec.ofChange familyTellsSpec)

/-- ITS FALSE NEIGHBOUR: 'it returns false'. Refute it at one input. -/
def familyTellsWrong : ChangeSpec := { name := "familyTells", fn := fun _ => fun
  | [d1, d2] => { results := [.lit (.bool false)], args := [d1, d2] }
  | _ => none }
def FamilyTellsWrongFalsely : Prop := familyTellsRow.holds Try.pinned (OpenSpec.ofChange familyTellsWrong)

/-- 'sandpilelaw11.FamilyCounts': WHATEVER THE INPUT: true; the input reads as it did. -/
def familyCountsSpec : ChangeSpec := { name := "familyCounts", fn := fun _ => fun
  | [d1, d2] => { results := [.lit (.bool true)], args := [d1, d2] }
  | _ => none }
def familyCountsRow : OpenClaim := { program := "ytdbpajnjhgocoaa", sum := "99c597bcdf5ed0363b11bbafd6d1a50f2fd6ca3ac038253a49bdcdf3814a854d", func := "sandpile/sandpilelaw11.FamilyCounts", spec := "familyCounts", unfollowed := true, recurses := true, plainKeys := false, apart := false }
def FamilyCountsSaid : Prop := familyCountsRow.holds Try.pinned (OpenSpec.ofChange familyCountsSpec)

/-- ITS FALSE NEIGHBOUR: 'it returns false'. Refute it at one input. -/
def familyCountsWrong : ChangeSpec := { name := "familyCounts", fn := fun _ => fun
  | [d1, d2] => { results := [.lit (.bool false)], args := [d1, d2] }
  | _ => none }
def FamilyCountsWrongFalsely : Prop := familyCountsRow.holds Try.pinned (OpenSpec.ofChange familyCountsWrong)

/-- 'sandpilelaw11.FamilyJoins': WHATEVER THE INPUT: true; the input reads as it did. -/
def familyJoinsSpec : ChangeSpec := { name := "familyJoins", fn := fun _ => fun
  | [d1, d2] => { results := [.lit (.bool true)], args := [d1, d2] }
  | _ => none }
def familyJoinsRow : OpenClaim := { program := "ytdbpajnjhgocoaa", sum := "99c597bcdf5ed0363b11bbafd6d1a50f2fd6ca3ac038253a49bdcdf3814a854d", func := "sandpile/sandpilelaw11.FamilyJoins", spec := "familyJoins", unfollowed := true, recurses := true, plainKeys := false, apart := false }
def FamilyJoinsSaid : Prop := familyJoinsRow.holds Try.pinned (OpenSpec.ofChange familyJoinsSpec)

/-- ITS FALSE NEIGHBOUR: 'it returns false'. Refute it at one input. -/
def familyJoinsWrong : ChangeSpec := { name := "familyJoins", fn := fun _ => fun
  | [d1, d2] => { results := [.lit (.bool false)], args := [d1, d2] }
  | _ => none }
def FamilyJoinsWrongFalsely : Prop := familyJoinsRow.holds Try.pinned (OpenSpec.ofChange familyJoinsWrong)

/-- 'sandpilelaw11.FamilyAgrees': WHATEVER THE INPUT: true; the input reads as it did. -/
def familyAgreesSpec : ChangeSpec := { name := "familyAgrees", fn := fun _ => fun
  | [d] => { results := [.lit (.bool true)], args := [d] }
  | _ => none }
def familyAgreesRow : OpenClaim := { program := "ytdbpajnjhgocoaa", sum := "99c597bcdf5ed0363b11bbafd6d1a50f2fd6ca3ac038253a49bdcdf3814a854d", func := "sandpile/sandpilelaw11.FamilyAgrees", spec := "familyAgrees", unfollowed := true, recurses := true, plainKeys := false, apart := false }
def FamilyAgreesSaid : Prop := familyAgreesRow.holds Try.pinned (OpenSpec.ofChange familyAgreesSpec)

/-- ITS FALSE NEIGHBOUR: 'it returns false'. Refute it at one input. -/
def familyAgreesWrong : ChangeSpec := { name := "familyAgrees", fn := fun _ => fun
  | [d] => { results := [.lit (.bool false)], args := [d] }
  | _ => none }
def FamilyAgreesWrongFalsely : Prop := familyAgreesRow.holds Try.pinned (OpenSpec.ofChange familyAgreesWrong)

/-- 'sandpilelaw11.FamilyDegrees': WHATEVER THE INPUT: true; the input reads as it did. -/
def familyDegreesSpec : ChangeSpec := { name := "familyDegrees", fn := fun _ => fun
  | [d1, d2] => { results := [.lit (.bool true)], args := [d1, d2] }
  | _ => none }
def familyDegreesRow : OpenClaim := { program := "ytdbpajnjhgocoaa", sum := "99c597bcdf5ed0363b11bbafd6d1a50f2fd6ca3ac038253a49bdcdf3814a854d", func := "sandpile/sandpilelaw11.FamilyDegrees", spec := "familyDegrees", unfollowed := true, recurses := true, plainKeys := false, apart := false }
def FamilyDegreesSaid : Prop := familyDegreesRow.holds Try.pinned (OpenSpec.ofChange familyDegreesSpec)

/-- ITS FALSE NEIGHBOUR: 'it returns false'. Refute it at one input. -/
def familyDegreesWrong : ChangeSpec := { name := "familyDegrees", fn := fun _ => fun
  | [d1, d2] => { results := [.lit (.bool false)], args := [d1, d2] }
  | _ => none }
def FamilyDegreesWrongFalsely : Prop := familyDegreesRow.holds Try.pinned (OpenSpec.ofChange familyDegreesWrong)

/-- 'sandpilelaw11.FamilySwaps': WHATEVER THE INPUT: true; the input reads as it did. -/
def familySwapsSpec : ChangeSpec := { name := "familySwaps", fn := fun _ => fun
  | [d1, d2, d3] => { results := [.lit (.bool true)], args := [d1, d2, d3] }
  | _ => none }
def familySwapsRow : OpenClaim := { program := "ytdbpajnjhgocoaa", sum := "99c597bcdf5ed0363b11bbafd6d1a50f2fd6ca3ac038253a49bdcdf3814a854d", func := "sandpile/sandpilelaw11.FamilySwaps", spec := "familySwaps", unfollowed := true, recurses := true, plainKeys := false, apart := false }
def FamilySwapsSaid : Prop := familySwapsRow.holds Try.pinned (OpenSpec.ofChange familySwapsSpec)

/-- ITS FALSE NEIGHBOUR: 'it returns false'. Refute it at one input. -/
def familySwapsWrong : ChangeSpec := { name := "familySwaps", fn := fun _ => fun
  | [d1, d2, d3] => { results := [.lit (.bool false)], args := [d1, d2, d3] }
  | _ => none }
def FamilySwapsWrongFalsely : Prop := familySwapsRow.holds Try.pinned (OpenSpec.ofChange familySwapsWrong)

/- THE SECOND FORM. 'bulk': how many values and letters a reading holds, each counted each time it is reached (what is shared counts as often as it is met; a slice's spare places count too). A statement '..UptoSaid' is the law's where the arguments, and the package variables that the reading takes, are together of bulk at most 1048576: NARROWER than '..Said'. Prove '..Said' where nothing that the law and all that it calls make is longer than what came in: it says more and counts as full. Else prove '..UptoSaid'. A law counts once. -/
mutual
def uptoBulk {H : Type} : DataW H → Nat
  | .lit (.string bytes) => bytes.length + 1
  | .lit _ => 1
  | .nil => 1
  | .ptr d => uptoBulk d + 1
  | .slice elems spare => uptoBulkAll elems + uptoBulkAll spare + 1
  | .agg parts => uptoBulkAll parts + 1
  | .iface _ d => uptoBulk d + 1
  | .map entries => uptoBulkEntries entries + 1
  | .held _ => 1
def uptoBulkAll {H : Type} : List (DataW H) → Nat
  | [] => 0
  | d :: r => uptoBulk d + uptoBulkAll r
def uptoBulkEntries {H : Type} : List (Lit × DataW H) → Nat
  | [] => 0
  | x :: r => uptoBulkEntry x + uptoBulkEntries r
def uptoBulkEntry {H : Type} : Lit × DataW H → Nat
  | (.string bytes, d) => bytes.length + uptoBulk d + 1
  | (_, d) => uptoBulk d + 1
 end
def uptoSmall : (H : Type) → List (DataW H) → Bool := fun _ ds => decide (uptoBulkAll ds ≤ 1048576)
def OpenSpec.upto (s : _root_.Go.ChangeSpec) : _root_.Go.OpenSpec := { _root_.Go.OpenSpec.ofChange s with cond := some uptoSmall }

/-- 'sandpilelaw11.FamilyMakes', WHERE WHAT IT READS IS OF BULK AT MOST 1048576: true; the input reads as it did. -/
def familyMakesUptoRow : OpenClaim := { program := "ytdbpajnjhgocoaa", sum := "99c597bcdf5ed0363b11bbafd6d1a50f2fd6ca3ac038253a49bdcdf3814a854d", func := "sandpile/sandpilelaw11.FamilyMakes", spec := "familyMakes", unfollowed := true, recurses := true, plainKeys := false, apart := false, narrowed := true }
def FamilyMakesUptoSaid : Prop := familyMakesUptoRow.holds Try.pinned (OpenSpec.upto familyMakesSpec)

/-- 'sandpilelaw11.FamilyTells', WHERE WHAT IT READS IS OF BULK AT MOST 1048576: true; the input reads as it did. -/
def familyTellsUptoRow : OpenClaim := { program := "ytdbpajnjhgocoaa", sum := "99c597bcdf5ed0363b11bbafd6d1a50f2fd6ca3ac038253a49bdcdf3814a854d", func := "sandpile/sandpilelaw11.FamilyTells", spec := "familyTells", unfollowed := true, recurses := true, plainKeys := false, apart := false, narrowed := true }
def FamilyTellsUptoSaid : Prop := familyTellsUptoRow.holds Try.pinned (OpenSpec.upto familyTellsSpec)

/-- 'sandpilelaw11.FamilyCounts', WHERE WHAT IT READS IS OF BULK AT MOST 1048576: true; the input reads as it did. -/
def familyCountsUptoRow : OpenClaim := { program := "ytdbpajnjhgocoaa", sum := "99c597bcdf5ed0363b11bbafd6d1a50f2fd6ca3ac038253a49bdcdf3814a854d", func := "sandpile/sandpilelaw11.FamilyCounts", spec := "familyCounts", unfollowed := true, recurses := true, plainKeys := false, apart := false, narrowed := true }
def FamilyCountsUptoSaid : Prop := familyCountsUptoRow.holds Try.pinned (OpenSpec.upto familyCountsSpec)

/-- 'sandpilelaw11.FamilyJoins', WHERE WHAT IT READS IS OF BULK AT MOST 1048576: true; the input reads as it did. -/
def familyJoinsUptoRow : OpenClaim := { program := "ytdbpajnjhgocoaa", sum := "99c597bcdf5ed0363b11bbafd6d1a50f2fd6ca3ac038253a49bdcdf3814a854d", func := "sandpile/sandpilelaw11.FamilyJoins", spec := "familyJoins", unfollowed := true, recurses := true, plainKeys := false, apart := false, narrowed := true }
def FamilyJoinsUptoSaid : Prop := familyJoinsUptoRow.holds Try.pinned (OpenSpec.upto familyJoinsSpec)

/-- 'sandpilelaw11.FamilyAgrees', WHERE WHAT IT READS IS OF BULK AT MOST 1048576: true; the input reads as it did. -/
def familyAgreesUptoRow : OpenClaim := { program := "ytdbpajnjhgocoaa", sum := "99c597bcdf5ed0363b11bbafd6d1a50f2fd6ca3ac038253a49bdcdf3814a854d", func := "sandpile/sandpilelaw11.FamilyAgrees", spec := "familyAgrees", unfollowed := true, recurses := true, plainKeys := false, apart := false, narrowed := true }
def FamilyAgreesUptoSaid : Prop := familyAgreesUptoRow.holds Try.pinned (OpenSpec.upto familyAgreesSpec)

/-- 'sandpilelaw11.FamilyDegrees', WHERE WHAT IT READS IS OF BULK AT MOST 1048576: true; the input reads as it did. -/
def familyDegreesUptoRow : OpenClaim := { program := "ytdbpajnjhgocoaa", sum := "99c597bcdf5ed0363b11bbafd6d1a50f2fd6ca3ac038253a49bdcdf3814a854d", func := "sandpile/sandpilelaw11.FamilyDegrees", spec := "familyDegrees", unfollowed := true, recurses := true, plainKeys := false, apart := false, narrowed := true }
def FamilyDegreesUptoSaid : Prop := familyDegreesUptoRow.holds Try.pinned (OpenSpec.upto familyDegreesSpec)

/-- 'sandpilelaw11.FamilySwaps', WHERE WHAT IT READS IS OF BULK AT MOST 1048576: true; the input reads as it did. -/
def familySwapsUptoRow : OpenClaim := { program := "ytdbpajnjhgocoaa", sum := "99c597bcdf5ed0363b11bbafd6d1a50f2fd6ca3ac038253a49bdcdf3814a854d", func := "sandpile/sandpilelaw11.FamilySwaps", spec := "familySwaps", unfollowed := true, recurses := true, plainKeys := false, apart := false, narrowed := true }
def FamilySwapsUptoSaid : Prop := familySwapsUptoRow.holds Try.pinned (OpenSpec.upto familySwapsSpec)

end Rows
end Go.Proofs.Ytdbpajnjhgocoaa
