/-
ContractMoves answers true at every input, and every argument reads afterwards as it read before. No conditions but those of its row.
-/
import Derived.Test.YtinoedockljfeaaK6
namespace Go.Proofs.Ytinoedockljfeaa
open Go Go.ChangeShapes Go.WideShapes Go.ChangeAt Go.RowKit Go.Joins Go.Deep

set_option maxRecDepth 100000 in
theorem contractMoves_lifted (os : Os) (started : os.Started) (H : Type) (enc : TypeId × Value → H) :
    ReturnsInHanded {} Try.checked os 6 .any (Rows.contractMovesSpec.pre6 enc Try.prog Try.f6 Rows.contractMovesRow.domain false) (Rows.contractMovesSpec.post enc Try.prog Try.f6 false true false false) := by
  refine returnsInHanded_of_change (C := Try.checked) own started (by kernel_rfl) Try.func6
    (ChangeSpec.witness6 (enc := enc) (C := Try.checked) false ⟨#[], #[.agg #[.int .i64 0, .slice none 0 0], .int .i64 0], []⟩ 8 (by kernel_rfl) (by kernel_rfl) (by kernel_rfl) (by kernel_rfl)) ?_
  intro W base args ds gs before hval0 hW hcnd _
  have hval : ∀ (j : Nat) t v, Try.f6.params[j]? = some t → args[j]? = some v → Value.okWide Try.prog W .any base t v := hval0
  have hW' := hW
  obtain ⟨p, q, hA0, hV, rfl, hfz, hnd⟩ := hW
  have hA : DataW.TrodAll enc Try.prog W 0 (fun _ => true) true Try.f6.params.toList args.toList ds p := hA0
  rw [Try.params6] at hA hval
  obtain ⟨v0, v1, d0, d1, p0, p1, rfl, rfl, rfl, h0, h1⟩ := trodAll_two hA
  obtain ⟨rfl, rfl⟩ := trodVars_none hV
  clear hA0 hval0
  simp only [List.append_nil] at hW'
  have hlt : ∀ x ∈ p0 ++ p1, x.block < W.heap.size := fun x hx => hW'.lt x (by simpa using hx)
  obtain ⟨n0, A0, es0, c0, rfl, hd0⟩ := open_graph (hval 0 _ v0 rfl rfl) h0
  obtain ⟨x1, rfl, ea1, eb1, wx1⟩ := open_int Try.underlying3 (hval 1 _ v1 rfl rfl) h1
  refine (pok_l12_ContractMoves (R := fun r => r = true) (p_moves) (yaF _) hd0).mono fun e W' hq => ?_
  obtain ⟨r, he', hS, hr⟩ := hq
  subst hr
  subst he'
  have hp : Pure W W' := hS.pure
  have hB := hp.toBelow
  have k0 := Below.trod laidOut (by kernel_rfl) (of_decide_eq_true (by kernel_rfl)) h0 hB (fun y hy => hlt y (by simp [hy]))
  have k1 := Below.trod laidOut (by kernel_rfl) (of_decide_eq_true (by kernel_rfl)) h1 hB (fun y hy => hlt y (by simp [hy]))
  exact ⟨_, rfl, ⟨_, _, _, [], p0 ++ p1, [], hW', trodAll_mk1 (shut_bool Try.underlying4 true), trodAll_mk2 k0 k1, rfl, hB.frame _, fun h => by cases h⟩⟩

theorem contractMoves_holds : Rows.ContractMovesSaid :=
  OpenClaim.holds_of_wide 6 Try.f6 rfl rfl rfl rfl rfl rfl rfl ⟨rfl, rfl, rfl, rfl, rfl⟩ rfl rfl rfl rfl rfl (by kernel_rfl) Try.func6 (by kernel_rfl)
    (of_decide_eq_true (by kernel_rfl)) (by unfold Func.isWrapper; first | (rw [if_pos (by decide +kernel)]; kernel_rfl) | (rw [if_neg (by decide +kernel)]; exact ⟨rfl, rfl⟩))
    (fun os started H enc _ => contractMoves_lifted os started H enc)
#print axioms contractMoves_holds
end Go.Proofs.Ytinoedockljfeaa
