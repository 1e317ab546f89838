/-
TopReducedCounts answers true at every input, and every argument reads afterwards as it read before. No conditions but those of its row.
-/
import Derived.Test.YtjepipbkiadcpaaGreatK8
namespace Go.Proofs.YtjepipbkiadcpaaGreat
open Go Go.ChangeShapes Go.WideShapes Go.ChangeAt Go.RowKit Go.Joins Go.Deep

set_option maxRecDepth 100000 in
theorem topReducedCounts_lifted (os : Os) (started : os.Started) (H : Type) (enc : TypeId × Value → H) :
    ReturnsInHanded {} Tryz.checked os 3 .any (Rows.topReducedCountsSpec.pre6 enc Tryz.prog Tryz.f3 Rows.topReducedCountsRow.domain false) (Rows.topReducedCountsSpec.post enc Tryz.prog Tryz.f3 false true false false) := by
  refine returnsInHanded_of_change (C := Tryz.checked) own started (by kernel_rfl) Tryz.func3
    (ChangeSpec.witness6 (enc := enc) (C := Tryz.checked) false ⟨#[], #[.agg #[.int .i64 0, .slice none 0 0], .int .u8 0], []⟩ 8 (by kernel_rfl) (by kernel_rfl) (by kernel_rfl) (by kernel_rfl)) ?_
  intro W base args ds gs before hval0 hW hcnd _
  have hval : ∀ (j : Nat) t v, Tryz.f3.params[j]? = some t → args[j]? = some v → Value.okWide Tryz.prog W .any base t v := hval0
  have hW' := hW
  obtain ⟨p, q, hA0, hV, rfl, hfz, hnd⟩ := hW
  have hA : DataW.TrodAll enc Tryz.prog W 0 (fun _ => true) true Tryz.f3.params.toList args.toList ds p := hA0
  rw [Tryz.params3] at hA hval
  obtain ⟨v0, v1, d0, d1, p0, p1, rfl, rfl, rfl, h0, h1⟩ := trodAll_two hA
  obtain ⟨rfl, rfl⟩ := trodVars_none hV
  clear hA0 hval0
  simp only [List.append_nil] at hW'
  have hlt : ∀ x ∈ p0 ++ p1, x.block < W.heap.size := fun x hx => hW'.lt x (by simpa using hx)
  obtain ⟨n0, A0, es0, c0, rfl, hd0⟩ := open_graph (hval 0 _ v0 rfl rfl) h0
  obtain ⟨x1, rfl, ea1, eb1, wx1⟩ := open_int Tryz.underlying5 (hval 1 _ v1 rfl rfl) h1
  refine (ygW (R := fun r => r = true) (p_topcounts (by have := bounds_u8 wx1; omega)) (yaN _) hd0).mono fun e W' hq => ?_
  obtain ⟨r, he', hS, hr⟩ := hq
  subst hr
  subst he'
  have hp : Pure W W' := hS.pure
  have hB := hp.toBelow
  have k0 := Below.trod laidOut (by kernel_rfl) (of_decide_eq_true (by kernel_rfl)) h0 hB (fun y hy => hlt y (by simp [hy]))
  have k1 := Below.trod laidOut (by kernel_rfl) (of_decide_eq_true (by kernel_rfl)) h1 hB (fun y hy => hlt y (by simp [hy]))
  exact ⟨_, rfl, ⟨_, _, _, [], p0 ++ p1, [], hW', trodAll_mk1 (shut_bool Tryz.underlying4 true), trodAll_mk2 k0 k1, rfl, hB.frame _, fun h => by cases h⟩⟩

theorem topReducedCounts_holds : Rows.TopReducedCountsSaid :=
  OpenClaim.holds_of_wide 3 Tryz.f3 rfl rfl rfl rfl rfl rfl rfl ⟨rfl, rfl, rfl, rfl, rfl⟩ rfl rfl rfl rfl rfl (by kernel_rfl) Tryz.func3 (by kernel_rfl)
    (of_decide_eq_true (by kernel_rfl)) (by unfold Func.isWrapper; first | (rw [if_pos (by decide +kernel)]; kernel_rfl) | (rw [if_neg (by decide +kernel)]; exact ⟨rfl, rfl⟩))
    (fun os started H enc _ => topReducedCounts_lifted os started H enc)
#print axioms topReducedCounts_holds
end Go.Proofs.YtjepipbkiadcpaaGreat
