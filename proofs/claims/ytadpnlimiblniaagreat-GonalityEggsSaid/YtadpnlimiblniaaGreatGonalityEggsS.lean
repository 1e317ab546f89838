/-
GonalityEggs answers true at every input, and every argument reads afterwards as it read before. No conditions but those of its row.
-/
import Derived.Test.YtadpnlimiblniaaGreatK8
namespace Go.Proofs.YtadpnlimiblniaaGreat
open Go Go.ChangeShapes Go.WideShapes Go.ChangeAt Go.RowKit Go.Joins Go.Deep

set_option maxRecDepth 100000 in
theorem gonalityEggs_lifted (os : Os) (started : os.Started) (H : Type) (enc : TypeId × Value → H) :
    ReturnsInHanded {} Tryz.checked os 9 .any (Rows.gonalityEggsSpec.pre6 enc Tryz.prog Tryz.f9 Rows.gonalityEggsRow.domain false) (Rows.gonalityEggsSpec.post enc Tryz.prog Tryz.f9 false true false false) := by
  refine returnsInHanded_of_change (C := Tryz.checked) own started (by kernel_rfl) Tryz.func9
    (ChangeSpec.witness6 (enc := enc) (C := Tryz.checked) false ⟨#[], #[.agg #[.int .i64 0, .slice none 0 0], .slice none 0 0, .slice none 0 0], []⟩ 8 (by kernel_rfl) (by kernel_rfl) (by kernel_rfl) (by kernel_rfl)) ?_
  intro W base args ds gs before hval0 hW hcnd _
  have hval : ∀ (j : Nat) t v, Tryz.f9.params[j]? = some t → args[j]? = some v → Value.okWide Tryz.prog W .any base t v := hval0
  have hW' := hW
  obtain ⟨p, q, hA0, hV, rfl, hfz, hnd⟩ := hW
  have hA : DataW.TrodAll enc Tryz.prog W 0 (fun _ => true) true Tryz.f9.params.toList args.toList ds p := hA0
  rw [Tryz.params9] at hA hval
  obtain ⟨v0, v1, v2, d0, d1, d2, p0, p1, p2, rfl, rfl, rfl, h0, h1, h2⟩ := trodAll_three hA
  obtain ⟨rfl, rfl⟩ := trodVars_none hV
  clear hA0 hval0
  simp only [List.append_nil] at hW'
  have hlt : ∀ x ∈ p0 ++ p1 ++ p2, x.block < W.heap.size := fun x hx => hW'.lt x (by simpa using hx)
  obtain ⟨n0, A0, es0, c0, rfl, hd0⟩ := open_graph (hval 0 _ v0 rfl rfl) h0
  obtain ⟨D1, xs1, cd1, rfl, hd1⟩ := open_lists Tryz.underlying25 Tryz.underlying29 (by kernel_rfl) (hval 1 _ v1 rfl rfl) h1
  obtain ⟨D2, xs2, cd2, rfl, hd2⟩ := open_lists Tryz.underlying25 Tryz.underlying29 (by kernel_rfl) (hval 2 _ v2 rfl rfl) h2
  refine (pok_l40_GonalityEggs (R := fun r => r = true) (p_gonalityeggs) (yaB _) hd0 hd1 hd2).mono fun e W' hq => ?_
  obtain ⟨r, he', hS, hr⟩ := hq
  subst hr
  subst he'
  have hp : Pure W W' := hS.pure
  have hB := hp.toBelow
  have k0 := Below.trod laidOut (by kernel_rfl) (of_decide_eq_true (by kernel_rfl)) h0 hB (fun y hy => hlt y (by simp [hy]))
  have k1 := Below.trod laidOut (by kernel_rfl) (of_decide_eq_true (by kernel_rfl)) h1 hB (fun y hy => hlt y (by simp [hy]))
  have k2 := Below.trod laidOut (by kernel_rfl) (of_decide_eq_true (by kernel_rfl)) h2 hB (fun y hy => hlt y (by simp [hy]))
  exact ⟨_, rfl, ⟨_, _, _, [], p0 ++ (p1 ++ p2), [], hW', trodAll_mk1 (shut_bool Tryz.underlying4 true), trodAll_mk3 k0 k1 k2, rfl, hB.frame _, fun h => by cases h⟩⟩

theorem gonalityEggs_holds : Rows.GonalityEggsSaid :=
  OpenClaim.holds_of_wide 9 Tryz.f9 rfl rfl rfl rfl rfl rfl rfl ⟨rfl, rfl, rfl, rfl, rfl⟩ rfl rfl rfl rfl rfl (by kernel_rfl) Tryz.func9 (by kernel_rfl)
    (of_decide_eq_true (by kernel_rfl)) (by unfold Func.isWrapper; first | (rw [if_pos (by decide +kernel)]; kernel_rfl) | (rw [if_neg (by decide +kernel)]; exact ⟨rfl, rfl⟩))
    (fun os started H enc _ => gonalityEggs_lifted os started H enc)
#print axioms gonalityEggs_holds
end Go.Proofs.YtadpnlimiblniaaGreat
