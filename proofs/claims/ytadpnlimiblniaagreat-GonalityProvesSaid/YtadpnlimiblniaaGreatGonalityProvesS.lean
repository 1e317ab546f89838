/-
GonalityProves answers true at every input, and every argument reads afterwards as it read before. No conditions but those of its row.
-/
import Derived.Test.YtadpnlimiblniaaGreatK8
namespace Go.Proofs.YtadpnlimiblniaaGreat
open Go Go.ChangeShapes Go.WideShapes Go.ChangeAt Go.RowKit Go.Joins Go.Deep

set_option maxRecDepth 100000 in
theorem gonalityProves_lifted (os : Os) (started : os.Started) (H : Type) (enc : TypeId × Value → H) :
    ReturnsInHanded {} Tryz.checked os 7 .any (Rows.gonalityProvesSpec.pre6 enc Tryz.prog Tryz.f7 Rows.gonalityProvesRow.domain false) (Rows.gonalityProvesSpec.post enc Tryz.prog Tryz.f7 false true false false) := by
  refine returnsInHanded_of_change (C := Tryz.checked) own started (by kernel_rfl) Tryz.func7
    (ChangeSpec.witness6 (enc := enc) (C := Tryz.checked) false ⟨#[], #[.agg #[.int .i64 0, .slice none 0 0], .agg #[.int .i64 0, .slice none 0 0, .slice none 0 0]], []⟩ 8 (by kernel_rfl) (by kernel_rfl) (by kernel_rfl) (by kernel_rfl)) ?_
  intro W base args ds gs before hval0 hW hcnd _
  have hval : ∀ (j : Nat) t v, Tryz.f7.params[j]? = some t → args[j]? = some v → Value.okWide Tryz.prog W .any base t v := hval0
  have hW' := hW
  obtain ⟨p, q, hA0, hV, rfl, hfz, hnd⟩ := hW
  have hA : DataW.TrodAll enc Tryz.prog W 0 (fun _ => true) true Tryz.f7.params.toList args.toList ds p := hA0
  rw [Tryz.params7] at hA hval
  obtain ⟨v0, v1, d0, d1, p0, p1, rfl, rfl, rfl, h0, h1⟩ := trodAll_two hA
  obtain ⟨rfl, rfl⟩ := trodVars_none hV
  clear hA0 hval0
  simp only [List.append_nil] at hW'
  have hlt : ∀ x ∈ p0 ++ p1, x.block < W.heap.size := fun x hx => hW'.lt x (by simpa using hx)
  obtain ⟨n0, A0, es0, c0, rfl, hd0⟩ := open_graph (hval 0 _ v0 rfl rfl) h0
  obtain ⟨u1_0, u1_1, u1_2, z1_0, z1_1, z1_2, mm1, rfl, -, -, hz1_0, hz1_1, hz1_2⟩ := open_agg3 Tryz.underlying60 (by kernel_rfl) (by kernel_rfl) (hval 1 _ v1 rfl rfl) h1
  obtain ⟨xx1_0, e1_0, -, -⟩ := DataW.trod_int Tryz.underlying3 hz1_0
  simp at e1_0
  subst e1_0
  obtain ⟨B1_1, ys1_1, k1_1, rfl, hy1_1⟩ := open_ints_f Tryz.underlying43 hz1_1
  obtain ⟨B1_2, ys1_2, k1_2, rfl, hy1_2⟩ := open_lists_f Tryz.underlying25 Tryz.underlying29 (by kernel_rfl) hz1_2
  refine (pok_l40_GonalityProves (R := fun r => r = true) (p_gonalityproves) (yaB _) hd0 hy1_1 hy1_2).mono fun e W' hq => ?_
  obtain ⟨r, he', hS, hr⟩ := hq
  subst hr
  subst he'
  have hp : Pure W W' := hS.pure
  have hB := hp.toBelow
  have k0 := Below.trod laidOut (by kernel_rfl) (of_decide_eq_true (by kernel_rfl)) h0 hB (fun y hy => hlt y (by simp [hy]))
  have k1 := Below.trod laidOut (by kernel_rfl) (of_decide_eq_true (by kernel_rfl)) h1 hB (fun y hy => hlt y (by simp [hy]))
  exact ⟨_, rfl, ⟨_, _, _, [], p0 ++ p1, [], hW', trodAll_mk1 (shut_bool Tryz.underlying4 true), trodAll_mk2 k0 k1, rfl, hB.frame _, fun h => by cases h⟩⟩

theorem gonalityProves_holds : Rows.GonalityProvesSaid :=
  OpenClaim.holds_of_wide 7 Tryz.f7 rfl rfl rfl rfl rfl rfl rfl ⟨rfl, rfl, rfl, rfl, rfl⟩ rfl rfl rfl rfl rfl (by kernel_rfl) Tryz.func7 (by kernel_rfl)
    (of_decide_eq_true (by kernel_rfl)) (by unfold Func.isWrapper; first | (rw [if_pos (by decide +kernel)]; kernel_rfl) | (rw [if_neg (by decide +kernel)]; exact ⟨rfl, rfl⟩))
    (fun os started H enc _ => gonalityProves_lifted os started H enc)
#print axioms gonalityProves_holds
end Go.Proofs.YtadpnlimiblniaaGreat
