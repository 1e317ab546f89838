/- ReducedLends' pure form holds. -/
import Derived.Test.YtnhmeckhlajeaaaPLends
import Derived.Test.YtnhmeckhlajeaaaSpC
namespace Go.Proofs.Ytnhmeckhlajeaaa
open Go
set_option linter.unusedVariables false
set_option linter.unusedSimpArgs false

theorem small_of {n : Int} {es : List E3} {d : List Int} (h1 : smallF n es 6 9 = true) (h2 : lowF n d = true) : Small n es d := by
  unfold smallF at h1
  rw [decide_eq_true_eq] at h1
  rw [lowF_iff] at h2
  refine ⟨h1.1, h1.2, fun hc v hv => ?_⟩
  obtain ⟨n, rfl⟩ : ∃ n' : Nat, n = (n' : Int) := ⟨n.toNat, by omega⟩
  have := (checkF_ok hc).1
  have := h2.2 hc v (by omega)
  omega
theorem small_len {n : Int} {es : List E3} (h1 : smallF n es 6 9 = true) : es.length ≤ 40 := by
  unfold smallF at h1
  rw [decide_eq_true_eq] at h1
  exact h1.1
theorem p_lends {n q : Int} {es : List E3} {d : List Int} : pf_l34_ReducedLends n es q d (fun r => r = true) := by
  unfold pf_l34_ReducedLends
  refine ⟨smallF n es 6 9 = true ∧ lowF n d = true, fun ⟨h1, h2⟩ => ?_, p_r34_Few ⟨fun h1 => p_r34_Low ⟨fun h2 => ⟨h1, h2⟩, fun _ => rfl⟩, fun _ => rfl⟩⟩
  have hel := small_len h1
  have hdl := (lowF_iff.1 h2).1
  refine ⟨small_of h1 h2, by omega, fun h0 => ?_, fun h0 d' s' hP dl sl => ?_⟩
  · refine p_r34_Given (by omega) (by omega) ⟨fun q => absurd q h0, fun _ => ⟨fun _ => ⟨fun _ => ⟨fun _ => rfl, fun q => absurd rfl q⟩, fun q => absurd rfl q⟩, fun q => absurd rfl q⟩⟩
  · refine p_r34_Given (by omega) (by omega) ⟨fun _ => ?_, fun q => absurd h0 q⟩
    obtain ⟨k1, k2, k3, k4, k5⟩ := givenF_ok h0
    obtain ⟨n, rfl⟩ : ∃ n' : Nat, n = (n' : Int) := ⟨n.toNat, by omega⟩
    obtain ⟨q, rfl⟩ : ∃ q' : Nat, q = (q' : Int) := ⟨q.toNat, by omega⟩
    obtain ⟨hE, hn1, hn12⟩ := gcheck_ok k1
    obtain ⟨hdn, -, -, hdb⟩ := checkF_ok k5
    simp only [Int.toNat_natCast] at hP dl sl ⊢
    have c1 : checkF d' n = 0 := checkF_of dl hn1 hn12 fun j hj => by have := hP.bd j hj; omega
    have c2 : checkF s' n = 0 := checkF_of sl hn1 hn12 fun j hj => by have := hP.bs j hj; omega
    refine ⟨owesF q d = true ∨ d' = d, fun hJ => ?_, fun _ => ⟨fun _ => ?_, fun q => absurd (by omega) q⟩, fun q => absurd trivial q⟩
    · refine p_r34_Debt (by omega) ⟨fun _ => rfl, fun h3 => p_slices_Equal_Divisor (by omega) ⟨fun _ => rfl, fun h4 => absurd ?_ h4⟩⟩
      rcases hJ with h | h
      · exact absurd h h3
      · exact decide_eq_true h
    · refine p_r15_Script (by omega) ⟨fun _ => ?_, fun q => absurd c2 q⟩
      refine ⟨by omega, fun _ => p_r17_Check (by omega) ⟨fun _ => ?_, fun q => absurd c1 q⟩, fun h3 => absurd hP.sq h3⟩
      refine p_r34_Leads (by omega) k1 hdn (fun j hj => by have := hdb j hj; omega) sl (fun j hj => by have := hP.bs j hj; omega) dl (fun _ => ?_) (fun h3 => absurd hP.lp h3)
      refine ⟨fun _ => p_r34_Debt (by omega) ⟨fun h3 => absurd hP.pos ((owes_iff dl).1 h3), fun _ => ?_⟩, fun q => absurd rfl q⟩
      by_cases h3 : owesF q d = true
      · exact .inl h3
      · exact .inr (hP.same (Classical.not_not.1 fun h4 => h3 ((owes_iff hdn).2 h4)))
end Go.Proofs.Ytnhmeckhlajeaaa
