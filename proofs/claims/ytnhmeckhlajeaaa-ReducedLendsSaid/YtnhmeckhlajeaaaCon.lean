/- A right graph's edges; its forest of parts against ways out of sets. No program in sight. -/
import Derived.Test.YtnhmeckhlajeaaaGoodT
import Derived.Test.YtnhmeckhlajeaaaConn2
namespace Go.Proofs.Ytnhmeckhlajeaaa
open Go
set_option linter.unusedVariables false
set_option linter.unusedSectionVars false

theorem gchk_ok {n : Int} : ∀ (es : List E3) (a b : Int), gchk n a b es = 0 → ∀ x ∈ es, 0 ≤ x.1 ∧ x.1 < n ∧ 0 ≤ x.2.1 ∧ x.2.1 < n ∧ 1 ≤ x.2.2 ∧ x.2.2 ≤ 50
  | [], _, _, _ => by simp
  | x :: t, a, b, h => by
    rw [gchk] at h
    split at h
    · rename_i c
      split at h
      · intro y hy
        rcases List.mem_cons.1 hy with rfl | hy
        · omega
        · exact gchk_ok t _ _ h y hy
      · omega
    · omega
theorem gcheck_ok {n : Nat} {es : List E3} (h : gcheckF n es = 0) : EOk n es ∧ 1 ≤ n ∧ n ≤ 12 := by
  unfold gcheckF at h
  split at h
  · rename_i c
    exact ⟨gchk_ok es _ _ h, by omega, by omega⟩
  · omega

/-- Edges that lead out of no set leave the roots in it. -/
theorem root_side {n : Nat} {S : Nat → Bool} : ∀ (es : List E3), Ends12 es → (∀ x ∈ es, S x.1.toNat = S x.2.1.toNat) → ∀ v, v < 12 → S (root (joinedF es) v) = S v := by
  suffices H : ∀ (l : List E3) (F : List Nat), Ends12 l → (∀ x ∈ l, S x.1.toNat = S x.2.1.toNat) → Forest F → (∀ v, v < 12 → S (root F v) = S v) → ∀ v, v < 12 → S (root (l.foldl (fun F x => joinN F x.1.toNat x.2.1.toNat) F) v) = S v by
    intro es hE hS
    refine H es grownF hE hS grownF_forest fun v hv => ?_
    rw [root_self (by rw [gn_of_lt (by simpa [grownF] using hv)]; simp [grownF])]
  intro l
  induction l with
  | nil => exact fun F _ _ _ h => h
  | cons x l ih =>
    intro F hE hS hF h
    have hx := hE x (by simp)
    have hSx := hS x (by simp)
    refine ih _ (fun y hy => hE y (by simp [hy])) (fun y hy => hS y (by simp [hy])) (joinN_forest hF (by omega) (by omega)) fun v hv => ?_
    rw [root_joinN hF (by omega) (by omega) v hv]
    have ha := h x.1.toNat (by omega)
    have hb := h x.2.1.toNat (by omega)
    split
    · rename_i e
      rw [← h v hv, e]
      rcases Nat.le_total (root F x.1.toNat) (root F x.2.1.toNat) with q | q
      · rw [Nat.max_eq_right q, Nat.min_eq_left q, ha, hb, hSx]
      · rw [Nat.max_eq_left q, Nat.min_eq_right q, ha, hb, hSx]
    · exact h v hv
/-- The ends of an edge have one root. -/
theorem root_edge : ∀ (es : List E3), Ends12 es → ∀ x ∈ es, root (joinedF es) x.1.toNat = root (joinedF es) x.2.1.toNat := by
  suffices H : ∀ (l : List E3) (F : List Nat), Ends12 l → Forest F → (∀ a b, a < 12 → b < 12 → root F a = root F b → root (l.foldl (fun F x => joinN F x.1.toNat x.2.1.toNat) F) a = root (l.foldl (fun F x => joinN F x.1.toNat x.2.1.toNat) F) b) ∧
      ∀ x ∈ l, root (l.foldl (fun F x => joinN F x.1.toNat x.2.1.toNat) F) x.1.toNat = root (l.foldl (fun F x => joinN F x.1.toNat x.2.1.toNat) F) x.2.1.toNat from
    fun es hE => (H es grownF hE grownF_forest).2
  intro l
  induction l with
  | nil => exact fun F _ _ => ⟨fun a b _ _ h => h, by simp⟩
  | cons x l ih =>
    intro F hE hF
    have hx := hE x (by simp)
    have hJ := joinN_forest hF (a := x.1.toNat) (b := x.2.1.toNat) (by omega) (by omega)
    obtain ⟨i1, i2⟩ := ih (joinN F x.1.toNat x.2.1.toNat) (fun y hy => hE y (by simp [hy])) hJ
    have hr := root_joinN hF (a := x.1.toNat) (b := x.2.1.toNat) (by omega) (by omega)
    refine ⟨fun a b ha hb h => i1 a b ha hb (by rw [hr a ha, hr b hb, h]), fun y hy => ?_⟩
    rcases List.mem_cons.1 hy with rfl | hy
    · refine i1 _ _ (by omega) (by omega) ?_
      rw [hr _ (by omega), hr _ (by omega)]
      rcases Nat.le_total (root F y.1.toNat) (root F y.2.1.toNat) with q | q
      · rw [Nat.max_eq_right q, Nat.min_eq_left q, if_pos rfl]; split <;> omega
      · rw [Nat.max_eq_left q, Nat.min_eq_right q, if_pos rfl]; split <;> omega
    · exact i2 y hy
theorem nroots_one {F : List Nat} (hF : Forest F) {n : Nat} (hn : 1 ≤ n) (h12 : n ≤ 12) : nroots F n = 1 ↔ ∀ v, v < n → root F v = root F 0 := by
  have h0 : root F 0 = 0 := by have := (root_le hF 0 (by omega)).1; omega
  constructor
  · intro h v hv
    have h1 := root_le hF v (by omega)
    have h2 : root F (root F v) = root F v := root_root hF (by omega)
    rw [h0]
    apply Nat.eq_zero_of_not_pos
    intro hpos
    have h3 := nroots_lt F hpos h0
    have h4 := nroots_lt F (show root F v < n by omega) h2
    omega
  · intro h
    have H : ∀ k, k + 1 ≤ n → nroots F (k + 1) = 1 := by
      intro k
      induction k with
      | zero => intro _; rw [nroots, nroots, if_pos h0]
      | succ k ih =>
        intro hk
        rw [nroots, ih (by omega), if_neg]
        rw [h (k + 1) (by omega), h0]; omega
    obtain ⟨k, rfl⟩ : ∃ k, n = k + 1 := ⟨n - 1, by omega⟩
    exact H k (Nat.le_refl _)
section
variable {n : Nat} {es : List E3} (hE : EOk n es) (hn : 1 ≤ n) (h12 : n ≤ 12)
include hE hn h12
theorem EOk.ends : Ends12 es := fun x hx => by have := hE x hx; omega
theorem W_edge {x : E3} (hx : x ∈ es) (hne : x.1 ≠ x.2.1) : 0 < W es x.1.toNat x.2.1.toNat := by
  have h := hE x hx
  exact (W_adj hE).2 ⟨x.2.2, mem_linksF.2 ⟨x, hx, hne, by omega, by omega, rfl⟩⟩
theorem conn_iff {q : Nat} (hq : q < n) : connF n es = true ↔ Conn n es q := by
  have hF := joinedF_forest es (hE.ends hn h12)
  have hk : connF n es = true ↔ ∀ v, v < n → root (joinedF es) v = root (joinedF es) 0 := by
    unfold connF
    rw [beq_iff_eq, Int.toNat_natCast]
    exact nroots_one hF hn h12
  rw [hk]
  constructor
  · intro h S hS ⟨v, hv, hSv⟩
    apply Classical.byContradiction
    intro hno
    have hcl : ∀ x ∈ es, S x.1.toNat = S x.2.1.toNat := fun x hx => by
      have hb := hE x hx
      by_cases e : x.1 = x.2.1
      · rw [e]
      · have hw := W_edge hE hn h12 hx e
        cases h1 : S x.1.toNat <;> cases h2 : S x.2.1.toNat
        · rfl
        · exact absurd ⟨x.2.1.toNat, x.1.toNat, by omega, by omega, h2, h1, by rw [W_symm]; exact hw⟩ hno
        · exact absurd ⟨x.1.toNat, x.2.1.toNat, by omega, by omega, h1, h2, hw⟩ hno
        · rfl
    have hs := root_side (n := n) es (hE.ends hn h12) hcl
    have h1 := hs v (by omega)
    have h2 := hs q (by omega)
    rw [h v hv] at h1
    rw [h q hq, h1, hSv, hS] at h2
    cases h2
  · intro hC v hv
    have hedge := root_edge es (hE.ends hn h12)
    suffices H : ∀ v, v < n → root (joinedF es) v = root (joinedF es) q by rw [H v hv, H 0 (by omega)]
    intro v hv
    apply Classical.byContradiction
    intro hne
    obtain ⟨a, b, ha, hb, hSa, hSb, hW⟩ := hC (fun v => decide (root (joinedF es) v ≠ root (joinedF es) q)) (by simp) ⟨v, hv, by simpa using hne⟩
    obtain ⟨m, hm⟩ := (W_adj hE).1 hW
    obtain ⟨x, hx, q1, q2, q3, q4⟩ := mem_linksF.1 hm
    have h1 := hedge x hx
    have hbx := hE x hx
    simp only [decide_eq_true_eq, decide_eq_false_iff_not, ne_eq, Decidable.not_not] at hSa hSb
    rcases q2 with q2 | q2
    · rw [show x.1.toNat = a by omega, show x.2.1.toNat = b by omega, hSb] at h1; exact hSa h1
    · rw [show x.1.toNat = b by omega, show x.2.1.toNat = a by omega, hSb] at h1; exact hSa h1.symm
theorem dist_pos {q : Nat} {o : List Int} (hC : Conn n es q) (hD : Dist n es q o) : ∀ v, v < n → 0 ≤ gi o v := by
  intro v hv
  apply Int.not_lt.1
  intro hneg
  obtain ⟨a, b, ha, hb, hSa, hSb, hW⟩ := hC (fun v => decide (gi o v < 0)) (by rw [hD.q0]; simp) ⟨v, hv, by simpa using hneg⟩
  simp only [decide_eq_true_eq, decide_eq_false_iff_not] at hSa hSb
  have := hD.step b hb (by omega) a ((W_adj hE).1 (by rw [W_symm]; exact hW))
  omega
theorem tot_le : tot n es ≤ 2 * (es.map (·.2.2)).sum := by
  clear hn h12
  induction es with
  | nil =>
    unfold tot
    rw [sm_congr (g := fun _ => 0) (fun v _ => by rw [sm_congr (g := fun _ => 0) (fun u _ => W_nil v u), sm_zero]), sm_zero]
    simp
  | cons x es ih =>
    have ih := ih (fun y hy => hE y (by simp [hy]))
    have hx := hE x (by simp)
    have h1 : tot n (x :: es) = sm n (fun v => sm n (fun u => w1 x v u)) + tot n es := by
      unfold tot
      rw [← sm_add]
      refine sm_congr fun v _ => ?_
      rw [← sm_add]
      exact sm_congr fun u _ => W_cons x es v u
    have h2 : sm n (fun v => sm n (fun u => w1 x v u)) ≤ sm n (fun v => sm n (fun u => (if v = x.1.toNat then (if u = x.2.1.toNat then x.2.2 else 0) else 0) + (if v = x.2.1.toNat then (if u = x.1.toNat then x.2.2 else 0) else 0))) :=
      sm_le fun v _ => sm_le fun u _ => by
        show w1 x v u ≤ ite _ _ _ + ite _ _ _
        unfold w1
        split
        · rename_i c
          rcases c.2 with c2 | c2
          · rw [if_pos (show v = x.1.toNat by omega), if_pos (show u = x.2.1.toNat by omega)]
            split <;> (try split) <;> omega
          · rw [if_pos (show v = x.2.1.toNat by omega), if_pos (show u = x.1.toNat by omega)]
            split <;> (try split) <;> omega
        · split <;> (try split) <;> (try split) <;> (try split) <;> omega
    have h3 : ∀ a b : Nat, a < n → b < n → sm n (fun v => sm n (fun u => if v = a then (if u = b then x.2.2 else 0) else 0)) = x.2.2 := fun a b ha hb => by
      rw [sm_congr (g := fun v => if v = a then x.2.2 else 0) (fun v _ => by
        by_cases e : v = a
        · simp only [if_pos e]; exact sm_one _ hb
        · simp only [if_neg e]; exact sm_zero n)]
      exact sm_one _ ha
    have h4 : sm n (fun v => sm n (fun u => (if v = x.1.toNat then (if u = x.2.1.toNat then x.2.2 else 0) else 0) + (if v = x.2.1.toNat then (if u = x.1.toNat then x.2.2 else 0) else 0))) = x.2.2 + x.2.2 := by
      have e : ∀ A B : Nat → Nat → Int, sm n (fun v => sm n (fun u => A v u + B v u)) = sm n (fun v => sm n (A v)) + sm n (fun v => sm n (B v)) := fun A B => by
        rw [← sm_add]
        exact sm_congr fun v _ => by rw [← sm_add]
      refine (e (fun v u => if v = x.1.toNat then (if u = x.2.1.toNat then x.2.2 else 0) else 0) (fun v u => if v = x.2.1.toNat then (if u = x.1.toNat then x.2.2 else 0) else 0)).trans ?_
      rw [h3 x.1.toNat x.2.1.toNat (by omega) (by omega), h3 x.2.1.toNat x.1.toNat (by omega) (by omega)]
    rw [List.map_cons, List.sum_cons, h1]
    omega
end
end Go.Proofs.Ytnhmeckhlajeaaa
