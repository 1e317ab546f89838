/- Settling: what holds before and behind each firing; reduced divisors and that they are alone. No program in sight. -/
import Derived.Test.YtnhmeckhlajeaaaGoodL
namespace Go.Proofs.Ytnhmeckhlajeaaa
open Go
set_option linter.unusedVariables false
set_option linter.unusedSectionVars false

/-- Every set without q has a way out. -/
def Conn (n : Nat) (es : List E3) (q : Nat) : Prop := ∀ S : Nat → Bool, S q = false → (∃ v, v < n ∧ S v = true) → ∃ v u, v < n ∧ u < n ∧ S v = true ∧ S u = false ∧ 0 < W es v u
/-- Reduced at q. -/
structure Red (n : Nat) (es : List E3) (q : Nat) (d : List Int) : Prop where
  pos : ∀ v, v < n → v ≠ q → 0 ≤ gi d v
  no : ∀ S : Nat → Bool, S q = false → (∃ v, v < n ∧ S v = true) → ∃ v, v < n ∧ S v = true ∧ gi d v < sm n (fun u => if S u then 0 else W es v u)

theorem conn_of_dist {n : Nat} {es : List E3} {q : Nat} {o : List Int} (hE : EOk n es) (hD : Dist n es q o) (hc : ∀ v, v < n → 0 ≤ gi o v) : Conn n es q := by
  intro S hS ⟨v, hv, hSv⟩
  suffices H : ∀ (k : Nat) v, v < n → S v = true → gi o v = (k : Int) → ∃ v u, v < n ∧ u < n ∧ S v = true ∧ S u = false ∧ 0 < W es v u by
    have := hc v hv
    exact H (gi o v).toNat v hv hSv (by omega)
  intro k
  induction k with
  | zero =>
    intro v hv hSv h0
    have := hD.zero v hv (by simpa using h0)
    subst this; rw [hS] at hSv; cases hSv
  | succ k ih =>
    intro v hv hSv hk
    obtain ⟨u, hu, hadj, hou⟩ := hD.par v hv (by omega)
    cases hSu : S u with
    | true => exact ih u hu hSu (by omega)
    | false => exact ⟨v, u, hv, hu, hSv, hSu, (W_adj hE).2 hadj⟩

theorem sm_pos {f : Nat → Int} {n : Nat} (h : ∀ i, i < n → 0 ≤ f i) {j : Nat} (hj : j < n) (h1 : 1 ≤ f j) : 1 ≤ sm n f := by
  have := sm_ge h j hj; omega
theorem sm_const (c : Int) : ∀ n : Nat, sm n (fun _ => c) = n * c
  | 0 => by simp [sm]
  | n + 1 => by
    rw [sm, sm_const c n]
    have : ((n + 1 : Nat) : Int) = (n : Int) + 1 := by omega
    rw [this, Int.add_mul]; omega
theorem sm_split {f : Nat → Int} {n q : Nat} (hq : q < n) : sm n f = f q + sm n (fun v => if v = q then 0 else f v) := by
  have h1 := sm_one (f q) hq
  rw [← h1, ← sm_add]
  exact sm_congr fun i _ => by
    show f i = ite _ _ _ + ite _ _ _
    split
    · subst_vars; omega
    · omega

/-- The number of vertices with a lower value. -/
def low (n : Nat) (f : Nat → Int) (c : Int) : Int := sm n (fun x => if f x < c then 1 else 0)
/-- Where all that goes out of sets without q is at most G, no value is much above that of q. -/
theorem climb {n : Nat} {es : List E3} {q : Nat} (hE : EOk n es) (hC : Conn n es q) (hq : q < n) {f : Nat → Int} {G : Int} (hG0 : 0 ≤ G) (hG : ∀ S : Nat → Bool, S q = false → sm n (fun v => if S v then Lp n es f v else 0) ≤ G) :
    ∀ v, v < n → f v - f q ≤ low n f (f v) * G := by
  suffices H : ∀ (k : Nat) v, v < n → low n f (f v) ≤ k → f v - f q ≤ low n f (f v) * G from fun v hv => H (low n f (f v)).toNat v hv (by omega)
  have lown : ∀ c, 0 ≤ low n f c := fun c => sm_nonneg fun x _ => by show 0 ≤ ite _ _ _; split <;> omega
  have step : ∀ v, v < n → f q < f v → ∃ u, u < n ∧ f u < f v ∧ f v - f u ≤ G ∧ low n f (f u) + 1 ≤ low n f (f v) := by
    intro v hv hlt
    have hS0 : (fun x => decide (f v ≤ f x)) q = false := by simp; omega
    obtain ⟨x, u, hx, hu, hSx, hSu, hW⟩ := hC (fun x => decide (f v ≤ f x)) hS0 ⟨v, hv, by simp⟩
    simp only [decide_eq_true_eq, decide_eq_false_iff_not] at hSx hSu
    have h1 := hG (fun x => decide (f v ≤ f x)) hS0
    rw [Lp_cut] at h1
    have nn : ∀ a b, 0 ≤ (if (decide (f v ≤ f a) && !decide (f v ≤ f b)) = true then W es a b * (f a - f b) else 0) := fun a b => by
      split
      · rename_i h
        simp only [Bool.and_eq_true, decide_eq_true_eq, Bool.not_eq_true', decide_eq_false_iff_not] at h
        exact Int.mul_nonneg (W_nonneg hE a b) (by omega)
      · omega
    have h2 := sm_ge (n := n) (f := fun a => sm n (fun b => if (decide (f v ≤ f a) && !decide (f v ≤ f b)) = true then W es a b * (f a - f b) else 0)) (fun a _ => sm_nonneg fun b _ => nn a b) x hx
    have h3 := sm_ge (n := n) (f := fun b => if (decide (f v ≤ f x) && !decide (f v ≤ f b)) = true then W es x b * (f x - f b) else 0) (fun b _ => nn x b) u hu
    have h4 : (decide (f v ≤ f x) && !decide (f v ≤ f u)) = true := by
      simp only [Bool.and_eq_true, decide_eq_true_eq, Bool.not_eq_true', decide_eq_false_iff_not]; omega
    simp only [h4, if_true] at h3
    have h5 : 1 * (f x - f u) ≤ W es x u * (f x - f u) := Int.mul_le_mul_of_nonneg_right (by omega) (by omega)
    have h6 : f x - f u ≤ G := by
      have h2' : sm n (fun b => if (decide (f v ≤ f x) && !decide (f v ≤ f b)) = true then W es x b * (f x - f b) else 0) ≤ sm n (fun a => sm n (fun b => if (decide (f v ≤ f a) && !decide (f v ≤ f b)) = true then W es a b * (f a - f b) else 0)) := h2
      omega
    refine ⟨u, hu, by omega, by omega, ?_⟩
    unfold low
    have h7 := sm_one 1 hu
    rw [← h7, ← sm_add]
    refine sm_le fun i _ => ?_
    show ite _ _ _ + ite _ _ _ ≤ ite _ _ _
    by_cases e : i = u
    · subst e; rw [if_neg (by omega), if_pos rfl, if_pos (by omega)]; omega
    · rw [if_neg e]; split <;> split <;> omega
  intro k
  induction k with
  | zero =>
    intro v hv hk
    by_cases h : f q < f v
    · obtain ⟨u, hu, h1, h2, h3⟩ := step v hv h
      have := lown (f u); omega
    · have := Int.mul_nonneg (lown (f v)) hG0; omega
  | succ k ih =>
    intro v hv hk
    by_cases h : f q < f v
    · obtain ⟨u, hu, h1, h2, h3⟩ := step v hv h
      have h4 := ih u hu (by omega)
      have h5 : (low n f (f u) + 1) * G ≤ low n f (f v) * G := Int.mul_le_mul_of_nonneg_right h3 hG0
      rw [Int.add_mul] at h5; omega
    · have := Int.mul_nonneg (lown (f v)) hG0; omega
theorem low_le {n : Nat} {f : Nat → Int} {v : Nat} (hv : v < n) : low n f (f v) ≤ (n : Int) - 1 := by
  have h7 := sm_one 1 hv
  have h1 : low n f (f v) + sm n (fun i => if i = v then 1 else 0) ≤ sm n (fun _ => 1) := by
    unfold low
    rw [← sm_add]
    refine sm_le fun i _ => ?_
    show (if f i < f v then (1 : Int) else 0) + (if i = v then (1 : Int) else 0) ≤ 1
    by_cases e : i = v
    · subst e; rw [if_neg (by omega), if_pos rfl]; omega
    · rw [if_neg e]; split <;> omega
  rw [h7] at h1
  rw [sm_const] at h1; omega

/-- Reduced divisors that differ by a firing are equal: a script that leads from one to the other is level. -/
theorem red_script {n : Nat} {es : List E3} {q : Nat} (hE : EOk n es) (hq : q < n) {d d' : List Int} (h : Red n es q d) (hpos : ∀ v, v < n → v ≠ q → 0 ≤ gi d' v) {f : Nat → Int} (hf : ∀ v, v < n → gi d' v = gi d v - Lp n es f v) : ∀ v, v < n → f v ≤ f q := by
  suffices H : ∀ (k : Nat) v, v < n → n ≤ k + (low n f (f v)).toNat → f v ≤ f q from fun v hv => H n v hv (by omega)
  have lown : ∀ c, 0 ≤ low n f c := fun c => sm_nonneg fun x _ => by show 0 ≤ ite _ _ _; split <;> omega
  intro k
  induction k with
  | zero => intro v hv hk; have := low_le (f := f) hv; have := lown (f v); omega
  | succ k ih =>
    intro v hv hk
    apply Int.not_lt.1
    intro hlt
    by_cases hmx : ∃ x, x < n ∧ f v < f x
    · obtain ⟨x, hx, hvx⟩ := hmx
      have h1 : low n f (f v) + 1 ≤ low n f (f x) := by
        unfold low
        have h7 := sm_one 1 hv
        rw [← h7, ← sm_add]
        refine sm_le fun i _ => ?_
        show ite _ _ _ + ite _ _ _ ≤ ite _ _ _
        by_cases e : i = v
        · subst e; rw [if_neg (by omega), if_pos rfl, if_pos (by omega)]; omega
        · rw [if_neg e]; split <;> split <;> omega
      have := ih x hx (by have := lown (f v); omega)
      omega
    · have hmx2 : ∀ x, x < n → f x ≤ f v := fun x hx => Int.not_lt.1 fun h => hmx ⟨x, hx, h⟩
      obtain ⟨x, hx, hSx, hlt2⟩ := h.no (fun x => decide (f x = f v)) (by simp; omega) ⟨v, hv, by simp⟩
      simp only [decide_eq_true_eq] at hSx hlt2
      have h2 := hf x hx
      have h3 : sm n (fun u => if f u = f v then 0 else W es x u) ≤ Lp n es f x := sm_le fun u hu => by
        have hu2 := hmx2 u hu
        have hw := W_nonneg hE x u
        show ite _ _ _ ≤ W es x u * (f x - f u)
        split
        · rename_i e; rw [show f x - f u = 0 by omega]; omega
        · have := Int.mul_le_mul_of_nonneg_left (show 1 ≤ f x - f u by omega) hw
          omega
      have h4 := hpos x hx (fun e => by subst e; omega)
      omega
end Go.Proofs.Ytnhmeckhlajeaaa
