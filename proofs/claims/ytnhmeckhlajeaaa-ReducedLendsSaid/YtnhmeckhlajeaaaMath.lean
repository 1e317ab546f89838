/- The plain laws behind lending: levels, cuts, bounds. No program in sight. -/
import Derived.Test.YtnhmeckhlajeaaaSum
import Derived.Test.YtnhmeckhlajeaaaSettle
import Derived.Test.YtnhmeckhlajeaaaResult
namespace Go.Proofs.Ytnhmeckhlajeaaa
open Go
set_option linter.unusedVariables false
set_option linter.unusedSimpArgs false
set_option linter.unusedSectionVars false

theorem fireE_ok {d s : List Int} (hd : ∀ j, -2097152 ≤ gi d j ∧ gi d j ≤ 2097152) (hs : ∀ j, -2097152 ≤ gi s j ∧ gi s j ≤ 2097152) (e : Int) : ∀ j, fireE d s e j = e
  | 0 => rfl
  | j + 1 => by
    rw [fireE, fireE_ok hd hs e j, if_neg]
    rintro ⟨h, -⟩
    have h1 := hd j
    have h2 := hs j
    unfold bigAt at h
    rw [decide_eq_true_eq] at h
    omega
theorem gi_out {d : List Int} {n : Nat} (h : d.length = n) {i : Nat} (hi : ¬ i < n) : gi d i = 0 := gi_ge (by omega)
theorem fireS_ind {inn : List Bool} {t : Int} {s : List Int} {n : Nat} (hs : s.length = n) {v : Nat} (hv : v < n) : gi (fireS inn t s n) v = gi s v + t * ind inn v := by
  rw [fireS_gi inn t s n v (by omega)]
  unfold ind
  by_cases h : gb inn v = true
  · rw [if_pos ⟨hv, h⟩, if_pos h]; omega
  · rw [if_neg (fun x => h x.2), if_neg h]; omega
theorem Lp_fireS {n : Nat} {es : List E3} {inn : List Bool} {t : Int} {s : List Int} (hs : s.length = n) {v : Nat} (hv : v < n) : Lp n es (gi (fireS inn t s n)) v = Lp n es (gi s) v + t * Lp n es (ind inn) v := by
  rw [Lp_congr (b := fun i => gi s i + t * ind inn i) (fun i hi => fireS_ind hs hi) hv, Lp_add, Lp_mul]

/-- The Laplacian of a set, inside and outside. -/
theorem Lp_ind_in {n : Nat} {es : List E3} {inn : List Bool} {v : Nat} (hb : gb inn v = true) : Lp n es (ind inn) v = sm n (fun u => if gb inn u = true then 0 else W es v u) := by
  unfold Lp
  refine sm_congr fun u _ => ?_
  have : ind inn v = 1 := by simp [ind, hb]
  rw [this]
  unfold ind
  split <;> simp
theorem Lp_ind_out {n : Nat} {es : List E3} {inn : List Bool} {v : Nat} (hb : ¬ gb inn v = true) : Lp n es (ind inn) v = - sm n (fun u => if gb inn u = true then W es v u else 0) := by
  have e : ∀ (f : Nat → Int), - sm n f = sm n (fun i => - f i) := fun f => by
    have := sm_mul (-1) f n
    simp only [Int.neg_mul, Int.one_mul] at this
    exact this.symm
  rw [e]
  unfold Lp
  refine sm_congr fun u _ => ?_
  have : ind inn v = 0 := by simp [ind, hb]
  rw [this]
  unfold ind
  split <;> simp

/-- The single edges to nearer vertices, of all vertices beyond k. -/
def FF (n : Nat) (es : List E3) (o : List Int) (k : Int) : Int := sm n (fun v => if k < gi o v then sm n (fun u => if gi o u < gi o v then W es v u else 0) else 0)
/-- The single edges between level k and what is nearer. -/
def CC (n : Nat) (es : List E3) (o : List Int) (k : Int) : Int := sm n (fun v => if gi o v = k then sm n (fun u => if gi o u < k then W es v u else 0) else 0)
/-- Twice the number of single edges. -/
def tot (n : Nat) (es : List E3) : Int := sm n (fun v => sm n (fun u => W es v u))
theorem FF_step (n : Nat) (es : List E3) (o : List Int) (k : Int) : FF n es o k = FF n es o (k + 1) + CC n es o (k + 1) := by
  unfold FF CC
  rw [← sm_add]
  refine sm_congr fun v _ => ?_
  by_cases h : gi o v = k + 1
  · rw [if_pos (by omega), if_neg (by omega), if_pos h, h]; omega
  · by_cases h2 : k < gi o v
    · rw [if_pos h2, if_pos (by omega), if_neg h]; omega
    · rw [if_neg h2, if_neg (by omega), if_neg h]; omega
section
variable {n : Nat} {es : List E3} (hE : EOk n es)
include hE
theorem CC_nonneg (o : List Int) (k : Int) : 0 ≤ CC n es o k := sm_nonneg fun v _ => by
  split
  · exact sm_nonneg fun u _ => by have := W_nonneg hE v u; split <;> omega
  · omega
theorem FF_nonneg (o : List Int) (k : Int) : 0 ≤ FF n es o k := sm_nonneg fun v _ => by
  split
  · exact sm_nonneg fun u _ => by have := W_nonneg hE v u; split <;> omega
  · omega
theorem FF_half (o : List Int) (k : Int) : 2 * FF n es o k ≤ tot n es := by
  have h1 : FF n es o k ≤ sm n (fun v => sm n (fun u => if gi o u < gi o v then W es v u else 0)) := sm_le fun v _ => by
    split
    · exact Int.le_refl _
    · exact sm_nonneg fun u _ => by have := W_nonneg hE v u; split <;> omega
  have h2 : sm n (fun v => sm n (fun u => if gi o u < gi o v then W es v u else 0)) = sm n (fun v => sm n (fun u => if gi o v < gi o u then W es v u else 0)) := by
    rw [sm_swap]
    exact sm_congr fun v _ => sm_congr fun u _ => by rw [W_symm es u v]
  have h3 : sm n (fun v => sm n (fun u => if gi o u < gi o v then W es v u else 0)) + sm n (fun v => sm n (fun u => if gi o v < gi o u then W es v u else 0)) ≤ tot n es := by
    unfold tot
    rw [← sm_add]
    refine sm_le fun v _ => ?_
    rw [← sm_add]
    refine sm_le fun u _ => ?_
    have := W_nonneg hE v u
    split <;> split <;> omega
  omega
variable {q : Nat} {o : List Int} (hD : Dist n es q o) (hc : ∀ v, v < n → 0 ≤ gi o v)
include hD hc
theorem Dist.lip {v u : Nat} (hv : v < n) (hu : u < n) (h : W es v u ≠ 0) : gi o u ≤ gi o v + 1 := by
  have h1 : 0 < W es v u := by have := W_nonneg hE v u; omega
  exact (hD.step v hv (hc v hv) u ((W_adj hE).1 h1)).2
theorem near_in {k : Int} {v : Nat} (hv : v < n) (hk : gi o v < k) : 0 ≤ Lp n es (ind (nearOf o k)) v ∧ Lp n es (ind (nearOf o k)) v ≤ CC n es o k := by
  have hol := hD.len
  rw [Lp_ind_in (by rw [gb_near (by omega)]; simpa using hk)]
  constructor
  · exact sm_nonneg fun u _ => by have := W_nonneg hE v u; split <;> omega
  · refine sm_le fun u hu => ?_
    rw [gb_near (by omega)]
    by_cases h : gi o u = k
    · rw [if_neg (by simp; omega), if_pos h]
      have h2 := sm_ge (f := fun i => if gi o i < k then W es u i else 0) (n := n) (fun i _ => by have := W_nonneg hE u i; show 0 ≤ ite _ _ _; split <;> omega) v hv
      simp only [if_pos hk] at h2
      rw [W_symm es v u]; exact h2
    · rw [if_neg h]
      split
      · omega
      · rename_i h2
        simp only [decide_eq_true_eq] at h2
        by_cases h3 : W es v u = 0
        · omega
        · have := hD.lip hE hc hv hu h3; omega
theorem near_at {k : Int} {v : Nat} (hv : v < n) (hk : gi o v = k) : Lp n es (ind (nearOf o k)) v = - joinsF es (v : Int) (fun u => gb (nearOf o k) u.toNat) ∧ - CC n es o k ≤ Lp n es (ind (nearOf o k)) v := by
  have hol := hD.len
  have h1 := Lp_ind_out (n := n) (es := es) (inn := nearOf o k) (v := v) (by rw [gb_near (by omega)]; simp; omega)
  rw [joins_sum hE, h1]
  simp only [Int.toNat_natCast]
  refine ⟨trivial, ?_⟩
  have h2 := sm_ge (f := fun v => if gi o v = k then sm n (fun u => if gi o u < k then W es v u else 0) else 0) (n := n) (fun i _ => by
    show 0 ≤ ite _ _ _
    split
    · exact sm_nonneg fun u _ => by have := W_nonneg hE i u; split <;> omega
    · omega) v hv
  simp only [if_pos hk] at h2
  have h3 : sm n (fun u => if gb (nearOf o k) u = true then W es v u else 0) = sm n (fun u => if gi o u < k then W es v u else 0) := sm_congr fun u hu => by
    rw [gb_near (by omega)]
    simp only [decide_eq_true_eq]
  rw [h3]
  unfold CC
  omega
theorem near_out {k : Int} {v : Nat} (hv : v < n) (hk : k < gi o v) : Lp n es (ind (nearOf o k)) v = 0 := by
  have hol := hD.len
  rw [Lp_ind_out (by rw [gb_near (by omega)]; simp; omega)]
  have : sm n (fun u => if gb (nearOf o k) u = true then W es v u else 0) = sm n (fun _ => 0) := sm_congr fun u hu => by
    rw [gb_near (by omega)]
    by_cases h : gi o u < k
    · rw [if_pos (by simpa using h)]
      by_cases h3 : W es v u = 0
      · exact h3
      · have := hD.lip hE hc hu hv (by rw [W_symm]; exact h3); omega
    · rw [if_neg (by simpa using h)]
  rw [this, sm_zero]; rfl
end
section
variable {es : List E3} {o : List Int} {k : Int} {d : List Int}
theorem ceil_ge {a b : Int} (hb : 1 ≤ b) : a ≤ (a + b - 1).tdiv b * b ∨ a + b - 1 < 0 := by
  by_cases h : a + b - 1 < 0
  · exact .inr h
  · left
    rw [Int.tdiv_eq_ediv_of_nonneg (by omega)]
    have h1 := Int.emod_add_mul_ediv (a + b - 1) b
    have h2 := Int.emod_lt_of_pos (a + b - 1) (show 0 < b by omega)
    rw [Int.mul_comm b] at h1
    omega
theorem ceil_le {a b M : Int} (hb : 1 ≤ b) (ha : 1 ≤ a) (hM : a ≤ M) : (a + b - 1).tdiv b ≤ M ∧ 1 ≤ (a + b - 1).tdiv b := by
  rw [Int.tdiv_eq_ediv_of_nonneg (by omega)]
  constructor
  · apply Int.le_of_lt_add_one
    apply Int.ediv_lt_of_lt_mul (by omega)
    have : a ≤ M * b := by
      have := Int.mul_le_mul_of_nonneg_left hb (show 0 ≤ M by omega)
      omega
    rw [Int.add_mul]; omega
  · apply Int.le_ediv_of_mul_le (by omega); omega
theorem timesL_le {M : Int} (h0 : 0 ≤ M) : ∀ n, (∀ v, v < n → -gi d v ≤ M) → (∀ v, v < n → gi o v = k → 1 ≤ joinsF es (v : Int) (fun u => gb (nearOf o k) u.toNat)) → 0 ≤ timesL es o k d n ∧ timesL es o k d n ≤ M
  | 0, _, _ => by simp [timesL]; exact h0
  | n + 1, hd, hj => by
    have ih := timesL_le h0 n (fun v hv => hd v (by omega)) (fun v hv => hj v (by omega))
    rw [timesL]
    split
    · rename_i h
      have := ceil_le (hj n (by omega) h.1) (show 1 ≤ -gi d n by omega) (hd n (by omega))
      unfold mxF
      split <;> omega
    · exact ih
theorem timesL_ge : ∀ n, (∀ v, v < n → gi o v = k → 1 ≤ joinsF es (v : Int) (fun u => gb (nearOf o k) u.toNat)) → ∀ v, v < n → gi o v = k → gi d v < 0 →
    1 ≤ timesL es o k d n ∧ -gi d v ≤ timesL es o k d n * joinsF es (v : Int) (fun u => gb (nearOf o k) u.toNat)
  | n + 1, hj, v, hv, hk, hd => by
    rw [timesL]
    have mx : ∀ a b : Int, a ≤ mxF a b ∧ b ≤ mxF a b := fun a b => by unfold mxF; split <;> omega
    have hjv := hj v hv hk
    have up : ∀ {a b : Int}, a ≤ b → -gi d v ≤ a * joinsF es (v : Int) (fun u => gb (nearOf o k) u.toNat) → -gi d v ≤ b * joinsF es (v : Int) (fun u => gb (nearOf o k) u.toNat) := fun {a b} h h2 =>
      Int.le_trans h2 (Int.mul_le_mul_of_nonneg_right h (by omega))
    by_cases e : v = n
    · subst e
      rw [if_pos ⟨hk, hd⟩]
      have h1 := ceil_le (M := -gi d v) hjv (show 1 ≤ -gi d v by omega) (Int.le_refl _)
      have h2 := mx (timesL es o k d v) ((-gi d v + joinsF es (v : Int) (fun u => gb (nearOf o k) u.toNat) - 1).tdiv (joinsF es (v : Int) (fun u => gb (nearOf o k) u.toNat)))
      refine ⟨by omega, up h2.2 ?_⟩
      rcases ceil_ge (a := -gi d v) hjv with h | h
      · exact h
      · omega
    · have ih := timesL_ge n (fun v hv => hj v (by omega)) v (by omega) hk hd
      split
      · have h2 := mx (timesL es o k d n) ((-gi d n + joinsF es (n : Int) (fun u => gb (nearOf o k) u.toNat) - 1).tdiv (joinsF es (n : Int) (fun u => gb (nearOf o k) u.toNat)))
        exact ⟨by omega, up h2.1 ih.2⟩
      · exact ih
theorem timesL_zero : ∀ n, (∀ v, v < n → gi o v = k → 0 ≤ gi d v) → timesL es o k d n = 0
  | 0, _ => rfl
  | n + 1, h => by
    rw [timesL, if_neg (fun x => by have := h n (by omega) x.1; omega)]
    exact timesL_zero n fun v hv => h v (by omega)
end
end Go.Proofs.Ytnhmeckhlajeaaa
