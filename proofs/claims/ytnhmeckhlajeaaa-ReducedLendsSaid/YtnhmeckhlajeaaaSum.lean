/- Sums, weights, the Laplacian, and what firing does to the chips. No program in sight. -/
import Derived.Test.YtnhmeckhlajeaaaLend
namespace Go.Proofs.Ytnhmeckhlajeaaa
open Go
set_option linter.unusedVariables false

/-- The sum of f over the numbers below n. -/
def sm : Nat → (Nat → Int) → Int
  | 0, _ => 0
  | n + 1, f => sm n f + f n
theorem sm_congr {f g : Nat → Int} : ∀ {n : Nat}, (∀ i, i < n → f i = g i) → sm n f = sm n g
  | 0, _ => rfl
  | n + 1, h => by rw [sm, sm, sm_congr (fun i hi => h i (by omega)), h n (by omega)]
theorem sm_zero : ∀ n, sm n (fun _ => 0) = 0
  | 0 => rfl
  | n + 1 => by rw [sm, sm_zero n]; rfl
theorem sm_add (f g : Nat → Int) : ∀ n, sm n (fun i => f i + g i) = sm n f + sm n g
  | 0 => rfl
  | n + 1 => by simp only [sm, sm_add f g n]; omega
theorem sm_sub (f g : Nat → Int) : ∀ n, sm n (fun i => f i - g i) = sm n f - sm n g
  | 0 => rfl
  | n + 1 => by simp only [sm, sm_sub f g n]; omega
theorem sm_mul (c : Int) (f : Nat → Int) : ∀ n, sm n (fun i => c * f i) = c * sm n f
  | 0 => by simp [sm]
  | n + 1 => by simp only [sm, sm_mul c f n, Int.mul_add]
theorem sm_le {f g : Nat → Int} : ∀ {n : Nat}, (∀ i, i < n → f i ≤ g i) → sm n f ≤ sm n g
  | 0, _ => Int.le_refl _
  | n + 1, h => by
    have h1 := sm_le (fun i hi => h i (by omega) : ∀ i, i < n → f i ≤ g i)
    have h2 := h n (by omega)
    rw [sm, sm]; omega
theorem sm_nonneg {f : Nat → Int} {n : Nat} (h : ∀ i, i < n → 0 ≤ f i) : 0 ≤ sm n f := by
  have := sm_le h
  rwa [sm_zero] at this
theorem sm_ge {f : Nat → Int} : ∀ {n : Nat}, (∀ i, i < n → 0 ≤ f i) → ∀ j, j < n → f j ≤ sm n f
  | n + 1, h, j, hj => by
    have h1 := sm_nonneg (fun i hi => h i (by omega) : ∀ i, i < n → 0 ≤ f i)
    have h2 := h n (by omega)
    rw [sm]
    by_cases e : j = n
    · subst e; omega
    · have := sm_ge (fun i hi => h i (by omega) : ∀ i, i < n → 0 ≤ f i) j (by omega); omega
theorem sm_swap (f : Nat → Nat → Int) (m : Nat) : ∀ n, sm n (fun i => sm m (fun j => f i j)) = sm m (fun j => sm n (fun i => f i j))
  | 0 => by simp only [sm]; rw [sm_zero]
  | n + 1 => by
    simp only [sm]
    rw [sm_swap f m n, ← sm_add]
theorem sm_one (c : Int) : ∀ {n j : Nat}, j < n → sm n (fun i => if i = j then c else 0) = c
  | n + 1, j, h => by
    rw [sm]
    by_cases e : j = n
    · subst e
      rw [if_pos rfl, sm_congr (g := fun _ => 0) (fun i hi => if_neg (by omega)), sm_zero]; omega
    · rw [sm_one c (by omega : j < n), if_neg (by omega)]; omega

/-- What a list of links adds up to, where p holds. -/
def addG (p : Int → Bool) : List (Int × Int) → Int
  | [] => 0
  | x :: l => (if p x.1 then x.2 else 0) + addG p l
theorem addF_eq (p : Int → Bool) (l : List (Int × Int)) : addF p l = addG p l := by
  suffices H : ∀ (l : List (Int × Int)) (a : Int), l.foldl (fun n x => if p x.1 then n + x.2 else n) a = a + addG p l by
    unfold addF; rw [H]; omega
  intro l
  induction l with
  | nil => intro a; simp [addG]
  | cons x l ih => intro a; rw [List.foldl_cons, ih, addG]; split <;> omega
theorem addG_sum {n : Nat} (p : Int → Bool) : ∀ (l : List (Int × Int)), (∀ x ∈ l, 0 ≤ x.1 ∧ x.1 < n) → addG p l = sm n (fun u => if p (u : Int) then addG (fun x => x == (u : Int)) l else 0)
  | [], _ => by
    rw [addG, sm_congr (g := fun _ => 0) (fun i _ => by simp [addG]), sm_zero]
  | x :: l, h => by
    have hx := h x (by simp)
    have ih := addG_sum p l (fun y hy => h y (by simp [hy]))
    have h1 : sm n (fun u => if p (u : Int) then addG (fun y => y == (u : Int)) (x :: l) else 0) = sm n (fun u => (if u = x.1.toNat then (if p x.1 then x.2 else 0) else 0) + (if p (u : Int) then addG (fun y => y == (u : Int)) l else 0)) := by
      refine sm_congr (fun u hu => ?_)
      simp only [addG]
      by_cases e : u = x.1.toNat
      · have e2 : x.1 = (u : Int) := by omega
        rw [if_pos e, e2]
        simp only [beq_self_eq_true, if_true]
        split <;> omega
      · have e2 : (x.1 == (u : Int)) = false := by simp; omega
        rw [if_neg e]
        simp only [e2, Bool.false_eq_true, if_false]
        split <;> omega
    rw [h1, sm_add, sm_one _ (by omega), addG, ih]

/-- How often two vertices are joined. -/
def W (es : List E3) (v u : Nat) : Int := joinsF es (v : Int) (fun x => x == (u : Int))
/-- The edges lie on the vertices below n, and are joined. -/
def EOk (n : Nat) (es : List E3) : Prop := ∀ x ∈ es, 0 ≤ x.1 ∧ x.1 < n ∧ 0 ≤ x.2.1 ∧ x.2.1 < n ∧ 1 ≤ x.2.2 ∧ x.2.2 ≤ 50
theorem EOk.range {n : Nat} {es : List E3} (h : EOk n es) : ∀ x ∈ es, 0 ≤ x.1 ∧ x.1 < n ∧ 0 ≤ x.2.1 ∧ x.2.1 < n ∧ 0 ≤ x.2.2 ∧ x.2.2 ≤ 50 := fun x hx => by have := h x hx; omega
theorem joins_sum {n : Nat} {es : List E3} (h : EOk n es) (v : Nat) (p : Int → Bool) : joinsF es (v : Int) p = sm n (fun u => if p (u : Int) then W es v u else 0) := by
  have h1 : ∀ x ∈ linksF es (v : Int), 0 ≤ x.1 ∧ x.1 < n := fun x hx => by
    have := linksF_range h.range (v := (v : Int)) (u := x.1) (m := x.2) hx; omega
  unfold joinsF
  rw [addF_eq, addG_sum p _ h1]
  refine sm_congr fun u _ => ?_
  unfold W joinsF
  rw [addF_eq]
/-- What one edge gives to two vertices. -/
def w1 (x : E3) (v u : Nat) : Int := if x.1 ≠ x.2.1 ∧ ((x.1 = v ∧ x.2.1 = u) ∨ (x.1 = u ∧ x.2.1 = v)) then x.2.2 else 0
theorem W_cons (x : E3) (es : List E3) (v u : Nat) : W (x :: es) v u = w1 x v u + W es v u := by
  unfold W joinsF linksF w1
  rw [addF_eq, addF_eq, List.filterMap_cons]
  unfold link
  by_cases c : x.1 ≠ x.2.1 ∧ (x.1 = v ∨ x.2.1 = v)
  · rw [if_pos c]
    simp only [addG]
    by_cases e : x.1 + x.2.1 - v = u
    · rw [if_pos (by simpa using e), if_pos ⟨c.1, by omega⟩]
    · rw [if_neg (by simpa using e), if_neg (fun h => by omega)]
  · simp only [if_neg c]
    rw [if_neg (fun h => c ⟨h.1, by omega⟩)]
    omega
theorem W_nil (v u : Nat) : W [] v u = 0 := rfl
theorem w1_symm (x : E3) (v u : Nat) : w1 x v u = w1 x u v := by
  unfold w1
  by_cases c : x.1 ≠ x.2.1 ∧ ((x.1 = v ∧ x.2.1 = u) ∨ (x.1 = u ∧ x.2.1 = v))
  · rw [if_pos c, if_pos ⟨c.1, by omega⟩]
  · rw [if_neg c, if_neg (fun h => c ⟨h.1, by omega⟩)]
theorem W_symm : ∀ (es : List E3) (v u : Nat), W es v u = W es u v
  | [], v, u => rfl
  | x :: es, v, u => by rw [W_cons, W_cons, w1_symm, W_symm es v u]
theorem W_self : ∀ (es : List E3) (v : Nat), W es v v = 0
  | [], v => rfl
  | x :: es, v => by
    rw [W_cons, W_self es v]
    unfold w1
    rw [if_neg (fun h => h.1 (by omega))]; rfl
theorem W_nonneg {n : Nat} {es : List E3} (h : EOk n es) : ∀ v u, 0 ≤ W es v u := by
  induction es with
  | nil => intro v u; rw [W_nil]; omega
  | cons x es ih =>
    intro v u
    have h1 := ih (fun y hy => h y (by simp [hy])) v u
    have h2 := h x (by simp)
    rw [W_cons]
    unfold w1
    split <;> omega
theorem W_adj {n : Nat} {es : List E3} (h : EOk n es) {v u : Nat} : 0 < W es v u ↔ Adj es v u := by
  induction es with
  | nil => rw [W_nil]; constructor; (intro h; omega); rintro ⟨m, hm⟩; exact absurd hm (by simp [linksF])
  | cons x es ih =>
    have h1 := ih (fun y hy => h y (by simp [hy]))
    have h2 := h x (by simp)
    have h3 := W_nonneg (fun y hy => h y (by simp [hy]) : EOk n es) v u
    rw [W_cons]
    have h4 : Adj (x :: es) v u ↔ (x.1 ≠ x.2.1 ∧ ((x.1 = v ∧ x.2.1 = u) ∨ (x.1 = u ∧ x.2.1 = v))) ∨ Adj es v u := by
      constructor
      · rintro ⟨m, hm⟩
        obtain ⟨y, hy, q1, q2, q3, q4⟩ := mem_linksF.1 hm
        rcases List.mem_cons.1 hy with rfl | hy
        · exact .inl ⟨q1, by omega⟩
        · exact .inr ⟨m, mem_linksF.2 ⟨y, hy, q1, q2, q3, q4⟩⟩
      · rintro (q | ⟨m, hm⟩)
        · exact ⟨x.2.2, mem_linksF.2 ⟨x, by simp, q.1, by omega, by omega, rfl⟩⟩
        · obtain ⟨y, hy, q1, q2, q3, q4⟩ := mem_linksF.1 hm
          exact ⟨m, mem_linksF.2 ⟨y, by simp [hy], q1, q2, q3, q4⟩⟩
    rw [h4, ← h1]
    unfold w1
    constructor
    · intro hh
      split at hh
      · rename_i c; exact .inl c
      · exact .inr (by omega)
    · rintro (c | c)
      · rw [if_pos c]; omega
      · split <;> omega

/-- The Laplacian, applied to a script. -/
def Lp (n : Nat) (es : List E3) (s : Nat → Int) (v : Nat) : Int := sm n (fun u => W es v u * (s v - s u))
def deg (n : Nat) (es : List E3) (v : Nat) : Int := sm n (fun u => W es v u)
theorem gi_pay {t : Int} {v : Nat} {x : Int × Int} {d : List Int} (hv : v < d.length) (hu : x.1.toNat < d.length) (hne : x.1.toNat ≠ v) (i : Nat) :
    gi (pay t v d x) i = gi d i - (if i = v then x.2 * t else 0) + (if i = x.1.toNat then x.2 * t else 0) := by
  unfold pay
  rw [gi_set (by simpa using hu), gi_set hv]
  by_cases e : i = x.1.toNat
  · subst e; rw [if_pos rfl, if_pos rfl, if_neg hne]; rw [if_neg hne]; omega
  · rw [if_neg e, if_neg e, gi_set hv]; split <;> (try subst_vars) <;> omega
theorem gi_payAll {t : Int} {v n : Nat} : ∀ (l : List (Int × Int)) (d : List Int), d.length = n → v < n → (∀ x ∈ l, 0 ≤ x.1 ∧ x.1 < n ∧ x.1.toNat ≠ v) → ∀ i,
    gi (payAll t v l d) i = gi d i - (if i = v then t * addG (fun _ => true) l else 0) + t * addG (fun y => y == (i : Int)) l
  | [], d, _, _, _, i => by simp [payAll, addG]
  | x :: l, d, hd, hv, h, i => by
    have hx := h x (by simp)
    have h1 := gi_payAll (t := t) (v := v) l (pay t v d x) (by simp [pay, hd]) hv (fun y hy => h y (by simp [hy])) i
    have h2 : payAll t v (x :: l) d = payAll t v l (pay t v d x) := rfl
    rw [h2, h1, gi_pay (by omega) (by omega) hx.2.2]
    simp only [addG, if_true]
    have hb : (x.1 == (i : Int)) = decide (i = x.1.toNat) := by
      rw [Bool.eq_iff_iff]; simp; omega
    simp only [hb, decide_eq_true_eq]
    have e1 : t * (x.2 + addG (fun _ => true) l) = x.2 * t + t * addG (fun _ => true) l := by rw [Int.mul_add, Int.mul_comm t x.2]
    have e2 : ∀ a : Int, t * (x.2 + a) = x.2 * t + t * a := fun a => by rw [Int.mul_add, Int.mul_comm t x.2]
    by_cases c1 : i = v <;> by_cases c2 : i = x.1.toNat <;> simp only [c1, c2, if_true, if_false, e2, Int.zero_add] <;> (try split) <;> (try split) <;> (try simp only [e2, Int.zero_add]) <;> omega

/-- 1 in the set, 0 outside. -/
def ind (inn : List Bool) (v : Nat) : Int := if gb inn v then 1 else 0
theorem links_ok {n : Nat} {es : List E3} (h : EOk n es) (v : Nat) : ∀ x ∈ linksF es (v : Int), 0 ≤ x.1 ∧ x.1 < n ∧ x.1.toNat ≠ v := fun x hx => by
  have h1 := linksF_range h.range (v := (v : Int)) (u := x.1) (m := x.2) hx
  obtain ⟨y, hy, q1, q2, q3, q4⟩ := (mem_linksF (u := x.1) (m := x.2)).1 hx
  omega
theorem addG_true {n : Nat} {es : List E3} (h : EOk n es) (v : Nat) : addG (fun _ => true) (linksF es (v : Int)) = deg n es v := by
  have := joins_sum h v (fun _ => true)
  unfold joinsF at this
  rw [addF_eq] at this
  rw [this]
  exact sm_congr fun u _ => by simp
theorem gi_fireD {n : Nat} {es : List E3} (h : EOk n es) (inn : List Bool) (t : Int) (d : List Int) (hd : d.length = n) : ∀ k, k ≤ n → ∀ i, i < n →
    gi (fireD es inn t d k) i = gi d i - t * (if i < k then ind inn i * deg n es i else 0) + t * sm k (fun j => ind inn j * W es j i)
  | 0, _, i, _ => by simp [fireD, sm]
  | k + 1, hk, i, hi => by
    have ih := gi_fireD h inn t d hd k (by omega) i hi
    rw [fireD, sm]
    by_cases hb : gb inn k = true
    · rw [if_pos hb, gi_payAll (n := n) _ _ (by rw [fireD_length]; exact hd) (by omega) (links_ok h k), ih, addG_true h]
      have hW : addG (fun y => y == (i : Int)) (linksF es (k : Int)) = W es k i := by unfold W joinsF; rw [addF_eq]
      rw [hW]
      have hind : ind inn k = 1 := by simp [ind, hb]
      rw [hind]
      by_cases c1 : i = k
      · subst c1
        rw [if_neg (by omega), if_pos rfl, if_pos (by omega), hind]
        simp only [Int.mul_add, Int.one_mul, Int.mul_zero]; omega
      · rw [if_neg c1]
        by_cases c2 : i < k
        · rw [if_pos c2, if_pos (by omega)]; simp only [Int.mul_add, Int.one_mul]; omega
        · rw [if_neg c2, if_neg (by omega)]; simp only [Int.mul_add, Int.one_mul]; omega
    · rw [if_neg hb, ih]
      have hind : ind inn k = 0 := by simp [ind, hb]
      rw [hind]
      by_cases c1 : i = k
      · subst c1
        rw [if_neg (by omega), if_pos (by omega), hind]
        simp
      · by_cases c2 : i < k
        · rw [if_pos c2, if_pos (by omega)]; simp
        · rw [if_neg c2, if_neg (by omega)]; simp
theorem Lp_ind {n : Nat} {es : List E3} (s : Nat → Int) (v : Nat) : Lp n es s v = s v * deg n es v - sm n (fun u => s u * W es u v) := by
  unfold Lp deg
  rw [← sm_mul, ← sm_sub]
  refine sm_congr fun u _ => ?_
  rw [Int.mul_sub, Int.mul_comm (W es v u) (s v), W_symm es v u, Int.mul_comm (W es u v) (s u)]
/-- A set fires t times: the chips turn by t times the Laplacian of the set. -/
theorem fire_lp {n : Nat} {es : List E3} (h : EOk n es) (inn : List Bool) (t : Int) (d : List Int) (hd : d.length = n) {i : Nat} (hi : i < n) : gi (fireD es inn t d n) i = gi d i - t * Lp n es (ind inn) i := by
  rw [gi_fireD h inn t d hd n (Nat.le_refl _) i hi, if_pos hi, Lp_ind, Int.mul_sub]; omega
theorem Lp_add {n : Nat} {es : List E3} (a b : Nat → Int) (v : Nat) : Lp n es (fun i => a i + b i) v = Lp n es a v + Lp n es b v := by
  unfold Lp
  rw [← sm_add]
  exact sm_congr fun u _ => by rw [← Int.mul_add]; congr 1; show a v + b v - (a u + b u) = _; omega
theorem Lp_mul {n : Nat} {es : List E3} (c : Int) (a : Nat → Int) (v : Nat) : Lp n es (fun i => c * a i) v = c * Lp n es a v := by
  unfold Lp
  rw [← sm_mul]
  exact sm_congr fun u _ => by rw [← Int.mul_sub, Int.mul_left_comm]
theorem Lp_const {n : Nat} {es : List E3} (c : Int) (v : Nat) : Lp n es (fun _ => c) v = 0 := by
  unfold Lp
  rw [sm_congr (g := fun _ => 0) (fun u _ => by simp), sm_zero]
theorem Lp_congr {n : Nat} {es : List E3} {a b : Nat → Int} (h : ∀ i, i < n → a i = b i) {v : Nat} (hv : v < n) : Lp n es a v = Lp n es b v := by
  unfold Lp
  exact sm_congr fun u hu => by rw [h v hv, h u hu]
/-- Over a set, the Laplacian adds up to what goes over its border. -/
theorem Lp_cut {n : Nat} {es : List E3} (S : Nat → Bool) (s : Nat → Int) : sm n (fun v => if S v then Lp n es s v else 0) = sm n (fun v => sm n (fun u => if S v && !S u then W es v u * (s v - s u) else 0)) := by
  have h1 : sm n (fun v => if S v then Lp n es s v else 0) = sm n (fun v => sm n (fun u => (if S v && !S u then W es v u * (s v - s u) else 0))) + sm n (fun v => sm n (fun u => (if S v && S u then W es v u * (s v - s u) else 0))) := by
    rw [← sm_add]
    refine sm_congr fun v _ => ?_
    rw [← sm_add]
    cases hv : S v with
    | false => simp [sm_zero]
    | true =>
      simp only [if_true, Bool.true_and]
      unfold Lp
      refine sm_congr fun u _ => ?_
      cases S u <;> simp
  have h2 : sm n (fun v => sm n (fun u => (if S v && S u then W es v u * (s v - s u) else 0))) = 0 := by
    have h3 : sm n (fun v => sm n (fun u => (if S v && S u then W es v u * (s v - s u) else 0))) = - sm n (fun v => sm n (fun u => (if S v && S u then W es v u * (s v - s u) else 0))) := by
      conv => lhs; rw [sm_swap]
      have : ∀ m (f : Nat → Int), - sm m f = sm m (fun i => - f i) := fun m f => by
        have := sm_mul (-1) f m
        simp only [Int.neg_mul, Int.one_mul] at this
        exact this.symm
      rw [this]
      refine sm_congr fun v _ => ?_
      rw [this]
      refine sm_congr fun u _ => ?_
      cases S u <;> cases S v <;> simp
      rw [W_symm es u v, ← Int.mul_neg]; congr 1; omega
    omega
  rw [h1, h2]; omega
/-- The Laplacian adds up to nothing. -/
theorem Lp_total {n : Nat} {es : List E3} (s : Nat → Int) : sm n (fun v => Lp n es s v) = 0 := by
  have := Lp_cut (n := n) (es := es) (fun _ => true) s
  simp only [if_true, Bool.not_true, Bool.and_false, Bool.false_eq_true, if_false] at this
  rw [this, sm_congr (g := fun _ => 0) (fun v _ => sm_zero n), sm_zero]
end Go.Proofs.Ytnhmeckhlajeaaa
