/- Texts laid together: RkM, Sys, Cmp, Pd, PRa, PRb, RkF, RkG, RkW, Lw36, PSr, SpD, RkR, L38, Big. -/
import Derived.Test.YtncilechkclmbaaGreatK5
/- Ranks of divisors, plainly: what takes any effective divisor of a degree away. No program in sight. -/
namespace Go.Proofs.YtncilechkclmbaaGreat
open Go Go.Proofs.Tryz
set_option linter.unusedVariables false
set_option linter.unusedSectionVars false
set_option linter.unusedSimpArgs false
theorem dg_n {d : List Int} {n : Nat} (h : d.length = n) : dg d = sm n (gi d) := by unfold dg; rw [h]
theorem yjZ {n : Nat} {es : List E3} {a b : List Int} (h : ∀ v, v < n → gi a v ≤ gi b v) (ha : Win n es a) : Win n es b := by
  obtain ⟨s, hs⟩ := ha
  exact ⟨s, fun v hv => by have := hs v hv; have := h v hv; omega⟩
def sb (n : Nat) (d e : List Int) : List Int := tab (fun i => gi d i - gi e i) n
theorem yjA {n : Nat} {d e : List Int} {v : Nat} (hv : v < n) : gi (sb n d e) v = gi d v - gi e v := yf5 _ hv
structure Eff (n : Nat) (e : List Int) (r : Int) : Prop where
  len : e.length = n
  pos : ∀ v, v < n → 0 ≤ gi e v
  deg : dg e = r
theorem Eff.nonneg {n : Nat} {e : List Int} {r : Int} (h : Eff n e r) : 0 ≤ r := by
  rw [← h.deg, dg_n h.len]; exact ya6 h.pos
theorem Eff.le {n : Nat} {e : List Int} {r : Int} (h : Eff n e r) {v : Nat} (hv : v < n) : gi e v ≤ r := by
  rw [← h.deg, dg_n h.len]; exact ygQ h.pos v hv
theorem Eff.add {n : Nat} {e : List Int} {r : Int} (h : Eff n e r) {v : Nat} (hv : v < n) {k : Int} (hk : 0 ≤ gi e v + k) : Eff n (ycD e v k) (r + k) :=
  ⟨by rw [ybP, h.len], fun i hi => by
    rw [yct (by rw [h.len]; exact hv)]
    have := h.pos i hi
    split <;> omega, by rw [dg_addAt (by rw [h.len]; exact hv), h.deg]⟩
theorem yka {n v : Nat} (hv : v < n) : gi (List.replicate n 0) v = 0 := by rw [yaY (by simpa using hv)]; simp
def AL (n : Nat) (es : List E3) (d : List Int) (r : Int) : Prop := ∀ e, Eff n e r → Win n es (sb n d e)
structure RkOk (n : Nat) (es : List E3) (d : List Int) (k : Int) : Prop where
  lo : -1 ≤ k
  al : AL n es d k
  no : ¬ AL n es d (k + 1)
section
variable {n : Nat} {es : List E3} {d : List Int}
theorem al_down (hn : 1 ≤ n) {r : Int} (h : AL n es d (r + 1)) : AL n es d r := fun e he => by
  have h1 := h _ (he.add (v := 0) (k := 1) (by omega) (by have := he.pos 0 (by omega); omega))
  refine yjZ (fun v hv => ?_) h1
  rw [yjA hv, yjA hv, yct (by rw [he.len]; omega)]
  split
  · rename_i e; subst e; omega
  · omega
theorem al_le (hn : 1 ≤ n) : ∀ (k : Nat) {r : Int}, AL n es d (r + k) → AL n es d r
  | 0, r, h => by simpa using h
  | k + 1, r, h => al_le hn k (al_down hn (by rw [Int.add_assoc]; exact_mod_cast h))
theorem yj4 (hn : 1 ≤ n) {r r' : Int} (h : r ≤ r') (ha : AL n es d r') : AL n es d r := by
  refine al_le hn (r' - r).toNat ?_
  rwa [show r + ((r' - r).toNat : Int) = r' from by omega]
theorem RkOk.eq (hn : 1 ≤ n) {k k' : Int} (h : RkOk n es d k) (h' : RkOk n es d k') : k = k' := by
  rcases Int.lt_trichotomy k k' with q | q | q
  · exact absurd (yj4 hn (by omega) h'.al) h.no
  · exact q
  · exact absurd (yj4 hn (by omega) h.al) h'.no
end
end Go.Proofs.YtncilechkclmbaaGreat

/- Complete linear systems, plainly: what single steps lead to, and lists in lexicographic order. No program in sight. -/
namespace Go.Proofs.YtncilechkclmbaaGreat
open Go Go.Proofs.Tryz
set_option linter.unusedVariables false
set_option linter.unusedSectionVars false
set_option linter.unusedSimpArgs false
def firM (n : Nat) (es : List E3) (d : List Int) (m : Nat) : List Int := tab (fun v => gi d v - Lp n es (fun u => if m.testBit u = true then 1 else 0) v) n
theorem ya7 (n : Nat) (es : List E3) (d : List Int) (m : Nat) : (firM n es d m).length = n := ydW _ n
theorem yfY {n : Nat} {es : List E3} {d : List Int} {m v : Nat} (hv : v < n) : gi (firM n es d m) v = gi d v - Lp n es (fun u => if m.testBit u = true then 1 else 0) v := yf5 _ hv
structure Pos (n : Nat) (d : List Int) : Prop where
  len : d.length = n
  pos : ∀ v, v < n → 0 ≤ gi d v
theorem ygM {a b : List Int} {n : Nat} (ha : a.length = n) (hb : b.length = n) (h : ∀ v, v < n → gi a v = gi b v) : a = b := by
  rw [eq_tab ha _ h, ← eq_tab hb _ fun i _ => rfl]
theorem fire_top {n : Nat} {es : List E3} (hE : EOk n es) {D : List Int} {s : Nat → Int} {M : Int} (hp : ∀ v, v < n → 0 ≤ gi D v) (hp' : ∀ v, v < n → 0 ≤ gi D v - Lp n es s v) (hM : ∀ v, v < n → s v ≤ M) {v : Nat} (hv : v < n) :
    0 ≤ gi D v - Lp n es (fun u => if s u = M then 1 else 0) v := by
  by_cases h : s v = M
  · have h1 : Lp n es (fun u => if s u = M then 1 else 0) v ≤ Lp n es s v := by
      refine yer fun u hu => ?_
      have h2 := ybq hE v u
      refine Int.mul_le_mul_of_nonneg_left ?_ h2
      have h3 := hM u hu
      show (if s v = M then (1 : Int) else 0) - (if s u = M then 1 else 0) ≤ s v - s u
      rw [if_pos h]
      split <;> omega
    have := hp' v hv
    omega
  · have h1 : Lp n es (fun u => if s u = M then 1 else 0) v ≤ 0 := by
      have : Lp n es (fun u => if s u = M then 1 else 0) v ≤ sm n (fun _ => 0) := by
        refine yer fun u hu => ?_
        have h2 := ybq hE v u
        show W es v u * ((if s v = M then (1 : Int) else 0) - (if s u = M then 1 else 0)) ≤ 0
        rw [if_neg h]
        have h3 : (0 : Int) - (if s u = M then 1 else 0) ≤ 0 := by split <;> omega
        have h4 := Int.mul_le_mul_of_nonneg_left h3 h2
        rwa [Int.mul_zero] at h4
      rwa [ycf] at this
    have := hp v hv
    omega
theorem reach {n : Nat} {es : List E3} (hE : EOk n es) {P : List Int → Prop} (hP : ∀ x m, P x → Pos n x → 1 ≤ m → m < 2 ^ n - 1 → Pos n (firM n es x m) → P (firM n es x m)) : ∀ (k : Nat) {x y : List Int} {s : Nat → Int} {M : Int}, P x → Pos n x → Pos n y →
    (∀ v, v < n → gi y v = gi x v - Lp n es s v) → (∀ v, v < n → M - k ≤ s v ∧ s v ≤ M) → P y := by
  have triv : ∀ {x y : List Int} {s : Nat → Int} {M : Int}, P x → Pos n x → Pos n y → (∀ v, v < n → gi y v = gi x v - Lp n es s v) → (∀ v, v < n → s v = M) → P y := by
    intro x y s M h1 h2 h3 h4 h5
    have : y = x := ygM h3.len h2.len fun v hv => by
      rw [h4 v hv, yd5 (b := fun _ => M) (fun i hi => h5 i hi) hv, yeW]; omega
    rw [this]; exact h1
  intro k
  induction k with
  | zero =>
    intro x y s M h1 h2 h3 h4 h5
    exact triv (M := M) h1 h2 h3 h4 fun v hv => by have := h5 v hv; omega
  | succ k ih =>
    intro x y s M h1 h2 h3 h4 h5
    by_cases hA : ∃ v, v < n ∧ s v = M
    · by_cases hB : ∃ v, v < n ∧ s v ≠ M
      · obtain ⟨a, ha, hsa⟩ := hA
        obtain ⟨b, hb, hsb⟩ := hB
        have hbit : ∀ v, v < n → (yes (fun u => decide (s u = M)) n).testBit v = decide (s v = M) := fun v hv => by rw [yfy]; simp [hv]
        have hm1 : 1 ≤ yes (fun u => decide (s u = M)) n := by
          rcases Nat.eq_zero_or_pos (yes (fun u => decide (s u = M)) n) with q | q
          · have := hbit a ha
            rw [q, Nat.zero_testBit] at this
            simp [hsa] at this
          · exact q
        have hm2 : yes (fun u => decide (s u = M)) n < 2 ^ n - 1 := by
          have h := mask_lt (fun u => decide (s u = M)) n
          rcases Nat.lt_or_ge (yes (fun u => decide (s u = M)) n) (2 ^ n - 1) with q | q
          · exact q
          · have e : yes (fun u => decide (s u = M)) n = 2 ^ n - 1 := by omega
            have := hbit b hb
            rw [e, Nat.testBit_two_pow_sub_one] at this
            simp [hb, hsb] at this
        have hLp : ∀ v, v < n → Lp n es (fun u => if (yes (fun u => decide (s u = M)) n).testBit u = true then 1 else 0) v = Lp n es (fun u => if s u = M then 1 else 0) v := fun v hv => yd5 (fun i hi => by rw [hbit i hi]; simp) hv
        have hx1 : Pos n (firM n es x (yes (fun u => decide (s u = M)) n)) := ⟨ya7 _ _ _ _, fun v hv => by
          rw [yfY hv, hLp v hv]
          exact fire_top hE h2.pos (fun v hv => by rw [← h4 v hv]; exact h3.pos v hv) (fun v hv => (h5 v hv).2) hv⟩
        refine ih (s := fun u => s u + (-1) * (if s u = M then 1 else 0)) (M := M - 1) (hP x _ h1 h2 hm1 hm2 hx1) hx1 h3 (fun v hv => ?_) fun v hv => ?_
        · rw [yfY hv, hLp v hv, yfM s (fun u => (-1) * (if s u = M then 1 else 0)), ygS (-1) (fun u => if s u = M then 1 else 0), h4 v hv]; omega
        · have := h5 v hv
          show M - 1 - (k : Int) ≤ s v + (-1) * (if s v = M then 1 else 0) ∧ s v + (-1) * (if s v = M then 1 else 0) ≤ M - 1
          by_cases hq : s v = M
          · rw [if_pos hq]; omega
          · rw [if_neg hq]; omega
      · exact triv h1 h2 h3 h4 fun v hv => by
          rcases Classical.em (s v = M) with q | q
          · exact q
          · exact absurd ⟨v, hv, q⟩ hB
    · exact ih (M := M - 1) h1 h2 h3 h4 fun v hv => by
        have := h5 v hv
        have : s v ≠ M := fun q => hA ⟨v, hv, q⟩
        omega
def Eqv (n : Nat) (es : List E3) (x y : List Int) : Prop := ∃ s : Nat → Int, ∀ v, v < n → gi y v = gi x v - Lp n es s v
theorem Eqv.refl (n : Nat) (es : List E3) (x : List Int) : Eqv n es x x := ⟨fun _ => 0, fun v hv => by rw [yeW]; omega⟩
theorem Eqv.symm {n : Nat} {es : List E3} {x y : List Int} (h : Eqv n es x y) : Eqv n es y x := by
  obtain ⟨s, hs⟩ := h
  exact ⟨fun i => (-1) * s i, fun v hv => by rw [ygS, hs v hv]; omega⟩
theorem Eqv.trans {n : Nat} {es : List E3} {x y z : List Int} (h : Eqv n es x y) (k : Eqv n es y z) : Eqv n es x z := by
  obtain ⟨s, hs⟩ := h
  obtain ⟨t, ht⟩ := k
  exact ⟨fun i => s i + t i, fun v hv => by rw [yfM, ht v hv, hs v hv]; omega⟩
theorem Eqv.firM (n : Nat) (es : List E3) (x : List Int) (m : Nat) : Eqv n es x (firM n es x m) := ⟨_, fun v hv => yfY hv⟩
theorem Eqv.dg {n : Nat} {es : List E3} {x y : List Int} (hx : x.length = n) (hy : y.length = n) (h : Eqv n es x y) : dg y = dg x := by
  obtain ⟨s, hs⟩ := h
  rw [dg_n hx, dg_n hy, yau hs, yjJ, yj6]; omega
theorem reach_all {n : Nat} {es : List E3} (hE : EOk n es) {P : List Int → Prop} (hP : ∀ x m, P x → Pos n x → 1 ≤ m → m < 2 ^ n - 1 → Pos n (firM n es x m) → P (firM n es x m)) {x y : List Int} (h1 : P x) (h2 : Pos n x) (h3 : Pos n y) (h : Eqv n es x y) : P y := by
  obtain ⟨s, hs⟩ := h
  have bd : ∀ k : Nat, ∃ B : Nat, ∀ v, v < k → -(B : Int) ≤ s v ∧ s v ≤ B := by
    intro k
    induction k with
    | zero => exact ⟨0, fun v hv => by omega⟩
    | succ k ih =>
      obtain ⟨B, hB⟩ := ih
      refine ⟨B + (s k).natAbs, fun v hv => ?_⟩
      by_cases e : v = k
      · subst e; omega
      · have := hB v (by omega); omega
  obtain ⟨B, hB⟩ := bd n
  exact reach hE hP (2 * B) (M := B) h1 h2 h3 hs fun v hv => by have := hB v hv; omega
def lexC : List Int → List Int → Int
  | [], [] => 0
  | [], _ :: _ => -1
  | _ :: _, [] => 1
  | a :: s, b :: t => if a < b then -1 else if b < a then 1 else lexC s t
theorem yd0 : ∀ a, lexC a a = 0
  | [] => rfl
  | a :: s => by rw [lexC, if_neg (by omega), if_neg (by omega)]; exact yd0 s
theorem yeV : ∀ a b, lexC b a = -lexC a b
  | [], [] => rfl
  | [], _ :: _ => rfl
  | _ :: _, [] => rfl
  | a :: s, b :: t => by
    unfold lexC
    by_cases h1 : a < b
    · rw [if_pos h1, if_neg (show ¬ b < a by omega), if_pos h1]; rfl
    · by_cases h2 : b < a
      · rw [if_neg h1, if_pos h2, if_pos h2, if_neg h1]
      · rw [if_neg h1, if_neg h2, if_neg h2, if_neg h1]; exact yeV s t
theorem lexC_eq : ∀ a b, lexC a b = 0 → a = b
  | [], [], _ => rfl
  | [], _ :: _, h => by cases h
  | _ :: _, [], h => by cases h
  | a :: s, b :: t, h => by
    unfold lexC at h
    by_cases h1 : a < b
    · rw [if_pos h1] at h; cases h
    · by_cases h2 : b < a
      · rw [if_neg h1, if_pos h2] at h; cases h
      · rw [if_neg h1, if_neg h2] at h
        rw [lexC_eq s t h, show a = b by omega]
theorem yfO : ∀ a b c, lexC a b < 0 → lexC b c < 0 → lexC a c < 0
  | [], [], _, h, _ => by simp [lexC] at h
  | _ :: _, [], _, h, _ => by simp [lexC] at h
  | [], _ :: _, [], _, h => by simp [lexC] at h
  | [], _ :: _, _ :: _, _, _ => by simp [lexC]
  | _ :: _, _ :: _, [], _, h => by simp [lexC] at h
  | a :: s, b :: t, c :: u, h, k => by
    unfold lexC at h k ⊢
    by_cases h1 : a < b
    · by_cases h2 : b < c
      · rw [if_pos (by omega)]; omega
      · rw [if_neg h2] at k
        by_cases h3 : c < b
        · rw [if_pos h3] at k; omega
        · rw [if_pos (by omega)]; omega
    · rw [if_neg h1] at h
      by_cases h2 : b < a
      · rw [if_pos h2] at h; omega
      · rw [if_neg h2] at h
        by_cases h3 : b < c
        · rw [if_pos (by omega)]; omega
        · rw [if_neg h3] at k
          by_cases h4 : c < b
          · rw [if_pos h4] at k; omega
          · rw [if_neg h4] at k
            rw [if_neg (by omega), if_neg (by omega)]
            exact yfO s t u h k
theorem lexC_le_trans {a b c : List Int} (h : lexC a b ≤ 0) (k : lexC b c ≤ 0) : lexC a c ≤ 0 := by
  rcases Int.lt_or_eq_of_le h with h | h
  · rcases Int.lt_or_eq_of_le k with k | k
    · exact Int.le_of_lt (yfO _ _ _ h k)
    · rw [← lexC_eq _ _ k]; omega
  · rw [lexC_eq _ _ h]; exact k
def Asc (l : List (List Int)) : Prop := l.Pairwise fun a b => lexC a b < 0
theorem Asc.filter {l : List (List Int)} (h : Asc l) (p : List Int → Bool) : Asc (l.filter p) := List.Pairwise.filter p h
theorem Asc.eq : ∀ {a b : List (List Int)}, Asc a → Asc b → (∀ x, x ∈ a ↔ x ∈ b) → a = b
  | [], [], _, _, _ => rfl
  | [], y :: b, _, _, h => by have := (h y).2 (by simp); simp at this
  | x :: a, [], _, _, h => by have := (h x).1 (by simp); simp at this
  | x :: a, y :: b, h1, h2, h => by
    have k1 := List.pairwise_cons.1 h1
    have k2 := List.pairwise_cons.1 h2
    have e : x = y := by
      rcases List.mem_cons.1 ((h x).1 (by simp)) with q | q
      · exact q
      · rcases List.mem_cons.1 ((h y).2 (by simp)) with r | r
        · exact r.symm
        · have q1 := k2.1 x q
          have q2 := k1.1 y r
          rw [yeV] at q1
          omega
    subst e
    rw [Asc.eq k1.2 k2.2 fun z => ?_]
    constructor
    · intro hz
      rcases List.mem_cons.1 ((h z).1 (by simp [hz])) with q | q
      · have := k1.1 z hz; rw [q, yd0] at this; omega
      · exact q
    · intro hz
      rcases List.mem_cons.1 ((h z).2 (by simp [hz])) with q | q
      · have := k2.1 z hz; rw [q, yd0] at this; omega
      · exact q
theorem listF_asc : ∀ (n k : Nat), Asc (ydb n k)
  | 0, k => List.Pairwise.nil
  | 1, k => List.pairwise_singleton _ _
  | n + 2, k => by
    show Asc ((List.range (k + 1)).flatMap fun i => (ydb (n + 1) (k - i)).map ((i : Int) :: ·))
    unfold Asc
    rw [List.pairwise_flatMap]
    refine ⟨fun i hi => ?_, ?_⟩
    · rw [List.pairwise_map]
      refine (listF_asc (n + 1) (k - i)).imp fun {a b} h => ?_
      show lexC ((i : Int) :: a) ((i : Int) :: b) < 0
      rw [lexC, if_neg (by omega), if_neg (by omega)]; exact h
    · refine List.pairwise_lt_range.imp fun {i j} hij x hx y hy => ?_
      obtain ⟨a, _, rfl⟩ := List.mem_map.1 hx
      obtain ⟨b, _, rfl⟩ := List.mem_map.1 hy
      show lexC ((i : Int) :: a) ((j : Int) :: b) < 0
      rw [lexC, if_pos (by omega)]; decide
open Classical in
noncomputable def sysF (n : Nat) (es : List E3) (d : List Int) : List (List Int) := if dg d < 0 then [] else (ydb n (dg d).toNat).filter fun x => decide (Eqv n es d x)
theorem ygq (n : Nat) (es : List E3) (d : List Int) : Asc (sysF n es d) := by
  unfold sysF
  split
  · exact List.Pairwise.nil
  · exact (listF_asc _ _).filter _
theorem pos_iff {n : Nat} {x : List Int} (h : x.length = n) : (∀ a ∈ x, 0 ≤ a) ↔ ∀ v, v < n → 0 ≤ gi x v := by
  constructor
  · intro q v hv
    rw [yaY (by omega)]
    exact q _ (List.getElem_mem _)
  · intro q a ha
    obtain ⟨i, hi, rfl⟩ := List.getElem_of_mem ha
    have := q i (by omega)
    rwa [yaY hi] at this
open Classical in
theorem yc0 {n : Nat} {es : List E3} {d x : List Int} (hn : 1 ≤ n) (hd : d.length = n) : x ∈ sysF n es d ↔ Pos n x ∧ Eqv n es d x := by
  obtain ⟨N, rfl⟩ : ∃ N, n = N + 1 := ⟨n - 1, by omega⟩
  have key : Pos (N + 1) x → Eqv (N + 1) es d x → 0 ≤ dg d := fun h1 h2 => by
    rw [← h2.dg hd h1.len, dg_n h1.len]; exact ya6 h1.pos
  unfold sysF
  split
  · rename_i h
    constructor
    · intro q; simp at q
    · rintro ⟨h1, h2⟩; have := key h1 h2; omega
  · rename_i h
    rw [List.mem_filter, ydq, decide_eq_true_iff]
    constructor
    · rintro ⟨⟨h1, h2, h3⟩, h4⟩
      exact ⟨⟨h1, (pos_iff h1).1 h2⟩, h4⟩
    · rintro ⟨h1, h2⟩
      refine ⟨⟨h1.len, (pos_iff h1.len).2 h1.pos, ?_⟩, h2⟩
      rw [sum_dg, h2.dg hd h1.len]; omega
theorem sysF_eq {n : Nat} {es : List E3} {d x : List Int} {l : List (List Int)} (hE : EOk n es) (hn : 1 ≤ n) (hd : d.length = n) (hx : x ∈ l) (hp : Pos n x) (he : Eqv n es d x) (hall : ∀ y ∈ l, Pos n y ∧ Eqv n es d y)
    (hcl : ∀ y m, y ∈ l → 1 ≤ m → m < 2 ^ n - 1 → Pos n (firM n es y m) → firM n es y m ∈ l) {l' : List (List Int)} (ha : Asc l') (hm : ∀ y, y ∈ l' ↔ y ∈ l) : l' = sysF n es d := by
  refine Asc.eq ha (ygq _ _ _) fun y => ?_
  rw [hm, yc0 hn hd]
  refine ⟨hall y, fun ⟨h1, h2⟩ => ?_⟩
  exact reach_all hE (P := fun z => z ∈ l) (fun z m hz _ h1 h2 h3 => hcl z m hz h1 h2 h3) hx hp h1 (he.symm.trans h2)
end Go.Proofs.YtncilechkclmbaaGreat

/- The walk of slices.Compare at slices of ints and of the closure that sorts by it: the world is only drawn from. -/
namespace Go.Proofs.YtncilechkclmbaaGreat
open Go Go.RowKit Go.Shelf Go.Proofs.Tryz
set_option maxRecDepth 100000
set_option maxHeartbeats 400000
set_option linter.unusedVariables false
theorem lexC_at {a b : List Int} : ∀ {k : Nat}, k ≤ b.length → (∀ j, j < k → gi a j = gi b j) → k ≤ a.length → lexC a b = lexC (a.drop k) (b.drop k) := by
  intro k
  induction k generalizing a b with
  | zero => intro _ _ _; rfl
  | succ k ih =>
    intro h1 h2 h3
    cases a with
    | nil => simp at h3
    | cons x a =>
      cases b with
      | nil => simp at h1
      | cons y b =>
        have h0 : x = y := by simpa [gi] using h2 0 (by omega)
        subst h0
        rw [List.drop_succ_cons, List.drop_succ_cons, lexC, if_neg (by omega), if_neg (by omega)]
        exact ih (by simpa using h1) (fun j hj => by simpa [gi] using h2 (j + 1) (by omega)) (by simpa using h3)
theorem drop_gi {a : List Int} {k : Nat} (h : k < a.length) : a.drop k = gi a k :: a.drop (k + 1) := by
  rw [List.drop_eq_getElem_cons h]
  congr 1
  simp [gi, List.getElem?_eq_getElem h]
theorem lexC_end {a b : List Int} (h1 : b.length ≤ a.length) (h2 : ∀ j, j < b.length → gi a j = gi b j) (h3 : b.length < a.length) : lexC a b = 1 := by
  rw [lexC_at (k := b.length) (Nat.le_refl _) h2 h1, List.drop_length, drop_gi h3]; rfl
theorem lexC_out {a b : List Int} (h1 : a.length ≤ b.length) (h2 : ∀ j, j < a.length → gi a j = gi b j) : lexC a b = if a.length < b.length then -1 else 0 := by
  rw [lexC_at (k := a.length) h1 h2 (Nat.le_refl _), List.drop_length]
  by_cases h : a.length < b.length
  · rw [if_pos h, drop_gi h]; rfl
  · rw [if_neg h, List.drop_eq_nil_of_le (by omega)]; rfl
theorem lexC_ne {a b : List Int} {k : Nat} (h1 : k < a.length) (h2 : k < b.length) (h3 : ∀ j, j < k → gi a j = gi b j) (h4 : gi a k ≠ gi b k) : lexC a b = cmpF (gi a k) (gi b k) := by
  rw [lexC_at (k := k) (by omega) h3 (by omega), drop_gi h1, drop_gi h2, lexC]
  unfold cmpF
  by_cases q : gi a k < gi b k
  · rw [if_pos q, if_pos q]
  · rw [if_neg q, if_neg q, if_pos (by omega), if_pos (by omega)]
theorem cmpF_ne {x y : Int} (h : x ≠ y) : cmpF x y ≠ 0 := by
  unfold cmpF
  by_cases q : x < y
  · rw [if_pos q]; omega
  · rw [if_neg q, if_pos (by omega)]; omega
theorem cmpF_same (x : Int) : cmpF x x = 0 := by unfold cmpF; rw [if_neg (by omega), if_neg (by omega)]
theorem compD_any (A B : Option Addr) (a b : List Int) (ca cb : Nat) (w : World) (ha : Ints w A a) (hb : Ints w B b) (la : a.length ≤ 1000000000) (lb : b.length ≤ 1000000000) :
    Calls Tryz.prog 35 #[.slice A a.length ca, .slice B b.length cb] w fun e w' => e = .returned (.int .i64 (lexC a b)) ∧ w = w' := by
  have HA := Lib.hid ha
  have HB := Lib.hid hb
  clear ha hb
  go_enter func35, ntmps35
  go_wp2
  go_loopw [11] (fun i wr => ∃ k : Nat, k ≤ a.length ∧ k ≤ b.length ∧ i = .int .i64 k ∧ Hid (∀ j, j < k → gi a j = gi b j) ∧ w = wr) (fun i _ => a.length - (intOf i).toNat)
  case atStart => exact ⟨0, Nat.zero_le _, Nat.zero_le _, rfl, fun j hj => absurd hj (by omega), rfl⟩
  case round =>
    obtain ⟨k, hk, hkb, rfl, hall, rfl⟩ := hrel
    by_cases hlt : k < a.length
    · have i1 : (0 : Int) ≤ (k : Int) := by omega
      have i2 : (k : Int) < (a.length : Int) := by omega
      obtain ⟨b1, o1, rfl, hb1, hc1⟩ := HA.out (by omega)
      have c1 := hc1 k hlt
      clear hc1
      by_cases hlb : k < b.length
      · obtain ⟨b2, o2, rfl, hb2, hc2⟩ := HB.out (by omega)
        have c2 := hc2 k hlb
        clear hc2
        have i3 : (k : Int) < (b.length : Int) := by omega
        by_cases he : gi a k = gi b k
        · have h0 : cmpF (gi a k) (gi b k) = 0 := by rw [he]; exact cmpF_same _
          have HE := Lib.hid he
          clear he
          go_wp2_with (first | (go_at_call 94; refine (yff _ _ _).mono ?_; rintro e w' ⟨rfl, rfl⟩; rw [h0]))
          go_roundw
          case rel =>
            refine ⟨k + 1, by omega, by omega, by go_num, ?_, trivial⟩
            intro j hj
            by_cases e : j = k
            · subst e; exact HE.out
            · exact hall.out j (by omega)
          case measure => simp [intOf]; omega
        · have h0 := lexC_ne hlt hlb hall.out he
          have hne := cmpF_ne he
          clear he
          have hb' := neT hne
          go_wp2_with (first | (go_at_call 94; refine (yff _ _ _).mono ?_; rintro e w' ⟨rfl, rfl⟩))
          go_ret
          exact ⟨ycl (by rw [h0]; rfl), rfl⟩
      · have i3 : (b.length : Int) ≤ (k : Int) := by omega
        have h0 := lexC_end (a := a) (b := b) (by omega) (fun j hj => hall.out j (by omega)) (by omega)
        go_wp2
        go_ret
        exact ⟨ycl (by rw [h0]; rfl), rfl⟩
    · have h0 := lexC_out (a := a) (b := b) (by omega) (fun j hj => hall.out j (by omega))
      by_cases hab : a.length < b.length
      · rw [if_pos hab] at h0
        go_wp2
        go_ret
        exact ⟨ycl (by rw [h0]; rfl), rfl⟩
      · rw [if_neg hab] at h0
        go_wp2
        go_ret
        exact ⟨ycl (by rw [h0]; rfl), rfl⟩
end Go.Proofs.YtncilechkclmbaaGreat

/- Pure forms of functions, made by program (pf.py), each with the proof that the code does so. -/
namespace Go.Proofs.YtncilechkclmbaaGreat
open Go Go.RowKit Go.Shelf Go.Proofs.Tryz
set_option linter.unusedVariables false
set_option maxRecDepth 100000
set_option maxHeartbeats 1000000
end Go.Proofs.YtncilechkclmbaaGreat

/- Pure forms of functions, made by program (pf.py), each with the proof that the code does so. -/
namespace Go.Proofs.YtncilechkclmbaaGreat
open Go Go.RowKit Go.Shelf Go.Proofs.Tryz
set_option linter.unusedVariables false
set_option maxRecDepth 100000
set_option maxHeartbeats 1000000
def ydo (g : Int) (g2 : List E3) (l : List (List Int)) (R : Int → Prop) : Prop :=
yco g g2 (fun r r2 =>
((r2 = 0 →
((r = true →
(∃ I2 : Nat → Int → Prop, (∃ m0, I2 m0 0) ∧ ∀ m2 v, I2 m2 v → 
((v < ((l.length : Nat) : Int) →
((0 ≤ v ∧ v < ((l.length : Nat) : Int)) ∧
ybZ (gx l v.toNat) g (fun r3 =>
((r3 = 0 →
(In64 (v + 1) ∧
∃ m3, m3 < m2 ∧ I2 m3 (v + 1))) ∧
(¬ (r3 = 0) →
R r3))))) ∧
(¬ (v < ((l.length : Nat) : Int)) →
R 0)))) ∧
(¬ (r = true) →
R 13))) ∧
(¬ (r2 = 0) →
R r2)))
theorem yjT {O : Nat → Prop} {w : World} {g g2 l Ag lg cg Al ll cl} {R : Int → Prop} (h : ydo g g2 l R) (hO : ∀ k, O k → k < w.heap.size) (hA0 : (FP.sl c3 Ag lg cg g2).P O w) (hA1 : (FP.sl (cL cI) Al ll cl l).P O w) :
    Calls Tryz.prog 99 #[(.agg #[(ii g), (.slice Ag lg cg)]), (.slice Al ll cl)] w fun e w' => ∃ r4, e = .returned (ii r4) ∧ Sep w no O w' (rl []) ∧ R r4 := by
  unfold ydo at h; have hS : Sep w no O w (rl [Res.ro (FP.sl c3 Ag lg cg g2), Res.ro (FP.sl (cL cI) Al ll cl l)]) := Sep.startl hO [(FP.sl c3 Ag lg cg g2), (FP.sl (cL cI) Al ll cl l)] ⟨hA0, hA1, trivial⟩; refine yan (l := [(.agg #[(ii g), (.slice Ag lg cg)]), (.slice Al ll cl)]) func99 rfl ntmps99 (Nat.le_of_ble_eq_true rfl) (zs (zn (yb6 (v := (.agg #[(ii g), (.slice Ag lg cg)])) rfl ?_))); intro g3 w2 hN; replace hS : Sep w no O w2 (stl _ 2 (Res.box 24 g3 [(ii g), (.slice Ag lg cg)])) := hS.new 2 rfl hN; clear hN; refine zb (zq (za (ii 0)) (yaa (zs (zq (yav (vs := [(ii g), (.slice Ag lg cg)]) rfl underlying24 rfl yas ⟨Row.cell (hS.bx 2 rfl) (i := 0) rfl, Row.cell (hS.bx 2 rfl) (i := 1) rfl, trivial⟩) (zn (yal rfl (am1 rfl) yiW ((yc5 h (yaN _) (hS.rdr 0 rfl)).mono ?_))))))); rintro _ w3 ⟨r, r2, rfl, hC, h⟩; replace hS := hS.pur hC.pure; clear hC; refine ⟨_, rfl, ?_⟩; refine zb (zq (zm (.tuple #[(.bool (r)), (ii r2)])) (zq (zx (.bool (r))) (zq (zx (ii r2)) (zq (za (.bool (r))) (zq (za (ii r2)) (yaa (yaf (zs (zq (zm (ii r2)) (zq zN (yaa ?_))))))))))); by_cases hp : r2 = 0
  · replace h := h.1 hp; refine ze hp (yag (yaf (zs (zq (zm (.bool (r))) (zq (ydn rfl) (yaa ?_)))))); by_cases hp2 : r = true
    · replace h := h.1 hp2; refine yax (congrArg Value.bool (congrArg Bool.not hp2)) (yag (yaf (zs (zq (zm (.slice Al ll cl)) (zq (ybc (n := l.length) rfl underlying44 (ya2 (hS.rdr 1 rfl))) (zq (zm (ii 0)) (yaa (yak ?_)))))))); obtain ⟨I2, ⟨m0, h0⟩, hr⟩ := h; refine yaO (fun m E ds w' => ∃ v, I2 m v ∧ ds = [] ∧ E 2 = (Value.pointer (some (⟨g3, 0, none⟩ : Addr))) ∧ E 20 = (Value.slice Al ll cl) ∧ E 21 = (ii ((l.length : Nat) : Int)) ∧ E 22 = (ii v) ∧ Sep w no O w' (rl [Res.box 24 g3 [(ii g), (.slice Ag lg cg)], Res.ro (FP.sl c3 Ag lg cg g2), Res.ro (FP.sl (cL cI) Al ll cl l)])) m0 ⟨_, h0, rfl, rfl, rfl, rfl, rfl, (hS.sel [2, 0, 1] (by decide))⟩ ?_; clear h0 hS; rintro m2 E ds w4 ⟨v, h, rfl, hE2, hE20, hE21, hE22, hS⟩ again; replace h := hr m2 v h; clear hr; refine zs (zq (yd4 hE22 hE21) (yaa (yaf ?_))); by_cases hp3 : v < ((l.length : Nat) : Int)
      · replace h := h.1 hp3; refine zc hp3 (yag (yaf (yak (zs ?_)))); obtain ⟨hx, h⟩ := h; refine zq (yeK hE20 hE22 underlying44 ya0 (ybh (hS.rdr 2 rfl) hx)) ?_; obtain ⟨A, l2, c, hc, hq⟩ := hS.el 2 rfl hx 3 4 rfl rfl (by decide); replace hS := hq; clear hq; refine zq (yaA (v := (.slice A l2 c)) rfl underlying26 rfl (hS.clr 4 rfl)) (zq (za (.slice A l2 c)) (yaa (zs (zq (zm (.slice A l2 c)) (zq (yam hE2 underlying24 rfl yaj) (zq (zl underlying3 (Row.cell (hS.bx 0 rfl) (i := 0) rfl)) (zn (yal rfl (am2 rfl rfl) yfB ((yeP h (yaN _) (hS.rdr 3 rfl)).mono ?_))))))))); rintro _ w5 ⟨r3, rfl, hC, h⟩; replace hS := hS.pur hC.pure; clear hC; refine ⟨_, rfl, ?_⟩; refine zb (zq (za (ii r3)) (yaa (zs (zq (zm (ii r3)) (zq zN (yaa ?_)))))); by_cases hp4 : r3 = 0
        · replace h := h.1 hp4; refine ze hp4 (yag (yai (zr ?_))); obtain ⟨hi, h⟩ := h; refine zq (ycv hE22 rfl hi) (zq (zm (ii (v + 1))) (yaa ?_)); obtain ⟨mq, hlt, h⟩ := h; exact again mq _ _ _ ⟨_, h, rfl, hE2, hE20, hE21, rfl, (hS.sel [0, 1, 2] (by decide))⟩ hlt
        · replace h := h.2 hp4; exact zf hp4 (zs (zq (zm (ii r3)) (zq (za (ii r3)) (yaa (yah rfl rfl ⟨_, rfl, (hS.sel [] (by decide)), h⟩)))))
      · replace h := h.2 hp3; exact zd hp3 (yaH rfl (zs (zq (za (ii 0)) (yaa (yah rfl rfl ⟨_, rfl, (hS.sel [] (by decide)), h⟩)))))
    · replace h := h.2 hp2; exact yaq (congrArg Value.bool (congrArg Bool.not (Bool.eq_false_iff.2 hp2))) (zs (zq (za (ii 13)) (yaa (yah rfl rfl ⟨_, rfl, (hS.sel [] (by decide)), h⟩))))
  · replace h := h.2 hp; exact zf hp (zs (zq (zm (ii r2)) (zq (za (ii r2)) (yaa (yah rfl rfl ⟨_, rfl, (hS.sel [] (by decide)), h⟩)))))
def yjx (g : Int) (g2 : List E3) (d : List Int) (most : Int) (R : Bool → Prop) : Prop :=
(∃ J2 : Prop, (J2 → yc6 g g2 d (fun r =>
((r = 0 →
ycP g g2 d (fun r2 =>
((r2 = true →
yc1 d (fun r3 =>
R (decide (r3 ≤ most)))) ∧
(¬ (r2 = true) →
R false)))) ∧
(¬ (r = 0) →
R true)))) ∧
ydr g g2 (fun r4 =>
((r4 = true →
((100 < ((d.length : Nat) : Int) →
R false) ∧
(¬ (100 < ((d.length : Nat) : Int)) →
J2))) ∧
(¬ (r4 = true) →
R false))))
theorem pok_r38_Few {O : Nat → Prop} {w : World} {g g2 d most Ag lg cg Ad ld cd} {R : Bool → Prop} (h : yjx g g2 d most R) (hO : ∀ k, O k → k < w.heap.size) (hA0 : (FP.sl c3 Ag lg cg g2).P O w) (hA1 : (FP.sl cI Ad ld cd d).P O w) :
    Calls Tryz.prog 96 #[(.agg #[(ii g), (.slice Ag lg cg)]), (.slice Ad ld cd), (ii most)] w fun e w' => ∃ r5, e = .returned (.bool (r5)) ∧ Sep w no O w' (rl []) ∧ R r5 := by
  unfold yjx at h; have hS : Sep w no O w (rl [Res.ro (FP.sl c3 Ag lg cg g2), Res.ro (FP.sl cI Ad ld cd d)]) := Sep.startl hO [(FP.sl c3 Ag lg cg g2), (FP.sl cI Ad ld cd d)] ⟨hA0, hA1, trivial⟩; refine yan (l := [(.agg #[(ii g), (.slice Ag lg cg)]), (.slice Ad ld cd), (ii most)]) func96 rfl ntmps96 (Nat.le_of_ble_eq_true rfl) (zs (zn (yb6 (v := (.agg #[(ii g), (.slice Ag lg cg)])) rfl ?_))); intro g3 w2 hN; replace hS : Sep w no O w2 (stl _ 2 (Res.box 24 g3 [(ii g), (.slice Ag lg cg)])) := hS.new 2 rfl hN; clear hN; refine zb (zq (za (.bool (false))) (yaa (yaf (yaf ?_)))); obtain ⟨J2, hJ, h⟩ := h; refine ycZ (fun E ds w' => J2 ∧ ds = [] ∧ E 1 = (Value.slice Ad ld cd) ∧ E 2 = (ii most) ∧ E 3 = (Value.pointer (some (⟨g3, 0, none⟩ : Addr))) ∧ Sep w no O w' (rl [Res.ro (FP.sl cI Ad ld cd d), Res.box 24 g3 [(ii g), (.slice Ag lg cg)], Res.ro (FP.sl c3 Ag lg cg g2)])) ?_ ?_
  · clear h hS; rintro E ds w3 ⟨h, rfl, hE1, hE2, hE3, hS⟩; replace h := hJ h; refine zs (zq (yav (vs := [(ii g), (.slice Ag lg cg)]) hE3 underlying24 rfl yas ⟨Row.cell (hS.bx 1 rfl) (i := 0) rfl, Row.cell (hS.bx 1 rfl) (i := 1) rfl, trivial⟩) (zq (yae hE1) (zn (yal rfl (am2 rfl rfl) enter_142 ((pok_r35_Given h (yaN _) (hS.rdr 2 rfl) (hS.rdr 0 rfl)).mono ?_))))); rintro _ w4 ⟨r, rfl, hC, h⟩; replace hS := hS.pur hC.pure; clear hC; refine ⟨_, rfl, ?_⟩; refine zb (zq zN (zq (zm (.bool (!(decide (r = 0))))) ?_)); by_cases hp : r = 0
    · replace h := h.1 hp; refine rl_q (yad rfl (yac rfl (congrArg Value.bool (congrArg Bool.not (decide_eq_true hp))))) rfl rfl (yav (vs := [(ii g), (.slice Ag lg cg)]) hE3 underlying24 rfl yas ⟨Row.cell (hS.bx 1 rfl) (i := 0) rfl, Row.cell (hS.bx 1 rfl) (i := 1) rfl, trivial⟩) (rl_q (yad rfl (yac rfl (congrArg Value.bool (congrArg Bool.not (decide_eq_true hp))))) rfl rfl (yae hE1) (rl_n (yad rfl (yac rfl (congrArg Value.bool (congrArg Bool.not (decide_eq_true hp))))) rfl rfl rfl (yal rfl (am2 rfl rfl) enter_18 ((ygB h (yaN _) (hS.rdr 2 rfl) (hS.rdr 0 rfl)).mono ?_)))); rintro _ w5 ⟨r2, rfl, hC, h⟩; replace hS := hS.pur hC.pure; clear hC; refine ⟨_, rfl, ?_⟩; refine zb (rl_q (yad rfl (yac rfl (congrArg Value.bool (congrArg Bool.not (decide_eq_true hp))))) rfl rfl (zm (.bool (r2))) ?_); by_cases hp2 : r2 = true
      · replace h := h.1 hp2; refine rl_q (yad rfl (yac rfl (congrArg Value.bool hp2))) rfl rfl (yae hE1) (rl_n (yad rfl (yac rfl (congrArg Value.bool hp2))) rfl rfl rfl (yal rfl (am1 rfl) enter_21 ((yhh h (yaN _) (hS.rdr 0 rfl)).mono ?_))); rintro _ w6 ⟨r3, rfl, hC, h⟩; replace hS := hS.pur hC.pure; clear hC; refine ⟨_, rfl, ?_⟩; exact zb (rl_q (yad rfl (yac rfl (congrArg Value.bool hp2))) rfl rfl (yae hE2) (rl_q (yad rfl (yac rfl (congrArg Value.bool hp2))) rfl rfl (v_leq rfl rfl) (rl_q (yad rfl (yac rfl (congrArg Value.bool (congrArg Bool.not (decide_eq_true hp))))) rfl rfl (yao (v := (.bool (decide (r3 ≤ most)))) (congrArg Value.bool hp2) rfl) (zq (yap (v := (.bool (decide (r3 ≤ most)))) (congrArg Value.bool (congrArg Bool.not (decide_eq_true hp))) rfl) (zq (za (.bool (decide (r3 ≤ most)))) (yaa (yah rfl rfl ⟨_, rfl, (hS.sel [] (by decide)), h⟩)))))))
      · replace h := h.2 hp2; exact rl_p (yab rfl (yac rfl (congrArg Value.bool (Bool.eq_false_iff.2 hp2))) rfl) rfl (rl_p (yab rfl (yac rfl (congrArg Value.bool (Bool.eq_false_iff.2 hp2))) rfl) rfl (rl_p (yab rfl (yac rfl (congrArg Value.bool (Bool.eq_false_iff.2 hp2))) rfl) rfl (rl_p (yab rfl (yac rfl (congrArg Value.bool (Bool.eq_false_iff.2 hp2))) rfl) rfl (rl_q (yad rfl (yac rfl (congrArg Value.bool (congrArg Bool.not (decide_eq_true hp))))) rfl rfl (yap (v := (.bool (false))) (congrArg Value.bool (Bool.eq_false_iff.2 hp2)) rfl) (zq (yap (v := (.bool (false))) (congrArg Value.bool (congrArg Bool.not (decide_eq_true hp))) rfl) (zq (za (.bool (false))) (yaa (yah rfl rfl ⟨_, rfl, (hS.sel [] (by decide)), h⟩))))))))
    · replace h := h.2 hp; exact rl_p (yab rfl (yac rfl (congrArg Value.bool (congrArg Bool.not (decide_eq_false hp)))) rfl) rfl (rl_p (yab rfl (yac rfl (congrArg Value.bool (congrArg Bool.not (decide_eq_false hp)))) rfl) rfl (rl_p (yab rfl (yac rfl (congrArg Value.bool (congrArg Bool.not (decide_eq_false hp)))) rfl) rfl (rl_p (yab rfl (yac rfl (congrArg Value.bool (congrArg Bool.not (decide_eq_false hp)))) rfl) rfl (rl_p (yaB rfl rfl) rfl (rl_p (yaB rfl rfl) rfl (rl_p (yaB rfl rfl) rfl (rl_p (yaB rfl rfl) rfl (rl_p (yab rfl (yac rfl (congrArg Value.bool (congrArg Bool.not (decide_eq_false hp)))) rfl) rfl (zq (yao (v := (.bool (true))) (congrArg Value.bool (congrArg Bool.not (decide_eq_false hp))) rfl) (zq (za (.bool (true))) (yaa (yah rfl rfl ⟨_, rfl, (hS.sel [] (by decide)), h⟩))))))))))))
  clear hJ; intro j; refine zr (zq (yav (vs := [(ii g), (.slice Ag lg cg)]) rfl underlying24 rfl yas ⟨Row.cell (hS.bx 2 rfl) (i := 0) rfl, Row.cell (hS.bx 2 rfl) (i := 1) rfl, trivial⟩) (zn (yal rfl (am1 rfl) enter_51 ((ygo h (yaN _) (hS.rdr 0 rfl)).mono ?_)))); rintro _ w7 ⟨r4, rfl, hC, h⟩; replace hS := hS.pur hC.pure; clear hC; refine ⟨_, rfl, ?_⟩; refine zb (zq (ydn rfl) (zq (zm (.bool (!(r4)))) ?_)); by_cases hp3 : r4 = true
  · replace h := h.1 hp3; refine rl_q (yad rfl (yac rfl (congrArg Value.bool (congrArg Bool.not hp3)))) rfl rfl (zm (.slice Ad ld cd)) (rl_q (yad rfl (yac rfl (congrArg Value.bool (congrArg Bool.not hp3)))) rfl rfl (ybc (n := d.length) rfl underlying25 (ya2 (hS.rdr 1 rfl))) (rl_q (yad rfl (yac rfl (congrArg Value.bool (congrArg Bool.not hp3)))) rfl rfl zG (zq (yap (v := (.bool (decide (100 < ((d.length : Nat) : Int))))) (congrArg Value.bool (congrArg Bool.not hp3)) rfl) (yaa ?_)))); by_cases hp4 : 100 < ((d.length : Nat) : Int)
    · replace h := h.1 hp4; exact zc hp4 (zs (zq (za (.bool (false))) (yaa (yah rfl rfl ⟨_, rfl, (hS.sel [] (by decide)), h⟩))))
    · replace h := h.2 hp4; exact zd hp4 (yag (j _ _ _ ⟨h, rfl, rfl, rfl, rfl, (hS.sel [1, 2, 0] (by decide))⟩))
  · replace h := h.2 hp3; exact rl_p (yab rfl (yac rfl (congrArg Value.bool (congrArg Bool.not (Bool.eq_false_iff.2 hp3)))) rfl) rfl (rl_p (yab rfl (yac rfl (congrArg Value.bool (congrArg Bool.not (Bool.eq_false_iff.2 hp3)))) rfl) rfl (rl_p (yab rfl (yac rfl (congrArg Value.bool (congrArg Bool.not (Bool.eq_false_iff.2 hp3)))) rfl) rfl (zq (yao (v := (.bool (true))) (congrArg Value.bool (congrArg Bool.not (Bool.eq_false_iff.2 hp3))) rfl) (yaa (yaq rfl (zs (zq (za (.bool (false))) (yaa (yah rfl rfl ⟨_, rfl, (hS.sel [] (by decide)), h⟩)))))))))
end Go.Proofs.YtncilechkclmbaaGreat

/- Pure forms of functions, made by program (pf.py), each with the proof that the code does so. -/
namespace Go.Proofs.YtncilechkclmbaaGreat
open Go Go.RowKit Go.Shelf Go.Proofs.Tryz
set_option linter.unusedVariables false
set_option maxRecDepth 100000
set_option maxHeartbeats 1000000
end Go.Proofs.YtncilechkclmbaaGreat

/- What the finder of ranks comes to. -/
namespace Go.Proofs.YtncilechkclmbaaGreat
open Go Go.Proofs.Tryz
set_option linter.unusedVariables false
set_option linter.unusedSimpArgs false
def errL (n : Int) : List (List Int) → Int
  | [] => 0
  | d :: t => if yaJ d n = 0 then errL n t else yaJ d n
theorem gx_succ {d : List Int} {t : List (List Int)} {k : Nat} : gx (d :: t) (k + 1) = gx t k := by simp [gx]
theorem gx_zero {d : List Int} {t : List (List Int)} : gx (d :: t) 0 = d := by simp [gx]
theorem errL_zero {n : Int} : ∀ {l : List (List Int)}, (∀ j, j < l.length → yaJ (gx l j) n = 0) → errL n l = 0
  | [], _ => rfl
  | d :: t, h => by
    have h0 := h 0 (by simp)
    rw [gx_zero] at h0
    unfold errL
    rw [if_pos h0]
    exact errL_zero fun j hj => by have := h (j + 1) (by simpa using hj); rwa [gx_succ] at this
theorem errL_at {n : Int} : ∀ {l : List (List Int)} {k : Nat}, k < l.length → (∀ j, j < k → yaJ (gx l j) n = 0) → yaJ (gx l k) n ≠ 0 → errL n l = yaJ (gx l k) n
  | [], k, hk, _, _ => by simp at hk
  | d :: t, 0, hk, h, hn => by
    rw [gx_zero] at hn ⊢
    unfold errL
    rw [if_neg hn]
  | d :: t, k + 1, hk, h, hn => by
    have h0 := h 0 (by omega)
    rw [gx_zero] at h0
    rw [gx_succ] at hn ⊢
    unfold errL
    rw [if_pos h0]
    exact errL_at (by simpa using hk) (fun j hj => by have := h (j + 1) (by omega); rwa [gx_succ] at this) hn
def givL (n : Int) (es : List E3) (l : List (List Int)) : Int := if yb2 n es = 0 then errL n l else yb2 n es
theorem givL_one {n : Int} {es : List E3} {d : List Int} : givL n es [d] = yaD n es 0 d := by
  rw [given0]
  unfold givL errL errL
  by_cases e : yaJ d n = 0 <;> simp [e]
theorem yjH {n : Int} {es : List E3} {l : List (List Int)} {R : Int → Prop} (hl : es.length ≤ 1000) (hll : l.length ≤ 1000) (h : R (givL n es l)) : ydo n es l R := by
  unfold ydo
  refine ⟨by omega, fun hg => ⟨fun hc => ?_, fun hc => ?_⟩, fun hg => ?_⟩
  · have hj : yb2 n es = 0 := by
      have := of_decide_eq_true hc
      unfold yb2; rw [if_pos this.1, if_pos this.2]
    have e : givL n es l = errL n l := by unfold givL; rw [if_pos hj]
    rw [e] at h
    refine ⟨Cnt l.length (fun k => ∀ j, j < k → yaJ (gx l j) n = 0), Cnt.start (fun j hj => absurd hj (by omega)), ?_⟩
    rintro m _ ⟨k, rfl, rfl, hk, hinv⟩
    simp only [Int.toNat_natCast]
    refine ⟨fun hlt => ⟨by omega, yhs ⟨fun h0 => Cnt.next (by omega) (by omega) fun j hj => ?_, fun hne => ?_⟩⟩, fun hge => ?_⟩
    · by_cases e : j = k
      · rw [e]; exact h0
      · exact hinv j (by omega)
    · rw [errL_at (by omega) hinv hne] at h; exact h
    · have e : k = l.length := by omega
      rw [errL_zero (by rw [← e]; exact hinv)] at h; exact h
  · have hj : yb2 n es = 13 := by
      unfold yb2; rw [if_pos hg, if_neg]
      intro q; exact hc (decide_eq_true ⟨hg, q⟩)
    have e : givL n es l = 13 := by unfold givL; rw [if_neg (by omega), hj]
    rw [e] at h; exact h
  · have hj : yb2 n es = yat n es := by unfold yb2; rw [if_neg hg]
    have e : givL n es l = yat n es := by unfold givL; rw [if_neg (by omega), hj]
    rw [e] at h; exact h
def keyF (r : List Int) : List Int := cpy (List.replicate 12 (0 : Int)) r
theorem ycU (r : List Int) : (keyF r).length = 12 := by unfold keyF; rw [cpy_length]; simp
theorem gi_keyF {r : List Int} {i : Nat} (hi : i < 12) : gi (keyF r) i = if i < r.length then gi r i else 0 := by
  unfold keyF
  rw [gi_cpy (by simpa using hi), yka hi]
theorem keyF_inj {n : Nat} {r r' : List Int} (hn : n ≤ 12) (h : r.length = n) (h' : r'.length = n) (e : keyF r = keyF r') : r = r' := by
  refine yfe (by omega) fun k hk => ?_
  have h1 := gi_keyF (r := r) (i := k) (by omega)
  have h2 := gi_keyF (r := r') (i := k) (by omega)
  rw [if_pos (by omega)] at h1 h2
  rw [← h1, ← h2, e]
structure MOk (n : Nat) (es : List E3) (m : List (List Int × Int)) : Prop where
  keys : KOk 12 m
  vals : ∀ p ∈ m, ∃ r, p.1 = keyF r ∧ Eff n r (dg r) ∧ dg r ≤ 5 ∧ RkOk n es r p.2
theorem MOk.nil (n : Nat) (es : List E3) : MOk n es [] := ⟨KOk.nil 12, fun p hp => by simp at hp⟩
theorem ygP {n : Nat} {r : List Int} (hr : Eff n r (dg r)) (h5 : dg r ≤ 5) : yfx 12 (keyF r) := by
  refine ⟨ycU r, fun x hx => ?_⟩
  obtain ⟨i, hi, rfl⟩ := List.getElem_of_mem hx
  rw [ycU] at hi
  rw [← yaY (by rw [ycU]; exact hi), gi_keyF hi]
  split
  · have hi2 : i < n := by rw [← hr.len]; assumption
    have := hr.pos i hi2
    have := hr.le hi2
    exact i64 (by omega)
  · exact i64 (by omega)
theorem MOk.put {n : Nat} {es : List E3} {m : List (List Int × Int)} (h : MOk n es m) {r : List Int} {v : Int} (hr : Eff n r (dg r)) (h5 : dg r ≤ 5) (hk : RkOk n es r v) : MOk n es (mput m (keyF r) v) := by
  have hK := h.keys.put (ygP hr h5) v
  refine ⟨hK, fun p hp => ?_⟩
  rcases mput_mem hp with e | e
  · obtain ⟨j, hj⟩ := List.mem_iff_getElem?.1 hp
    have h1 := mget_at hK.1 (k := p.1) (v := p.2) hj
    rw [e, mget_put, if_pos rfl] at h1
    cases h1
    exact ⟨r, e, hr, h5, hk⟩
  · exact h.vals p e
theorem nodup_le : ∀ {l K : List (List Int)}, l.Nodup → (∀ x ∈ l, x ∈ K) → l.length ≤ K.length
  | [], K, _, _ => Nat.zero_le _
  | a :: t, K, h, hs => by
    have h1 := List.nodup_cons.1 h
    have ha : a ∈ K := hs a (by simp)
    have h2 := nodup_le (l := t) (K := K.erase a) h1.2 fun x hx => (List.mem_erase_of_ne (by rintro rfl; exact h1.1 hx)).2 (hs x (by simp [hx]))
    rw [List.length_erase_of_mem ha] at h2
    have : 0 < K.length := List.length_pos_of_mem ha
    simp only [List.length_cons]
    omega
theorem flat_le {f : Nat → List (List Int)} {B : Nat} : ∀ {l : List Nat}, (∀ a ∈ l, (f a).length ≤ B) → (l.flatMap f).length ≤ l.length * B
  | [], _ => by simp
  | a :: t, h => by
    rw [List.flatMap_cons, List.length_append, List.length_cons, Nat.add_mul, Nat.one_mul]
    have := h a (by simp)
    have := flat_le (f := f) (l := t) fun b hb => h b (by simp [hb])
    omega
theorem ykr {n k : Nat} {e : List Int} (h : Eff (n + 1) e (k : Int)) : e ∈ ydb (n + 1) k := by
  refine (ydq n k e).2 ⟨h.len, fun a ha => ?_, by rw [sum_dg, h.deg]⟩
  obtain ⟨i, hi, rfl⟩ := List.getElem_of_mem ha
  rw [← yaY hi]
  exact h.pos i (by rw [← h.len]; exact hi)
theorem yj7 {n k : Nat} {e : List Int} (h : e ∈ ydb (n + 1) k) : Eff (n + 1) e (k : Int) := by
  obtain ⟨h1, h2, h3⟩ := (ydq n k e).1 h
  exact ⟨h1, fun v hv => (dg_entry h2 (by omega)).1, by rw [← sum_dg, h3]⟩
theorem MOk.len {n : Nat} {es : List E3} {m : List (List Int × Int)} (h : MOk n es m) (h1 : 1 ≤ n) (hn : n ≤ 5) : m.length ≤ 7776 := by
  obtain ⟨n, rfl⟩ : ∃ k, n = k + 1 := ⟨n - 1, by omega⟩
  have hN : (m.map (·.1)).Nodup := by
    have := h.keys.1
    unfold List.Nodup
    rw [List.pairwise_map]
    exact this
  have h2 := nodup_le (K := (List.range 6).flatMap fun k => (ydb (n + 1) k).map keyF) hN fun x hx => by
    obtain ⟨p, hp, rfl⟩ := List.mem_map.1 hx
    obtain ⟨r, e, hr, h5, -⟩ := h.vals p hp
    obtain ⟨k, hk⟩ : ∃ k : Nat, dg r = (k : Int) := ⟨(dg r).toNat, by have := hr.nonneg; omega⟩
    rw [hk] at hr
    rw [List.mem_flatMap]
    exact ⟨k, List.mem_range.2 (by omega), List.mem_map.2 ⟨r, ykr hr, e.symm⟩⟩
  have h3 := flat_le (f := fun k => (ydb (n + 1) k).map keyF) (B := 1296) (l := List.range 6) fun k hk => by
    rw [List.length_map]
    have h1 := ygf n k
    have h2 : (k + 1) ^ n ≤ 6 ^ n := Nat.pow_le_pow_left (by have := List.mem_range.1 hk; omega) n
    have h3 : 6 ^ n ≤ 6 ^ 4 := Nat.pow_le_pow_right (by omega) (by omega)
    omega
  simp only [List.length_map, List.length_range] at h2 h3
  omega
structure GOk (n : Nat) (es : List E3) : Prop where
  g : yat n es = 0
  c : yde n es = true
  el : es.length ≤ 40
  n1 : 1 ≤ n
  n5 : n ≤ 5
  su : (es.map (·.2.2)).sum ≤ 9
section
variable {n : Nat} {es : List E3}
theorem GOk.E (G : GOk n es) : EOk n es := (yc9 G.g).1
theorem GOk.tot (G : GOk n es) : tot n es ≤ 18 := tot_few G.E G.n1 (by have := G.n5; omega) G.su
theorem GOk.giv (G : GOk n es) {d : List Int} (hd : d.length = n) (hb : ∀ v, v < n → -1000000 ≤ gi d v ∧ gi d v ≤ 1000000) : yaD n es 0 d = 0 := by
  have := G.n1
  have := G.n5
  unfold yaD; rw [if_pos G.g, if_pos G.c, if_pos ⟨by omega, by omega⟩]
  exact yfN hd (by omega) (by omega) fun v hv => by have := hb v hv; omega
theorem GOk.small (G : GOk n es) {d : List Int} (hb : ∀ v, v < n → -200 ≤ gi d v ∧ gi d v ≤ 200) : Small (n : Int) es d :=
  ⟨G.el, fun _ => ⟨by have := G.n5; omega, G.su⟩, fun _ v hv => hb v (by omega)⟩
end
end Go.Proofs.YtncilechkclmbaaGreat

/- What graph.Loopless and graph.Genus come to. -/
namespace Go.Proofs.YtncilechkclmbaaGreat
open Go Go.Proofs.Tryz
set_option linter.unusedVariables false
set_option linter.unusedSimpArgs false
end Go.Proofs.YtncilechkclmbaaGreat

/- What chips.Next, rank.taken, rank.Witness and rank.AtLeast come to. -/
namespace Go.Proofs.YtncilechkclmbaaGreat
open Go Go.Proofs.Tryz
set_option linter.unusedVariables false
set_option linter.unusedSimpArgs false
structure FailAt (n : Nat) (es : List E3) (d : List Int) (k : Nat) (w : List Int) : Prop where
  at_ : ∃ A B, ydb n k = A ++ w :: B ∧ ∀ e ∈ A, Win n es (sb n d e)
  no : ¬ Win n es (sb n d w)
theorem first_eq {α : Type} {P : α → Prop} : ∀ {A B A' B' : List α} {x x' : α}, A ++ x :: B = A' ++ x' :: B' → (∀ e ∈ A, P e) → (∀ e ∈ A', P e) → ¬ P x → ¬ P x' → x = x'
  | [], B, [], B', x, x', h, _, _, _, _ => by injection h
  | [], B, a :: A', B', x, x', h, _, h', hx, _ => by injection h with e _; exact absurd (e ▸ h' a (by simp)) hx
  | a :: A, B, [], B', x, x', h, h', _, _, hx => by injection h with e _; exact absurd (e ▸ h' a (by simp)) hx
  | a :: A, B, a' :: A', B', x, x', h, h1, h2, hx, hx' => by injection h with _ e; exact first_eq e (fun z hz => h1 z (by simp [hz])) (fun z hz => h2 z (by simp [hz])) hx hx'
theorem FailAt.eq {n k : Nat} {es : List E3} {d w w' : List Int} (h : FailAt n es d k w) (h' : FailAt n es d k w') : w = w' := by
  obtain ⟨A, B, e, hA⟩ := h.at_
  obtain ⟨A', B', e', hA'⟩ := h'.at_
  exact first_eq (P := fun x => Win n es (sb n d x)) (e.symm.trans e') hA hA' h.no h'.no
theorem FailAt.mem {n k : Nat} {es : List E3} {d w : List Int} (h : FailAt (n + 1) es d k w) : Eff (n + 1) w (k : Int) := by
  obtain ⟨A, B, e, -⟩ := h.at_
  exact yj7 (by rw [e]; simp)
def WitOk (n : Nat) (es : List E3) (d w : List Int) : Prop := ∃ k, RkOk n es d k ∧ FailAt n es d (k + 1).toNat w
theorem WitOk.eq {n : Nat} (hn : 1 ≤ n) {es : List E3} {d w w' : List Int} (h : WitOk n es d w) (h' : WitOk n es d w') : w = w' := by
  obtain ⟨k, h1, h2⟩ := h
  obtain ⟨k', h1', h2'⟩ := h'
  have e := h1.eq hn h1'
  subst e
  exact h2.eq h2'
structure DOk (n : Nat) (es : List E3) (d : List Int) : Prop where
  G : GOk n es
  b : ∀ v, v < n → -150 ≤ gi d v ∧ gi d v ≤ 150
  d5 : dg d ≤ 5
theorem yks {n k : Nat} (hn : n ≤ 4) (hk : k ≤ 6) : (ydb (n + 1) k).length ≤ 2401 := by
  have h1 := ygf n k
  have h2 : (k + 1) ^ n ≤ 7 ^ n := Nat.pow_le_pow_left (by omega) n
  have h3 : 7 ^ n ≤ 7 ^ 4 := Nat.pow_le_pow_right (by omega) hn
  omega
end Go.Proofs.YtncilechkclmbaaGreat

/- Laws of layer 36: proofs, prices, costs, moves. -/
namespace Go.Proofs.YtncilechkclmbaaGreat
open Go Go.Proofs.Tryz
set_option linter.unusedVariables false
set_option linter.unusedSimpArgs false
theorem yba {s : List (List Int)} {F : List Int → (Bool → Prop) → Prop} {p : List Int → Bool} {R : Bool → Prop} (hl : s.length ≤ 1000000000) (hF : ∀ x (R' : Bool → Prop), x ∈ s → R' (p x) → F x R') (h1 : (∀ x ∈ s, p x = false) → R false) (h2 : ∀ x ∈ s, p x = true → R true) : yaw s F R := by
  unfold yaw yaX
  have hm : ∀ k, k < s.length → gx s k ∈ s := fun k hk => List.mem_of_getElem? (yfn hk)
  refine ⟨Cnt s.length (fun k => ∀ j, j < k → p (gx s j) = false), Cnt.start (fun j hj => absurd hj (by omega)), ?_⟩
  rintro m _ ⟨k, rfl, rfl, hk, hinv⟩
  simp only [Int.toNat_natCast]
  refine ⟨fun hlt => ⟨by omega, hF _ _ (hm k (by omega)) ⟨fun h => ?_, fun h => Cnt.next (by omega) (by omega) fun j hj => ?_⟩⟩, fun hge => ?_⟩
  · rw [decide_eq_true (by omega)]; exact h2 _ (hm k (by omega)) h
  · by_cases e : j = k
    · subst e; simpa using h
    · exact hinv j (by omega)
  · rw [decide_eq_false (by omega)]
    refine h1 fun x hx => ?_
    obtain ⟨j, hj⟩ := List.getElem?_of_mem hx
    have hjl := (List.getElem?_eq_some_iff.1 hj).1
    have := hinv j (by omega)
    rw [yfn hjl] at hj
    cases hj
    exact this
theorem ygF.len {n : Nat} {es : List E3} {d out : List Int} (h : ygF n es d out) : out.length ≤ n := by
  obtain ⟨f, _, rfl⟩ := h
  exact filt_len f n
end Go.Proofs.YtncilechkclmbaaGreat

/- Pure forms of functions, made by program (pf.py), each with the proof that the code does so. -/
namespace Go.Proofs.YtncilechkclmbaaGreat
open Go Go.RowKit Go.Shelf Go.Proofs.Tryz
set_option linter.unusedVariables false
set_option maxRecDepth 100000
set_option maxHeartbeats 1000000
end Go.Proofs.YtncilechkclmbaaGreat

/- What ref25's functions compute by the rule of Cramer. -/
namespace Go.Proofs.YtncilechkclmbaaGreat
open Go Go.Proofs.Tryz
set_option linter.unusedVariables false
set_option linter.unusedSimpArgs false
section
variable {m q : Nat} {es : List E3}
variable (hl : es.length ≤ 1000000000) (hg : yat ((m + 1 : Nat) : Int) es = 0) (hc : yde ((m + 1 : Nat) : Int) es = true) (hm : m ≤ 5) (hq : q ≤ m) {d : List Int} (hdl : d.length = m + 1) (hd : ∀ j, j < m + 1 → -1000 ≤ gi d j ∧ gi d j ≤ 1000)
include hl hg hc hm hq hdl hd
end
end Go.Proofs.YtncilechkclmbaaGreat

/- What the reference of ranks comes to. -/
namespace Go.Proofs.YtncilechkclmbaaGreat
open Go Go.Proofs.Tryz
set_option linter.unusedVariables false
set_option linter.unusedSimpArgs false
section
variable {N : Nat} {es : List E3} {d : List Int}
end
theorem ygO {n : Int} {es : List E3} {d : List Int} (hg : yaD n es 0 d = 0) (hD : DOk n.toNat es d) : ∃ N : Nat, n = ((N + 1 : Nat) : Int) ∧ d.length = N + 1 := by
  have h1 := ydT (n := n.toNat) (q := 0) (es := es) (d := d) (by rw [show ((n.toNat : Nat) : Int) = n from by have := yb7 hg; omega]; exact hg)
  have h2 := yb7 hg
  exact ⟨n.toNat - 1, by omega, by have := h1.2.2.2.2.2.2.1; omega⟩
structure FewOk (n : Int) (es : List E3) (d : List Int) (most : Int) : Prop where
  s : smallF n es 5 7 = true
  l : d.length ≤ 100
  g : yaD n es 0 d = 0 → lowF n d = true ∧ dg d ≤ most
theorem FewOk.el {n : Int} {es : List E3} {d : List Int} {most : Int} (h : FewOk n es d most) : es.length ≤ 40 := (of_decide_eq_true h.s).1
theorem gok_of {n : Int} {es : List E3} (hs : smallF n es 5 7 = true) (hg : yat n es = 0) (hc : yde n es = true) : GOk n.toNat es := by
  obtain ⟨h1, h2⟩ := of_decide_eq_true hs
  have h3 := h2 hg
  have hn : 1 ≤ n ∧ n ≤ 12 := by unfold yat at hg; split at hg; · assumption
                                 · omega
  have e : ((n.toNat : Nat) : Int) = n := by omega
  exact ⟨by rw [e]; exact hg, by rw [e]; exact hc, h1, by omega, by omega, by omega⟩
theorem FewOk.dok {n : Int} {es : List E3} {d : List Int} {most : Int} (h : FewOk n es d most) (hm : most ≤ 5) (hg : yaD n es 0 d = 0) : DOk n.toNat es d := by
  obtain ⟨h1, h2⟩ := h.g hg
  have h3 := yb7 hg
  have e : ((n.toNat : Nat) : Int) = n := by omega
  have h4 := ydT (n := n.toNat) (q := 0) (es := es) (d := d) (by rw [e]; exact hg)
  have h5 := (yeZ.1 h1).2 (by have := h4.2.2.2.2.2.2.2; rwa [e] at this)
  have h6 := h4.2.2.2.2.2.2.1
  exact ⟨gok_of h.s (by have := h4.2.2.2.1; rwa [e] at this) (by have := h4.2.2.2.2.1; rwa [e] at this), fun v hv => by have := h5 v (by omega); omega, by omega⟩
theorem p_r38_Few {n most : Int} {es : List E3} {d : List Int} {R : Bool → Prop} (h1 : FewOk n es d most → R true) (h2 : ¬ FewOk n es d most → R false) : yjx n es d most R := by
  unfold yjx
  refine ⟨smallF n es 5 7 = true ∧ d.length ≤ 100, fun ⟨hs, hl⟩ => ?_, p_r08_small ⟨fun hs => ⟨fun hl => h2 fun q => by have := q.l; omega, fun hl => ⟨hs, by omega⟩⟩, fun hs => h2 fun q => hs q.s⟩⟩
  have hel := (of_decide_eq_true hs).1
  refine p_r35_Given (by omega) ⟨fun hg => p_r34_Low ⟨fun hlo => yhn (by omega) (fun i hi => ?_) ?_, fun hlo => h2 fun q => hlo (q.g hg).1⟩, fun hg => h1 ⟨hs, hl, fun q => absurd q hg⟩⟩
  · have h3 := yb7 hg
    have e : ((n.toNat : Nat) : Int) = n := by omega
    have h4 := ydT (n := n.toNat) (q := 0) (es := es) (d := d) (by rw [e]; exact hg)
    have := (yeZ.1 hlo).2 (by have := h4.2.2.2.2.2.2.2; rwa [e] at this) i hi
    omega
  · by_cases q : dg d ≤ most
    · rw [decide_eq_true q]; exact h1 ⟨hs, hl, fun _ => ⟨hlo, q⟩⟩
    · rw [decide_eq_false q]; exact h2 fun f => q (f.g hg).2
end Go.Proofs.YtncilechkclmbaaGreat

/- The examples of the chapter on ranks come out right; what the law's small functions come to. -/
namespace Go.Proofs.YtncilechkclmbaaGreat
open Go Go.Proofs.Tryz
set_option linter.unusedVariables false
set_option linter.unusedSimpArgs false
def tri : List E3 := [(0, 1, 1), (0, 2, 1), (1, 2, 1)]
theorem ykj : GOk 3 tri := ⟨by decide, by decide, by decide, by decide, by decide, by decide⟩
end Go.Proofs.YtncilechkclmbaaGreat

/- A graph is looked through whatever its length: a right one has few edges. -/
namespace Go.Proofs.YtncilechkclmbaaGreat
open Go Go.Proofs.Tryz
set_option linter.unusedVariables false
set_option linter.unusedSimpArgs false
theorem p_r08_edge0 {n : Int} {es : List E3} {k : Nat} {R : Int → Prop} (hk : k < es.length) (hl : k ≤ 1000000000) (h : R (yfq n (pre es k).1 (pre es k).2 (ge es k))) : ycy n es (k : Int) R := by
  unfold ycy
  simp only [Int.toNat_natCast]
  generalize hx : ge es k = x at h ⊢
  refine ⟨by omega, (0 ≤ x.1 ∧ x.1 < n) ∧ (0 ≤ x.2.1 ∧ x.2.1 < n) ∧ 1 ≤ x.2.2 ∧ x.2.2 ≤ 50, fun hJ => ?_, ?_⟩
  · have hed : ∀ a b, yfq n a b x = if x.1 ≤ x.2.1 ∧ yiU a b x.1 x.2.1 < 0 then 0 else 9 := fun a b => by unfold yfq; rw [if_pos hJ]
    rw [hed] at h
    refine ⟨fun q => by rw [if_neg (by omega)] at h; exact h, fun q => ⟨fun h0 => ?_, fun h0 => ?_⟩⟩
    · have e1 : ((k : Int) - 1).toNat = k - 1 := by omega
      rw [e1]
      have hp : pre es k = ((ge es (k - 1)).1, (ge es (k - 1)).2.1) := by unfold pre; rw [if_neg (by omega)]
      rw [hp] at h
      have hc := yfo (ge es (k - 1)).1 (ge es (k - 1)).2.1 x.1 x.2.1
      refine ⟨i64 (by omega), by omega, fun q1 => ?_, fun q1 => ⟨fun q2 => ⟨fun q3 => ?_, fun q3 => ?_⟩, fun q2 => ?_⟩⟩
      · rw [if_neg (fun h => by have := hc.1 h.2; omega)] at h; exact h
      · rw [if_neg (fun h => by have := hc.1 h.2; omega)] at h; exact h
      · rw [if_pos ⟨by omega, hc.2 (by omega)⟩] at h; exact h
      · rw [if_pos ⟨by omega, hc.2 (by omega)⟩] at h; exact h
    · have hp : pre es k = (-1, -1) := by unfold pre; rw [if_pos (by omega)]
      rw [hp, if_pos ⟨by omega, (yfo _ _ _ _).2 (.inl (by omega))⟩] at h
      exact h
  · have hed : ¬ ((0 ≤ x.1 ∧ x.1 < n) ∧ (0 ≤ x.2.1 ∧ x.2.1 < n) ∧ 1 ≤ x.2.2 ∧ x.2.2 ≤ 50) → R 2 := fun q => by unfold yfq at h; rwa [if_neg q] at h
    refine ydE ⟨fun h1 => ydE ⟨fun h2 => ⟨fun h3 => hed (by omega), fun h3 => ⟨fun h4 => hed (by omega), fun h4 => ?_⟩⟩, fun h2 => hed (by simp at h2; omega)⟩, fun h1 => hed (by simp at h1; omega)⟩
    simp only [decide_eq_true_eq] at h1 h2
    exact ⟨h1, h2, by omega, by omega⟩
theorem gchk_few {n : Int} (hn : n ≤ 12) : ∀ {es : List E3} {a b : Int}, a ≤ 11 → b ≤ 11 → gchk n a b es = 0 → (es.length : Int) ≤ 143 - 12 * a - b ∨ es = []
  | [], _, _, _, _, _ => .inr rfl
  | x :: t, a, b, ha, hb, h => by
    unfold gchk at h
    split at h
    · rename_i c
      split at h
      · rename_i c2
        have h2 := (yfo _ _ _ _).1 c2.2
        rcases gchk_few hn (by omega) (by omega) h with q | q
        · left; rw [List.length_cons]; omega
        · subst q; left; simp; omega
      · omega
    · omega
theorem edges_few {n : Int} {es : List E3} (hg : yat n es = 0) : es.length ≤ 156 := by
  unfold yat at hg
  split at hg
  · rcases gchk_few (by omega) (by omega) (by omega) hg with q | q
    · omega
    · rw [q]; simp
  · omega
theorem p_r08_Check0 {n : Int} {es : List E3} {R : Int → Prop} (h : R (yat n es)) : ybO n es R := by
  unfold ybO
  have hout : ¬ (1 ≤ n ∧ n ≤ 12) → R 2 := fun q => by unfold yat at h; rwa [if_neg q] at h
  refine ⟨1 ≤ n ∧ n ≤ 12, fun hn => ?_, fun q => hout (by omega), fun q => ⟨fun q2 => hout (by omega), fun q2 => ⟨by omega, by omega⟩⟩⟩
  have hg : yat n es = gchk n (-1) (-1) es := by unfold yat; rw [if_pos hn]
  rw [hg] at h
  refine ⟨fun m i => ∃ k : Nat, i = (k : Int) ∧ k ≤ es.length ∧ m = es.length - k ∧ gchk n (-1) (-1) es = gchk n (pre es k).1 (pre es k).2 (es.drop k) ∧ (k = 0 ∨ (0 ≤ (pre es k).1 ∧ (pre es k).1 < 12 ∧ 0 ≤ (pre es k).2 ∧ (pre es k).2 < 12 ∧ (k : Int) ≤ 12 * (pre es k).1 + (pre es k).2 + 1)), ⟨_, 0, rfl, by omega, rfl, rfl, .inl rfl⟩, ?_⟩
  rintro m _ ⟨k, rfl, hk, rfl, hinv, hfew⟩
  refine ⟨fun hlt => p_r08_edge0 (by omega) (by omega) ⟨fun h0 => ?_, fun h0 => ?_⟩, fun hge => ?_⟩
  · refine ⟨i64 (by omega), es.length - (k + 1), by omega, k + 1, rfl, by omega, rfl, ?_, .inr ?_⟩
    · rw [yfk (by omega), ydU, if_pos h0] at hinv
      rw [hinv]; simp [pre]
    · have hp : pre es (k + 1) = ((ge es k).1, (ge es k).2.1) := by simp [pre]
      rw [hp]
      unfold yfq at h0
      split at h0
      · rename_i c
        split at h0
        · rename_i c2
          have h2 := (yfo _ _ _ _).1 c2.2
          rcases hfew with q | q
          · subst q; simp only; omega
          · simp only; omega
        · omega
      · omega
  · rw [yfk (by omega), ydU, if_neg h0] at hinv
    rwa [hinv] at h
  · have hk2 : k = es.length := by omega
    rw [hinv, hk2, List.drop_length] at h
    exact h
theorem p_r25_Joined0 {n : Int} {es : List E3} {R : Int → Prop} (h : R (yb2 n es)) : ybD n es R := by
  unfold ybD
  unfold yb2 at h
  refine p_r08_Check0 ⟨fun h0 => ?_, fun h0 => by rwa [if_neg h0] at h⟩
  rw [if_pos h0] at h
  have hn : 1 ≤ n ∧ n ≤ 12 := by
    unfold yat at h0
    split at h0
    · assumption
    · omega
  obtain ⟨n, rfl⟩ : ∃ n' : Nat, n = (n' : Int) := ⟨n.toNat, by omega⟩
  have := edges_few h0
  exact yey (by omega) h0 ⟨fun h1 => by rwa [if_pos h1] at h, fun h1 => by rwa [if_neg h1] at h⟩
end Go.Proofs.YtncilechkclmbaaGreat
