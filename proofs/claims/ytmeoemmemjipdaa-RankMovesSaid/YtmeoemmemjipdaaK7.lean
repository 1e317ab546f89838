/- Texts laid together: RkM, RkF, RkG, RkW, RkR, L38, Lr38, RkV, Big, Lw36, Lw36b, Lr38b. -/
import Derived.Test.YtmeoemmemjipdaaK6
/- Ranks of divisors, plainly: what takes any effective divisor of a degree away. No program in sight. -/
namespace Go.Proofs.Ytmeoemmemjipdaa
open Go Go.Proofs.Try
set_option linter.unusedVariables false
set_option linter.unusedSectionVars false
set_option linter.unusedSimpArgs false
theorem dg_n {d : List Int} {n : Nat} (h : d.length = n) : dg d = sm n (gi d) := by unfold dg; rw [h]
theorem yf1 {n : Nat} {es : List E3} {a b : List Int} (h : ∀ v, v < n → gi a v ≤ gi b v) (ha : Win n es a) : Win n es b := by
  obtain ⟨s, hs⟩ := ha
  exact ⟨s, fun v hv => by have := hs v hv; have := h v hv; omega⟩
theorem win_eqv {n : Nat} {es : List E3} {x y : List Int} {s : Nat → Int} (h : ∀ v, v < n → gi y v = gi x v - Lp n es s v) : Win n es x ↔ Win n es y := by
  constructor
  · rintro ⟨t, ht⟩
    refine ⟨fun i => t i + (-1) * s i, fun v hv => ?_⟩
    rw [ygt t (fun i => (-1) * s i), yhy, h v hv]
    have := ht v hv
    omega
  · rintro ⟨t, ht⟩
    refine ⟨fun i => t i + s i, fun v hv => ?_⟩
    rw [ygt t s]
    have := ht v hv
    rw [h v hv] at this
    omega
def half (n : Nat) (es : List E3) (r : Nat → Nat → Bool) : Int := sm n (fun v => sm n (fun u => if r u v = true then W es v u else 0))
theorem half_swap {n : Nat} {es : List E3} {r : Nat → Nat → Bool} : half n es r = half n es (fun u v => r v u) := by
  unfold half
  rw [sm_swap (fun v u => if r u v = true then W es v u else 0)]
  refine yat fun v hv => yat fun u hu => ?_
  show (if r v u = true then W es u v else 0) = if r v u = true then W es v u else 0
  rw [yd3]
theorem half_le {n : Nat} {es : List E3} (hE : EOk n es) {r : Nat → Nat → Bool} (h : ∀ u v, r u v = true → r v u = true → False) : 2 * half n es r ≤ tot n es := by
  have h1 : half n es r + half n es r ≤ tot n es := by
    conv => lhs; arg 2; rw [half_swap]
    unfold half tot
    rw [← ybH]
    refine ycC fun v hv => ?_
    show _ + _ ≤ _
    rw [← ybH]
    refine ycC fun u hu => ?_
    show (if r u v = true then W es v u else 0) + (if r v u = true then W es v u else 0) ≤ W es v u
    have := yaW hE v u
    by_cases e1 : r u v = true
    · rw [if_pos e1, if_neg (fun e2 => h u v e1 e2)]; omega
    · rw [if_neg e1]; split <;> omega
  omega
theorem half_ge {n : Nat} {es : List E3} (hE : EOk n es) {r : Nat → Nat → Bool} (h : ∀ u v, u ≠ v → r u v = true ∨ r v u = true) : tot n es ≤ 2 * half n es r := by
  have h1 : tot n es ≤ half n es r + half n es r := by
    conv => rhs; arg 2; rw [half_swap]
    unfold half tot
    rw [← ybH]
    refine ycC fun v hv => ?_
    show _ ≤ _ + _
    rw [← ybH]
    refine ycC fun u hu => ?_
    show W es v u ≤ (if r u v = true then W es v u else 0) + (if r v u = true then W es v u else 0)
    have := yaW hE v u
    by_cases e : u = v
    · subst e; rw [yfW]; split <;> omega
    · rcases h u v e with q | q
      · rw [if_pos q]; split <;> omega
      · rw [if_pos q]; split <;> omega
  omega
def ords (n : Nat) (es : List E3) (b : List Bool) (ρ : Nat → Nat) (v : Nat) : Int := sm n (fun u => if gb b u = true ∧ ¬ ρ u < ρ v then 0 else W es v u)
theorem bor_all {n : Nat} {es : List E3} {d : List Int} (hg : yar n es = 0) (hE : EOk n es) (hC : ∀ q, q < n → Conn n es q) (hn : n ≤ 12) (hdb : ∀ v, v < n → -1000 ≤ gi d v) (hw : ¬ Win n es d) :
    ∀ (N : Nat) (c : Nat → Int) (x : List Int) (b : List Bool) (ρ : Nat → Nat) (K : Nat), 3456001 - sm n c ≤ N → Bor n es d c x b → (∀ u, u < n → ρ u < K) → (∀ v, v < n → gb b v = true → gi x v ≤ ords n es b ρ v - 1) →
      ∃ c x b ρ, Bor n es d c x b ∧ (∀ v, v < n → gb b v = true) ∧ ∀ v, v < n → gi x v ≤ ords n es b ρ v - 1 := by
  intro N
  induction N with
  | zero =>
    intro c x b ρ K hN hB hρ hx
    by_cases hall : ∀ v, v < n → gb b v = true
    · exact ⟨c, x, b, ρ, hB, hall, fun v hv => hx v hv (hall v hv)⟩
    · exfalso
      obtain ⟨w, hw1⟩ := Classical.not_forall.1 hall
      obtain ⟨hw2, hw3⟩ := Classical.not_imp.1 hw1
      have := bor_total hn (bor_few hE hC hn hdb hB hw2 hw3)
      omega
  | succ N ih =>
    intro c x b ρ K hN hB hρ hx
    by_cases hall : ∀ v, v < n → gb b v = true
    · exact ⟨c, x, b, ρ, hB, hall, fun v hv => hx v hv (hall v hv)⟩
    · have hdebt : ¬ ∀ v, v < n → 0 ≤ gi x v := fun q => hw (bor_win hB q)
      obtain ⟨v, hv1⟩ := Classical.not_forall.1 hdebt
      obtain ⟨hv, hv3⟩ := Classical.not_imp.1 hv1
      have hneg : gi x v < 0 := by omega
      have hy : ∀ i, i < n → gi (tab (fun i => if i = v then gi x v + deg n es v else gi x i - W es i v) n) i = if i = v then gi x v + deg n es v else gi x i - W es i v := fun i hi => ydm _ hi
      have hB2 := bor_step hg hE hn hB hv hneg (ybB _ n) hy
      refine ih _ _ _ (fun u => if u = v then K else ρ u) (K + 1) (by rw [bor_count hv]; omega) hB2 (fun u hu => ?_) fun i hi hbi => ?_
      · show (if u = v then K else ρ u) < K + 1
        have := hρ u hu
        split <;> omega
      · rw [hy i hi]
        have hgb : ∀ u, gb (b.set v true) u = if u = v then true else gb b u := fun u => by
          rw [ydx (by rw [hB.bl]; exact hv)]
        by_cases e : i = v
        · subst e
          rw [if_pos rfl]
          have h1 : ords n es (b.set i true) (fun u => if u = i then K else ρ u) i = deg n es i := by
            unfold ords deg
            refine yat fun u hu => ?_
            show (if gb (b.set i true) u = true ∧ ¬ (if u = i then K else ρ u) < (if i = i then K else ρ i) then 0 else W es i u) = W es i u
            by_cases e : u = i
            · subst e; rw [yfW]; exact ite_self _
            · rw [if_neg]
              rintro ⟨_, h⟩
              rw [if_neg e, if_pos rfl] at h
              exact h (hρ u hu)
          rw [h1]; omega
        · rw [if_neg e]
          rw [hgb, if_neg e] at hbi
          have h0 := hx i hi hbi
          have h1 : ords n es b ρ i ≤ ords n es (b.set v true) (fun u => if u = v then K else ρ u) i + W es i v := by
            have h2 : ords n es (b.set v true) (fun u => if u = v then K else ρ u) i + W es i v = sm n (fun u => (if gb (b.set v true) u = true ∧ ¬ (if u = v then K else ρ u) < (if i = v then K else ρ i) then 0 else W es i u) + if u = v then W es i v else 0) := by
              rw [ybH, ydi _ hv]; rfl
            rw [h2]
            unfold ords
            refine ycC fun u hu => ?_
            show (if gb b u = true ∧ ¬ ρ u < ρ i then 0 else W es i u) ≤ (if gb (b.set v true) u = true ∧ ¬ (if u = v then K else ρ u) < (if i = v then K else ρ i) then 0 else W es i u) + if u = v then W es i v else 0
            rw [hgb, if_neg e]
            have := yaW hE i u
            by_cases e2 : u = v
            · subst e2
              rw [if_pos rfl, if_pos rfl, if_pos rfl]
              split <;> split <;> omega
            · rw [if_neg e2, if_neg e2, if_neg e2]; omega
          omega
theorem win_many {n : Nat} {es : List E3} {d : List Int} (hg : yar n es = 0) (hC : ∀ q, q < n → Conn n es q) (hn : n ≤ 12) (hd : d.length = n) (hdb : ∀ v, v < n → -1000 ≤ gi d v ∧ gi d v ≤ 1000) (h : yck es + 1 - n ≤ dg d) : Win n es d := by
  apply Classical.byContradiction
  intro hw
  have hE := (yaV hg).1
  obtain ⟨c, x, b, ρ, hB, hall, hx⟩ := bor_all hg hE hC hn (fun v hv => (hdb v hv).1) hw 3456001 (fun _ => 0) d (List.replicate n false) (fun _ => 0) 1 (by rw [ybh]; omega) (bor_start hd fun v hv => (hdb v hv).2) (fun _ _ => by omega) (fun v hv h => by rw [gb_rep] at h; cases h)
  have h1 : dg x = dg d := dg_lp (n := n) (es := es) hB.xl hd (s := fun i => (-1) * c i) fun v hv => by rw [yhy, hB.val v hv]; omega
  have h2 : dg x ≤ half n es (fun u v => decide (ρ u < ρ v)) - n := by
    rw [dg_n hB.xl]
    have h3 : half n es (fun u v => decide (ρ u < ρ v)) - n = sm n (fun v => ords n es b ρ v - 1) := by
      rw [yeR, yc9]
      have : half n es (fun u v => decide (ρ u < ρ v)) = sm n (fun v => ords n es b ρ v) := by
        unfold half ords
        refine yat fun v hv => yat fun u hu => ?_
        show (if decide (ρ u < ρ v) = true then W es v u else 0) = if gb b u = true ∧ ¬ ρ u < ρ v then 0 else W es v u
        by_cases e : ρ u < ρ v
        · rw [if_pos (by simpa using e), if_neg (fun q => q.2 e)]
        · rw [if_neg (by simpa using e), if_pos ⟨hall u hu, e⟩]
      have e9 : sm n (ords n es b ρ) = sm n (fun v => ords n es b ρ v) := rfl
      rw [this, e9]; omega
    rw [h3]
    exact ycC hx
  have h4 := half_le hE (r := fun u v => decide (ρ u < ρ v)) (fun u v a b => by simp at a b; omega)
  rw [yfT hE] at h4
  omega
def nu (n : Nat) (es : List E3) : List Int := tab (fun v => sm n (fun u => if decide (u < v) = true then W es v u else 0) - 1) n
theorem nu_dg {n : Nat} {es : List E3} (hE : EOk n es) : dg (nu n es) = yck es - n := by
  have h1 : dg (nu n es) = half n es (fun u v => decide (u < v)) - n := by
    rw [dg_n (show (nu n es).length = n from ybB _ n)]
    have : sm n (gi (nu n es)) = sm n (fun v => sm n (fun u => if decide (u < v) = true then W es v u else 0) - 1) := yat fun v hv => ydm _ hv
    rw [this, yeR, yc9]
    show _ - _ = half n es (fun u v => decide (u < v)) - n
    have e9 : half n es (fun u v => decide (u < v)) = sm n (fun v => sm n (fun u => if decide (u < v) = true then W es v u else 0)) := rfl
    rw [e9]; omega
  have h2 := half_le hE (r := fun u v => decide (u < v)) (fun u v a b => by simp at a b; omega)
  have h3 := half_ge hE (r := fun u v => decide (u < v)) (fun u v h => by simp; omega)
  rw [yfT hE] at h2 h3
  omega
theorem least_at (p : Nat → Prop) {n : Nat} (h : ∃ v, v < n ∧ p v) : ∃ v, v < n ∧ p v ∧ ∀ u, u < v → ¬ p u := by
  obtain ⟨v, hv, hp⟩ := h
  have : ∀ v, v < n → p v → ∃ v, v < n ∧ p v ∧ ∀ u, u < v → ¬ p u := by
    intro v
    induction v using Nat.strongRecOn with
    | ind v ih =>
      intro hv hp
      by_cases q : ∃ u, u < v ∧ p u
      · obtain ⟨u, hu, hpu⟩ := q
        exact ih u hu (by omega) hpu
      · exact ⟨v, hv, hp, fun u hu hpu => q ⟨u, hu, hpu⟩⟩
  exact this v hv hp
theorem nu_lose {n : Nat} {es : List E3} (hE : EOk n es) (hn : 1 ≤ n) : ¬ Win n es (nu n es) := by
  rintro ⟨s, hs⟩
  obtain ⟨w, hw, hmax⟩ := max_at s n hn
  obtain ⟨v, hv, hp, hlow⟩ := least_at (fun v => s v = s w) (n := n) ⟨w, hw, rfl⟩
  have h1 := hs v hv
  have h2 : sm n (fun u => if decide (u < v) = true then W es v u else 0) ≤ Lp n es s v := by
    unfold Lp
    refine ycC fun u hu => ?_
    show (if decide (u < v) = true then W es v u else 0) ≤ W es v u * (s v - s u)
    have h3 := yaW hE v u
    have h4 := hmax u hu
    by_cases e : u < v
    · rw [if_pos (by simpa using e)]
      have h5 : s u ≠ s w := hlow u e
      have h6 : W es v u * 1 ≤ W es v u * (s v - s u) := Int.mul_le_mul_of_nonneg_left (by omega) h3
      omega
    · rw [if_neg (by simpa using e)]
      exact Int.mul_nonneg h3 (by omega)
  have h3 : gi (nu n es) v = sm n (fun u => if decide (u < v) = true then W es v u else 0) - 1 := ydm _ hv
  omega
theorem nu_bound {n : Nat} {es : List E3} (hE : EOk n es) {T : Int} (ht : tot n es ≤ T) {v : Nat} (hv : v < n) : -1 ≤ gi (nu n es) v ∧ gi (nu n es) v ≤ T := by
  have h3 : gi (nu n es) v = sm n (fun u => if decide (u < v) = true then W es v u else 0) - 1 := ydm _ hv
  have h4 : 0 ≤ sm n (fun u => if decide (u < v) = true then W es v u else 0) := yaR fun u _ => by
    have := yaW hE v u
    show 0 ≤ if decide (u < v) = true then W es v u else 0
    split <;> omega
  have h5 : sm n (fun u => if decide (u < v) = true then W es v u else 0) ≤ deg n es v := ycC fun u _ => by
    have := yaW hE v u
    show (if decide (u < v) = true then W es v u else 0) ≤ W es v u
    split <;> omega
  have h6 : deg n es v ≤ tot n es := yhP (f := fun v => sm n (fun u => W es v u)) (fun i _ => yaR fun u _ => yaW hE i u) v hv
  omega
def sb (n : Nat) (d e : List Int) : List Int := tab (fun i => gi d i - gi e i) n
theorem ycT (n : Nat) (d e : List Int) : (sb n d e).length = n := ybB _ _
theorem yeM {n : Nat} {d e : List Int} {v : Nat} (hv : v < n) : gi (sb n d e) v = gi d v - gi e v := ydm _ hv
theorem dg_sb {n : Nat} {d e : List Int} (hd : d.length = n) (he : e.length = n) : dg (sb n d e) = dg d - dg e := by
  rw [dg_n (ycT n d e), dg_n hd, dg_n he, ← yeR]
  exact yat fun v hv => yeM hv
structure Eff (n : Nat) (e : List Int) (r : Int) : Prop where
  len : e.length = n
  pos : ∀ v, v < n → 0 ≤ gi e v
  deg : dg e = r
theorem Eff.nonneg {n : Nat} {e : List Int} {r : Int} (h : Eff n e r) : 0 ≤ r := by
  rw [← h.deg, dg_n h.len]; exact yaR h.pos
theorem Eff.le {n : Nat} {e : List Int} {r : Int} (h : Eff n e r) {v : Nat} (hv : v < n) : gi e v ≤ r := by
  rw [← h.deg, dg_n h.len]; exact yhP h.pos v hv
theorem Eff.add {n : Nat} {e : List Int} {r : Int} (h : Eff n e r) {v : Nat} (hv : v < n) {k : Int} (hk : 0 ≤ gi e v + k) : Eff n (yee e v k) (r + k) :=
  ⟨by rw [yd4, h.len], fun i hi => by
    rw [ydy (by rw [h.len]; exact hv)]
    have := h.pos i hi
    split <;> omega, by rw [dg_addAt (by rw [h.len]; exact hv), h.deg]⟩
theorem ygY (n : Nat) : Eff n (List.replicate n 0) 0 :=
  ⟨by simp, fun v hv => by rw [ya0 (by simpa using hv)]; simp, by
    rw [dg_n (n := n) (by simp), yat (g := fun _ => 0) fun v hv => by rw [ya0 (by simpa using hv)]; simp]
    exact ybh n⟩
theorem eff_at {n : Nat} (hn : 1 ≤ n) {k : Int} (hk : 0 ≤ k) : Eff n (yee (List.replicate n 0) 0 k) k := by
  have h := (ygY n).add (v := 0) (by omega) (k := k) (by have := (ygY n).pos 0 (by omega); omega)
  rwa [Int.zero_add] at h
theorem yhQ {n v : Nat} (hv : v < n) : gi (List.replicate n 0) v = 0 := by rw [ya0 (by simpa using hv)]; simp
def AL (n : Nat) (es : List E3) (d : List Int) (r : Int) : Prop := ∀ e, Eff n e r → Win n es (sb n d e)
structure RkOk (n : Nat) (es : List E3) (d : List Int) (k : Int) : Prop where
  lo : -1 ≤ k
  al : AL n es d k
  no : ¬ AL n es d (k + 1)
section
variable {n : Nat} {es : List E3} {d : List Int}
theorem al_neg {r : Int} (hr : r < 0) : AL n es d r := fun e he => by have := he.nonneg; omega
theorem al_down (hn : 1 ≤ n) {r : Int} (h : AL n es d (r + 1)) : AL n es d r := fun e he => by
  have h1 := h _ (he.add (v := 0) (k := 1) (by omega) (by have := he.pos 0 (by omega); omega))
  refine yf1 (fun v hv => ?_) h1
  rw [yeM hv, yeM hv, ydy (by rw [he.len]; omega)]
  split
  · rename_i e; subst e; omega
  · omega
theorem al_le (hn : 1 ≤ n) : ∀ (k : Nat) {r : Int}, AL n es d (r + k) → AL n es d r
  | 0, r, h => by simpa using h
  | k + 1, r, h => al_le hn k (al_down hn (by rw [Int.add_assoc]; exact_mod_cast h))
theorem yf4 (hn : 1 ≤ n) {r r' : Int} (h : r ≤ r') (ha : AL n es d r') : AL n es d r := by
  refine al_le hn (r' - r).toNat ?_
  rwa [show r + ((r' - r).toNat : Int) = r' from by omega]
theorem RkOk.eq (hn : 1 ≤ n) {k k' : Int} (h : RkOk n es d k) (h' : RkOk n es d k') : k = k' := by
  rcases Int.lt_trichotomy k k' with q | q | q
  · exact absurd (yf4 hn (by omega) h'.al) h.no
  · exact q
  · exact absurd (yf4 hn (by omega) h.al) h'.no
theorem RkOk.ge (hn : 1 ≤ n) {k r : Int} (h : RkOk n es d k) : r ≤ k ↔ AL n es d r :=
  ⟨fun q => yf4 hn q h.al, fun q => Int.not_lt.1 fun lt => h.no (yf4 hn (by omega) q)⟩
theorem sb_zero {v : Nat} (hv : v < n) : gi (sb n d (List.replicate n 0)) v = gi d v := by rw [yeM hv, yhQ hv]; omega
theorem al_zero : AL n es d 0 ↔ Win n es d := by
  constructor
  · intro h; exact yf1 (fun v hv => by rw [sb_zero hv]; exact Int.le_refl _) (h _ (ygY n))
  · intro h e he
    refine yf1 (fun v hv => ?_) h
    have h1 := he.pos v hv
    have h2 := he.le hv
    rw [yeM hv]; omega
theorem rk_lose (h : ¬ Win n es d) : RkOk n es d (-1) := ⟨by omega, al_neg (by omega), fun q => h (al_zero.1 q)⟩
theorem RkOk.win (hn : 1 ≤ n) {k : Int} (h : RkOk n es d k) : 0 ≤ k ↔ Win n es d := (h.ge hn).trans al_zero
theorem RkOk.top (hn : 1 ≤ n) (hd : d.length = n) {k : Int} (h : RkOk n es d k) (hw : Win n es d) : k ≤ dg d := by
  have h0 := (h.win hn).2 hw
  have h1 := win_dg (ycT n d _) (h.al _ (eff_at hn h0))
  rw [dg_sb hd (eff_at hn h0).len, (eff_at hn h0).deg] at h1
  omega
theorem al_eqv {x y : List Int} {s : Nat → Int} (h : ∀ v, v < n → gi y v = gi x v - Lp n es s v) {r : Int} : AL n es x r ↔ AL n es y r := by
  have key : ∀ e, Win n es (sb n x e) ↔ Win n es (sb n y e) := fun e => win_eqv (s := s) fun v hv => by rw [yeM hv, yeM hv, h v hv]; omega
  exact ⟨fun q e he => (key e).1 (q e he), fun q e he => (key e).2 (q e he)⟩
theorem rk_eqv {x y : List Int} {s : Nat → Int} (h : ∀ v, v < n → gi y v = gi x v - Lp n es s v) {k : Int} : RkOk n es x k ↔ RkOk n es y k :=
  ⟨fun q => ⟨q.lo, (al_eqv h).1 q.al, fun a => q.no ((al_eqv h).2 a)⟩, fun q => ⟨q.lo, (al_eqv h).2 q.al, fun a => q.no ((al_eqv h).1 a)⟩⟩
theorem rk_big (hg : yar n es = 0) (hC : ∀ q, q < n → Conn n es q) (h1 : 1 ≤ n) (hn : n ≤ 12) (hd : d.length = n) (hdb : ∀ v, v < n → -200 ≤ gi d v ∧ gi d v ≤ 200) (hdg : dg d ≤ 200) (ht : tot n es ≤ 18) (h : 2 * (yck es + 1 - n) - 2 < dg d) :
    RkOk n es d (dg d - (yck es + 1 - n)) := by
  have hE := (yaV hg).1
  have hg0 : 0 ≤ yck es + 1 - n := by
    apply Classical.byContradiction
    intro q
    have hl : (yee (List.replicate n (0 : Int)) 0 (-1)).length = n := by rw [yd4]; simp
    have hdg1 : dg (yee (List.replicate n (0 : Int)) 0 (-1)) = -1 := by rw [dg_addAt (by simp; omega), (ygY n).deg]; rfl
    have hw := win_many hg hC hn hl (fun v hv => by
      rw [ydy (by simp; omega), yhQ hv, yhQ (by omega)]
      split <;> omega) (by rw [hdg1]; omega)
    have := win_dg hl hw
    omega
  refine ⟨by omega, fun e he => ?_, fun hal => ?_⟩
  · refine win_many hg hC hn (ycT n d e) (fun v hv => ?_) ?_
    · rw [yeM hv]
      have := he.pos v hv
      have := he.le hv
      have := hdb v hv
      omega
    · rw [dg_sb hd he.len, he.deg]; omega
  · have hnl : (nu n es).length = n := ybB _ n
    have h2 : Win n es (sb n d (nu n es)) := by
      refine win_many hg hC hn (ycT n d _) (fun v hv => ?_) ?_
      · rw [yeM hv]
        have := nu_bound hE ht hv
        have := hdb v hv
        omega
      · rw [dg_sb hd hnl, nu_dg hE]; omega
    obtain ⟨s, hs⟩ := h2
    obtain ⟨e, he⟩ : ∃ e, e = tab (fun v => gi (sb n d (nu n es)) v - Lp n es s v) n := ⟨_, rfl⟩
    have hge : ∀ v, v < n → gi e v = gi (sb n d (nu n es)) v - Lp n es s v := fun v hv => by rw [he]; exact ydm _ hv
    have hel : e.length = n := by rw [he]; exact ybB _ n
    have heff : Eff n e (dg d - (yck es + 1 - n) + 1) := ⟨hel, fun v hv => by rw [hge v hv]; exact hs v hv, by
      rw [dg_lp hel (ycT n d _) hge, dg_sb hd hnl, nu_dg hE]; omega⟩
    have h3 := hal e heff
    refine nu_lose hE h1 ((win_eqv (x := nu n es) (y := sb n d e) (s := fun i => (-1) * s i) fun v hv => ?_).2 h3)
    rw [yhy, yeM hv, hge v hv, yeM hv]
    omega
theorem rk_step (hn : 1 ≤ n) (hd : d.length = n) (hw : Win n es d) {k : Nat → Int} (hk : ∀ v, v < n → RkOk n es (yee d v (-1)) (k v)) {m : Int} (h1 : ∀ v, v < n → m ≤ k v + 1) (h2 : ∃ v, v < n ∧ m = k v + 1) : RkOk n es d m := by
  obtain ⟨v, hv, hm⟩ := h2
  refine ⟨by have := (hk v hv).lo; omega, fun e he => ?_, fun q => ?_⟩
  · by_cases e0 : m = 0
    · subst e0; exact al_zero.2 hw e he
    · have hpos : ∃ u, u < n ∧ 1 ≤ gi e u := by
        apply Classical.byContradiction
        intro q
        have : dg e ≤ 0 := by
          rw [dg_n he.len, ← ybh n]
          exact ycC fun u hu => Int.not_lt.1 fun lt => q ⟨u, hu, lt⟩
        have := he.nonneg
        have := he.deg
        omega
      obtain ⟨u, hu, hu1⟩ := hpos
      have h3 := yf4 hn (r := m - 1) (by have := h1 u hu; omega) (hk u hu).al (yee e u (-1)) (by have := he.add hu (k := -1) (by omega); exact this)
      refine yf1 (fun i hi => ?_) h3
      rw [yeM hi, yeM hi, ydy (by rw [hd]; exact hu), ydy (by rw [he.len]; exact hu)]
      split
      · rename_i e; subst e; omega
      · omega
  · refine (hk v hv).no fun e he => ?_
    have h3 := q (yee e v 1) (by have := he.add hv (k := 1) (by have := he.pos v hv; omega); rwa [show k v + 1 + 1 = m + 1 from by omega] at this)
    refine yf1 (fun i hi => ?_) h3
    rw [yeM hi, yeM hi, ydy (d := e) (by rw [he.len]; exact hv), ydy (d := d) (by rw [hd]; exact hv)]
    split
    · rename_i e; subst e; omega
    · omega
end
end Go.Proofs.Ytmeoemmemjipdaa

/- What the finder of ranks comes to. -/
namespace Go.Proofs.Ytmeoemmemjipdaa
open Go Go.Proofs.Try
set_option linter.unusedVariables false
set_option linter.unusedSimpArgs false
theorem yfl {n : Nat} {d : List Int} {R : Int → Int → Prop} (hn : 1 ≤ n ∧ n ≤ 12) (hd : d.length = n) (hb : ∀ j, j < n → -1000000 ≤ gi d j ∧ gi d j ≤ 1000000) (h : R (dg d) 0) : ybx d R := by
  unfold ybx
  refine yiT (n := n) (by simp) (by simp) (fun k hk => ?_) ⟨fun _ => ?_, fun q => absurd rfl q⟩
  · have e : k = 0 := by simp at hk; omega
    subst e
    exact ⟨hd, yef hd hn.1 hn.2 fun j hj => by have := hb j hj; show -1048576 ≤ gi d j ∧ gi d j ≤ 1048576; omega⟩
  refine ⟨fun m s v => Cnt d.length (fun k => s = sm k (gi d)) m v, Cnt.start rfl, ?_⟩
  rintro m _ _ ⟨k, rfl, rfl, hk, rfl⟩
  simp only [Int.toNat_natCast]
  refine ⟨fun hlt => ⟨by omega, ?_, ?_⟩, fun hge => ?_⟩
  · have h1 := yd0 (f := gi d) (B := 1000000) (by omega) (n := k) (fun i hi => hb i (by omega))
    have h2 := hb k (by omega)
    exact i64 (by omega)
  · exact Cnt.next (by omega) (by omega) rfl
  · have e : k = d.length := by omega
    subst e; exact h
def errL (n : Int) : List (List Int) → Int
  | [] => 0
  | d :: t => if yaD d n = 0 then errL n t else yaD d n
theorem yjl {d : List Int} {t : List (List Int)} {k : Nat} : gx (d :: t) (k + 1) = gx t k := by simp [gx]
theorem yjo {d : List Int} {t : List (List Int)} : gx (d :: t) 0 = d := by simp [gx]
theorem errL_zero {n : Int} : ∀ {l : List (List Int)}, (∀ j, j < l.length → yaD (gx l j) n = 0) → errL n l = 0
  | [], _ => rfl
  | d :: t, h => by
    have h0 := h 0 (by simp)
    rw [yjo] at h0
    unfold errL
    rw [if_pos h0]
    exact errL_zero fun j hj => by have := h (j + 1) (by simpa using hj); rwa [yjl] at this
theorem errL_at {n : Int} : ∀ {l : List (List Int)} {k : Nat}, k < l.length → (∀ j, j < k → yaD (gx l j) n = 0) → yaD (gx l k) n ≠ 0 → errL n l = yaD (gx l k) n
  | [], k, hk, _, _ => by simp at hk
  | d :: t, 0, hk, h, hn => by
    rw [yjo] at hn ⊢
    unfold errL
    rw [if_neg hn]
  | d :: t, k + 1, hk, h, hn => by
    have h0 := h 0 (by omega)
    rw [yjo] at h0
    rw [yjl] at hn ⊢
    unfold errL
    rw [if_pos h0]
    exact errL_at (by simpa using hk) (fun j hj => by have := h (j + 1) (by omega); rwa [yjl] at this) hn
def givL (n : Int) (es : List E3) (l : List (List Int)) : Int := if ybN n es = 0 then errL n l else ybN n es
theorem yjj {n : Int} {es : List E3} {d : List Int} : givL n es [d] = yaL n es 0 d := by
  rw [given0]
  unfold givL errL errL
  by_cases e : yaD d n = 0 <;> simp [e]
theorem ygz {n : Int} {es : List E3} {l : List (List Int)} {R : Int → Prop} (hl : es.length ≤ 1000) (hll : l.length ≤ 1000) (h : R (givL n es l)) : ycf n es l R := by
  unfold ycf
  refine ⟨by omega, fun hg => ⟨fun hc => ?_, fun hc => ?_⟩, fun hg => ?_⟩
  · have hj : ybN n es = 0 := by
      have := of_decide_eq_true hc
      unfold ybN; rw [if_pos this.1, if_pos this.2]
    have e : givL n es l = errL n l := by unfold givL; rw [if_pos hj]
    rw [e] at h
    refine ⟨Cnt l.length (fun k => ∀ j, j < k → yaD (gx l j) n = 0), Cnt.start (fun j hj => absurd hj (by omega)), ?_⟩
    rintro m _ ⟨k, rfl, rfl, hk, hinv⟩
    simp only [Int.toNat_natCast]
    refine ⟨fun hlt => ⟨by omega, yeG ⟨fun h0 => Cnt.next (by omega) (by omega) fun j hj => ?_, fun hne => ?_⟩⟩, fun hge => ?_⟩
    · by_cases e : j = k
      · rw [e]; exact h0
      · exact hinv j (by omega)
    · rw [errL_at (by omega) hinv hne] at h; exact h
    · have e : k = l.length := by omega
      rw [errL_zero (by rw [← e]; exact hinv)] at h; exact h
  · have hj : ybN n es = 13 := by
      unfold ybN; rw [if_pos hg, if_neg]
      intro q; exact hc (decide_eq_true ⟨hg, q⟩)
    have e : givL n es l = 13 := by unfold givL; rw [if_neg (by omega), hj]
    rw [e] at h; exact h
  · have hj : ybN n es = yar n es := by unfold ybN; rw [if_neg hg]
    have e : givL n es l = yar n es := by unfold givL; rw [if_neg (by omega), hj]
    rw [e] at h; exact h
def keyF (r : List Int) : List Int := cpy (List.replicate 12 (0 : Int)) r
theorem yfu (r : List Int) : (keyF r).length = 12 := by unfold keyF; rw [cpy_length]; simp
theorem gi_keyF {r : List Int} {i : Nat} (hi : i < 12) : gi (keyF r) i = if i < r.length then gi r i else 0 := by
  unfold keyF
  rw [gi_cpy (by simpa using hi), yhQ hi]
theorem keyF_inj {n : Nat} {r r' : List Int} (hn : n ≤ 12) (h : r.length = n) (h' : r'.length = n) (e : keyF r = keyF r') : r = r' := by
  refine ydU (by omega) fun k hk => ?_
  have h1 := gi_keyF (r := r) (i := k) (by omega)
  have h2 := gi_keyF (r := r') (i := k) (by omega)
  rw [if_pos (by omega)] at h1 h2
  rw [← h1, ← h2, e]
structure MOk (n : Nat) (es : List E3) (m : List (List Int × Int)) : Prop where
  keys : KOk 12 m
  vals : ∀ p ∈ m, ∃ r, p.1 = keyF r ∧ Eff n r (dg r) ∧ dg r ≤ 5 ∧ RkOk n es r p.2
theorem MOk.nil (n : Nat) (es : List E3) : MOk n es [] := ⟨KOk.nil 12, fun p hp => by simp at hp⟩
theorem keyF_ok {n : Nat} {r : List Int} (hr : Eff n r (dg r)) (h5 : dg r ≤ 5) : yg8 12 (keyF r) := by
  refine ⟨yfu r, fun x hx => ?_⟩
  obtain ⟨i, hi, rfl⟩ := List.getElem_of_mem hx
  rw [yfu] at hi
  rw [← ya0 (by rw [yfu]; exact hi), gi_keyF hi]
  split
  · have hi2 : i < n := by rw [← hr.len]; assumption
    have := hr.pos i hi2
    have := hr.le hi2
    exact i64 (by omega)
  · exact i64 (by omega)
theorem MOk.put {n : Nat} {es : List E3} {m : List (List Int × Int)} (h : MOk n es m) {r : List Int} {v : Int} (hr : Eff n r (dg r)) (h5 : dg r ≤ 5) (hk : RkOk n es r v) : MOk n es (mput m (keyF r) v) := by
  have hK := h.keys.put (keyF_ok hr h5) v
  refine ⟨hK, fun p hp => ?_⟩
  rcases mput_mem hp with e | e
  · obtain ⟨j, hj⟩ := List.mem_iff_getElem?.1 hp
    have h1 := mget_at hK.1 (k := p.1) (v := p.2) hj
    rw [e, mget_put, if_pos rfl] at h1
    cases h1
    exact ⟨r, e, hr, h5, hk⟩
  · exact h.vals p e
theorem MOk.get {n : Nat} {es : List E3} {m : List (List Int × Int)} (h : MOk n es m) (hn : n ≤ 12) {r : List Int} {v : Int} (hr : r.length = n) (hg : mget m (keyF r) = some v) : RkOk n es r v := by
  obtain ⟨r', h1, h2, h3, h4⟩ := h.vals _ (mget_mem hg)
  have e := keyF_inj hn hr h2.len h1
  subst e; exact h4
theorem nodup_le : ∀ {l K : List (List Int)}, l.Nodup → (∀ x ∈ l, x ∈ K) → l.length ≤ K.length
  | [], K, _, _ => Nat.zero_le _
  | a :: t, K, h, hs => by
    have h1 := List.nodup_cons.1 h
    have ha : a ∈ K := hs a (by simp)
    have h2 := nodup_le (l := t) (K := K.erase a) h1.2 fun x hx => (List.mem_erase_of_ne (by rintro rfl; exact h1.1 hx)).2 (hs x (by simp [hx]))
    rw [List.length_erase_of_mem ha] at h2
    have : 0 < K.length := List.length_pos_of_mem ha
    simp only [List.length_cons]
    omega
theorem flat_le {f : Nat → List (List Int)} {B : Nat} : ∀ {l : List Nat}, (∀ a ∈ l, (f a).length ≤ B) → (l.flatMap f).length ≤ l.length * B
  | [], _ => by simp
  | a :: t, h => by
    rw [List.flatMap_cons, List.length_append, List.length_cons, Nat.add_mul, Nat.one_mul]
    have := h a (by simp)
    have := flat_le (f := f) (l := t) fun b hb => h b (by simp [hb])
    omega
theorem eff_list {n k : Nat} {e : List Int} (h : Eff (n + 1) e (k : Int)) : e ∈ ycH (n + 1) k := by
  refine (yep n k e).2 ⟨h.len, fun a ha => ?_, by rw [sum_dg, h.deg]⟩
  obtain ⟨i, hi, rfl⟩ := List.getElem_of_mem ha
  rw [← ya0 hi]
  exact h.pos i (by rw [← h.len]; exact hi)
theorem yiC {n k : Nat} {e : List Int} (h : e ∈ ycH (n + 1) k) : Eff (n + 1) e (k : Int) := by
  obtain ⟨h1, h2, h3⟩ := (yep n k e).1 h
  exact ⟨h1, fun v hv => (dg_entry h2 (by omega)).1, by rw [← sum_dg, h3]⟩
theorem MOk.len {n : Nat} {es : List E3} {m : List (List Int × Int)} (h : MOk n es m) (h1 : 1 ≤ n) (hn : n ≤ 5) : m.length ≤ 7776 := by
  obtain ⟨n, rfl⟩ : ∃ k, n = k + 1 := ⟨n - 1, by omega⟩
  have hN : (m.map (·.1)).Nodup := by
    have := h.keys.1
    unfold List.Nodup
    rw [List.pairwise_map]
    exact this
  have h2 := nodup_le (K := (List.range 6).flatMap fun k => (ycH (n + 1) k).map keyF) hN fun x hx => by
    obtain ⟨p, hp, rfl⟩ := List.mem_map.1 hx
    obtain ⟨r, e, hr, h5, -⟩ := h.vals p hp
    obtain ⟨k, hk⟩ : ∃ k : Nat, dg r = (k : Int) := ⟨(dg r).toNat, by have := hr.nonneg; omega⟩
    rw [hk] at hr
    rw [List.mem_flatMap]
    exact ⟨k, List.mem_range.2 (by omega), List.mem_map.2 ⟨r, eff_list hr, e.symm⟩⟩
  have h3 := flat_le (f := fun k => (ycH (n + 1) k).map keyF) (B := 1296) (l := List.range 6) fun k hk => by
    rw [List.length_map]
    have h1 := ygv n k
    have h2 : (k + 1) ^ n ≤ 6 ^ n := Nat.pow_le_pow_left (by have := List.mem_range.1 hk; omega) n
    have h3 : 6 ^ n ≤ 6 ^ 4 := Nat.pow_le_pow_right (by omega) (by omega)
    omega
  simp only [List.length_map, List.length_range] at h2 h3
  omega
structure GOk (n : Nat) (es : List E3) : Prop where
  g : yar n es = 0
  c : yc1 n es = true
  el : es.length ≤ 40
  n1 : 1 ≤ n
  n5 : n ≤ 5
  su : (es.map (·.2.2)).sum ≤ 9
section
variable {n : Nat} {es : List E3}
theorem GOk.E (G : GOk n es) : EOk n es := (yaV G.g).1
theorem GOk.C (G : GOk n es) : ∀ q, q < n → Conn n es q := conn_all G.g G.c
theorem GOk.tot (G : GOk n es) : tot n es ≤ 18 := tot_few G.E G.n1 (by have := G.n5; omega) G.su
theorem GOk.giv (G : GOk n es) {d : List Int} (hd : d.length = n) (hb : ∀ v, v < n → -1000000 ≤ gi d v ∧ gi d v ≤ 1000000) : yaL n es 0 d = 0 := by
  have := G.n1
  have := G.n5
  unfold yaL; rw [if_pos G.g, if_pos G.c, if_pos ⟨by omega, by omega⟩]
  exact yef hd (by omega) (by omega) fun v hv => by have := hb v hv; omega
theorem GOk.small (G : GOk n es) {d : List Int} (hb : ∀ v, v < n → -200 ≤ gi d v ∧ gi d v ≤ 200) : Small (n : Int) es d :=
  ⟨G.el, fun _ => ⟨by have := G.n5; omega, G.su⟩, fun _ v hv => hb v (by omega)⟩
theorem set_back {r : List Int} {k : Nat} (hk : k < r.length) : (r.set k (gi r k - 1)).set k (gi (r.set k (gi r k - 1)) k + 1) = r := by
  refine ydU (by simp) fun i hi => ?_
  rw [ybu (by simpa using hk), ybu hk, ybu hk]
  split
  · rename_i e; subst e; simp
  · rfl
theorem RkOk.few (hn : 1 ≤ n) {d : List Int} (hd : d.length = n) {k : Int} (h : RkOk n es d k) : -1 ≤ k ∧ (k = -1 ∨ k ≤ dg d) := by
  refine ⟨h.lo, ?_⟩
  by_cases hw : Win n es d
  · exact .inr (h.top hn hd hw)
  · exact .inl (h.eq hn (rk_lose hw))
theorem fr_find {Rec : Int → List (Int × Int × Int) → Int → List (List Int × Int) → List Int → (Int → Int → List (List Int × Int) → Prop) → Prop} (G : GOk n es) {d : List Int} {m : List (List Int × Int)} {R : Int → Int → List (List Int × Int) → Prop}
    (hd : d.length = n) (hb : ∀ v, v < n → -200 ≤ gi d v ∧ gi d v ≤ 200) (h5 : dg d ≤ 5) (hm : MOk n es m)
    (hrec : ∀ (d' : List Int) (m' : List (List Int × Int)) (R' : Int → Int → List (List Int × Int) → Prop), d'.length = n → (∀ v, v < n → -200 ≤ gi d' v ∧ gi d' v ≤ 200) → dg d' = dg d - 1 → 0 ≤ dg d → MOk n es m' → (∀ k m'', RkOk n es d' k → MOk n es m'' → R' k 0 m'') → Rec n es (yck es + 1 - n) m' d' R')
    (h : ∀ k m', RkOk n es d k → MOk n es m' → R k 0 m') : yaO Rec n es (yck es + 1 - n) m d R := by
  have hn1 := G.n1
  have hn5 := G.n5
  have hpm : 0 ≤ 2 * yck es ∧ 2 * yck es ≤ 18 := by
    have h1 := yfT G.E
    have h2 := G.tot
    have h3 : 0 ≤ tot n es := yaR fun v _ => yaR fun u _ => yaW G.E v u
    omega
  have hdb : -1000 ≤ dg d ∧ dg d ≤ 5 := by
    have := yd0 (f := gi d) (B := 200) (by omega) (n := n) (fun i hi => by have := hb i hi; omega)
    rw [dg_n hd] at h5 ⊢
    omega
  unfold yaO
  refine yfl ⟨hn1, by omega⟩ hd (fun j hj => by have := hb j hj; omega) ⟨fun _ => ⟨fun hneg => h _ _ (rk_lose fun q => by have := win_dg hd q; omega) hm, fun hnn => ⟨i64 (by omega), i64 (by omega), fun hbig => ⟨i64 (by omega), h _ _ (rk_big G.g G.C hn1 (by omega) hd hb (by omega) G.tot (by omega)) hm⟩, fun hsm => ?_⟩⟩, fun q => absurd rfl q⟩
  refine ydu (.inl (G.small hb)) (by omega) (fun q => absurd (G.giv hd fun v hv => by have := hb v hv; omega) q) fun _ r s hr b hbw => ⟨fun _ => ⟨fun hbt => ?_, fun hbf => h _ _ (rk_lose fun q => hbf (hbw.2 (by simpa using q))) hm⟩, fun q => absurd rfl q⟩
  simp only [Int.toNat_natCast] at hr hbw
  have hw := hbw.1 hbt
  have hrl : r.length = n := hr.dl
  have hrq : 0 ≤ gi r 0 := (yjm G.E (by omega) hr.red hr.lp).1 hw
  have hrd : dg r = dg d := dg_lp hrl hd hr.lp
  have heff : Eff n r (dg r) := ⟨hrl, fun v hv => by
    by_cases e : v = 0
    · subst e; exact hrq
    · exact hr.pos v hv e, rfl⟩
  have hrw : Win n es r := (win_eqv hr.lp).1 hw
  have hre : ∀ v, v < n → 0 ≤ gi r v ∧ gi r v ≤ 5 := fun v hv => by have := heff.pos v hv; have := heff.le hv; omega
  have back : ∀ {k : Int}, RkOk n es r k → RkOk n es d k := fun q => (rk_eqv hr.lp).2 q
  refine ⟨by omega, hm.keys, keyF_ok heff (by omega), fun hsome => ?_, fun hnone => ⟨fun hfull => absurd hfull (by have := hm.len hn1 hn5; omega), fun _ => ?_⟩⟩
  · obtain ⟨v, hv⟩ := Option.isSome_iff_exists.1 hsome
    rw [hv]
    exact h _ _ (back (hm.get (by omega) hrl hv)) hm
  refine ⟨fun c least i m' r' => Cnt n (fun k => MOk n es m' ∧ r' = r ∧ ∃ κ : Nat → Int, (∀ u, u < k → RkOk n es (yee r u (-1)) (κ u)) ∧ (∀ u, u < k → least ≤ κ u + 1) ∧ (least = dg d ∨ ∃ u, u < k ∧ least = κ u + 1)) c i,
    Cnt.start ⟨hm, rfl, fun _ => 0, fun u hu => absurd hu (by omega), fun u hu => absurd hu (by omega), .inl rfl⟩, ?_⟩
  rintro c least _ m' r' ⟨k, rfl, rfl, hk, hm', rfl, κ, hκ, hle, hat⟩
  simp only [Int.toNat_natCast]
  have hal : ∀ u, (yee r' u (-1)).length = n := fun u => by rw [yd4, hrl]
  have hadg : ∀ u, u < n → dg (yee r' u (-1)) = dg d - 1 := fun u hu => by rw [dg_addAt (by omega), hrd]; omega
  have hse : ∀ {x : Int}, dg d = x → 0 ≤ x := fun e => by have := heff.nonneg; omega
  refine ⟨fun hlt => ⟨by omega, i64 (by have := hre k (by omega); omega), ?_⟩, fun hge => ⟨hm'.keys, ?_⟩⟩
  · refine hrec (yee r' k (-1)) m' _ (hal k) (fun v hv => ?_) (hadg k (by omega)) (hse rfl) hm' fun j m'' hj hm'' => ?_
    · rw [ydy (by omega)]
      have := hre v hv
      have := hre k (by omega)
      split <;> omega
    · have hj2 := hj.few hn1 (hal k)
      rw [hadg k (by omega)] at hj2
      have hgk := hre k (by omega)
      refine ⟨by rw [List.length_set]; omega, ?_, fun _ => ⟨i64 (by omega), ?_⟩, fun q => absurd rfl q⟩
      · rw [ybu (by omega), if_pos rfl]
        exact i64 (by omega)
      · refine Cnt.next (by omega) (by omega) ⟨hm'', set_back (by omega), fun u => if u = k then j else κ u, fun u hu => ?_, fun u hu => ?_, ?_⟩
        · show RkOk n es (yee r' u (-1)) (if u = k then j else κ u)
          by_cases e : u = k
          · subst e; rw [if_pos rfl]; exact hj
          · rw [if_neg e]; exact hκ u (by omega)
        · show mnF least (j + 1) ≤ (if u = k then j else κ u) + 1
          rw [mnF_eq]
          by_cases e : u = k
          · rw [if_pos e]; omega
          · rw [if_neg e]; have := hle u (by omega); omega
        · rw [mnF_eq]
          rcases Int.le_total least (j + 1) with q | q
          · rw [Int.min_eq_left q]
            rcases hat with a | ⟨u, hu, a⟩
            · exact .inl a
            · refine .inr ⟨u, by omega, ?_⟩
              show least = (if u = k then j else κ u) + 1
              rw [if_neg (by omega)]; exact a
          · rw [Int.min_eq_right q]
            refine .inr ⟨k, by omega, ?_⟩
            show j + 1 = (if k = k then j else κ k) + 1
            rw [if_pos rfl]
  · have e : k = n := by omega
    subst e
    have hk0 := hκ 0 (by omega)
    have hst : RkOk k es r' least := rk_step hn1 hrl hrw hκ hle (by
      rcases hat with a | a
      · refine ⟨0, by omega, ?_⟩
        have h1 := hle 0 (by omega)
        have h2 := hk0.few hn1 (hal 0)
        rw [hadg 0 (by omega)] at h2
        have h3 := heff.nonneg
        omega
      · exact a)
    exact h _ _ (back hst) (hm'.put heff (by omega) hst)
theorem p_find2 (G : GOk n es) : ∀ (fu : Nat) {d : List Int} {m : List (List Int × Int)} {R : Int → Int → List (List Int × Int) → Prop}, dg d + 1 < fu → -1 ≤ dg d → d.length = n → (∀ v, v < n → -200 ≤ gi d v ∧ gi d v ≤ 200) → dg d ≤ 5 → MOk n es m →
    (∀ k m', RkOk n es d k → MOk n es m' → R k 0 m') → yaX fu n es (yck es + 1 - n) m d R
  | 0, _, _, _, hf, h1, _, _, _, _, _ => by omega
  | fu + 1, d, m, R, hf, h1, hd, hb, h5, hm, h => by
    show yaO (yaX fu) n es (yck es + 1 - n) m d R
    exact fr_find G hd hb h5 hm (fun d' m' R' hd' hb' hdg h0 hm' h' => p_find2 G fu (by omega) (by omega) hd' hb' (by omega) hm' h') h
theorem p_find (G : GOk n es) {d : List Int} {m : List (List Int × Int)} {R : Int → Int → List (List Int × Int) → Prop} (hd : d.length = n) (hb : ∀ v, v < n → -200 ≤ gi d v ∧ gi d v ≤ 200) (h5 : dg d ≤ 5) (hm : MOk n es m)
    (h : ∀ k m', RkOk n es d k → MOk n es m' → R k 0 m') : ∃ fu, ybV fu n es (yck es + 1 - n) m d R := by
  refine ⟨1, ?_⟩
  show yaO (fun a b c e f R' => ∃ fu, yaX fu a b c e f R') n es (yck es + 1 - n) m d R
  exact fr_find G hd hb h5 hm (fun d' m' R' hd' hb' hdg h0 hm' h' => ⟨8, p_find2 G 8 (by omega) (by omega) hd' hb' (by omega) hm' h'⟩) h
end
end Go.Proofs.Ytmeoemmemjipdaa

/- What graph.Loopless and graph.Genus come to. -/
namespace Go.Proofs.Ytmeoemmemjipdaa
open Go Go.Proofs.Try
set_option linter.unusedVariables false
set_option linter.unusedSimpArgs false
def yel (es : List E3) : List E3 := es.filter fun x => decide (x.1 ≠ x.2.1)
theorem yho {es : List E3} {k : Nat} (hk : k < es.length) : yel (es.take (k + 1)) = yel (es.take k) ++ if (ge es k).1 = (ge es k).2.1 then [] else [ge es k] := by
  have e : es.take (k + 1) = es.take k ++ [ge es k] := by rw [List.take_add_one, List.getElem?_eq_getElem hk, ycU hk]; rfl
  unfold yel
  rw [e, List.filter_append]
  congr 1
  by_cases q : (ge es k).1 = (ge es k).2.1
  · rw [if_pos q]; simp [q]
  · rw [if_neg q]; simp [q]
theorem W_plainL : ∀ (es : List E3) (v u : Nat), W (yel es) v u = W es v u
  | [], v, u => rfl
  | x :: es, v, u => by
    unfold yel
    rw [List.filter_cons, ydG]
    by_cases q : x.1 = x.2.1
    · have : w1 x v u = 0 := by unfold w1; rw [if_neg (fun h => h.1 q)]
      rw [if_neg (by simpa using q), this]
      have := W_plainL es v u
      unfold yel at this
      rw [this]; omega
    · rw [if_pos (by simpa using q), ydG]
      have := W_plainL es v u
      unfold yel at this
      rw [this]
theorem pcmp_le {a b c d : Int} : ye0 a b c d ≤ 0 ↔ a < c ∨ (a = c ∧ b ≤ d) := by
  unfold ye0 orF cmpF
  (repeat' split) <;> omega
theorem pcmp_trans {a b c d e f : Int} (h1 : ye0 a b c d ≤ 0) (h2 : ye0 c d e f < 0) : ye0 a b e f < 0 := by
  have h1 := pcmp_le.1 h1
  have h2 := (yhJ _ _ _ _).1 h2
  exact (yhJ _ _ _ _).2 (by omega)
theorem yft {n : Int} {p : E3 → Bool} : ∀ (es : List E3) (a b a' b' : Int), ye0 a' b' a b ≤ 0 → gchk n a b es = 0 → gchk n a' b' (es.filter p) = 0
  | [], a, b, a', b', _, _ => rfl
  | x :: t, a, b, a', b', h, hg => by
    unfold gchk at hg
    by_cases c1 : (0 ≤ x.1 ∧ x.1 < n) ∧ (0 ≤ x.2.1 ∧ x.2.1 < n) ∧ 1 ≤ x.2.2 ∧ x.2.2 ≤ 50
    · rw [if_pos c1] at hg
      by_cases c2 : x.1 ≤ x.2.1 ∧ ye0 a b x.1 x.2.1 < 0
      · rw [if_pos c2] at hg
        have h3 := pcmp_trans h c2.2
        rw [List.filter_cons]
        split
        · unfold gchk
          rw [if_pos c1, if_pos ⟨c2.1, h3⟩]
          exact yft t _ _ _ _ (pcmp_le.2 (by omega)) hg
        · exact yft t _ _ _ _ (by omega) hg
      · rw [if_neg c2] at hg; omega
    · rw [if_neg c1] at hg; omega
theorem gcheck_plain {n : Int} {es : List E3} (h : yar n es = 0) : yar n (yel es) = 0 := by
  unfold yar at h ⊢
  split
  · rename_i c
    rw [if_pos c] at h
    exact yft es _ _ _ _ (by decide) h
  · rename_i c; rw [if_neg c] at h; exact h
theorem ygM {n : Nat} {es : List E3} {R : Int → List E3 → Int → Prop} (hl : es.length ≤ 1000) (hg : yar n es = 0) (h : R n (yel es) 0) : ybR n es R := by
  unfold ybR ycv
  refine yfO (by omega) ⟨fun _ => ?_, fun q => absurd hg q⟩
  refine ⟨fun m v out => Cnt es.length (fun k => out = yel (es.take k) ∧ out.length ≤ k) m v, Cnt.start ⟨rfl, Nat.le_refl _⟩, ?_⟩
  rintro m _ out ⟨k, rfl, rfl, hk, hout, hol⟩
  simp only [Int.toNat_natCast]
  refine ⟨fun hlt => ⟨by omega, fun q => Cnt.next (by omega) (by omega) ⟨?_, by omega⟩, fun q => ⟨by omega, Cnt.next (by omega) (by omega) ⟨?_, by simpa using hol⟩⟩⟩, fun hge => ?_⟩
  · rw [yho (by omega), if_pos q, List.append_nil]; exact hout
  · rw [yho (by omega), if_neg q, hout]
    have hx := (yaV hg).1 _ (List.mem_of_getElem? (ycL (show k < es.length by omega)))
    have e : mnF (ge es k).2.2 50 = (ge es k).2.2 := by rw [mnF_eq]; omega
    rw [e]
  · have e : k = es.length := by omega
    rw [e, List.take_length] at hout
    rw [hout]; exact h
def sF : List E3 → List E3
  | [] => []
  | x :: t => List.replicate x.2.2.toNat (x.1, x.2.1, 1) ++ sF t
theorem yhK : ∀ (a b : List E3), sF (a ++ b) = sF a ++ sF b
  | [], b => rfl
  | x :: t, b => by rw [List.cons_append, sF, sF, yhK t b, List.append_assoc]
theorem sF_take {es : List E3} {k : Nat} (hk : k < es.length) : sF (es.take (k + 1)) = sF (es.take k) ++ List.replicate (ge es k).2.2.toNat ((ge es k).1, (ge es k).2.1, 1) := by
  rw [List.take_add_one, List.getElem?_eq_getElem hk, ← ycU hk, yhK]
  simp [sF]
theorem sF_pre {es : List E3} {k : Nat} (hk : k < es.length) {j : Nat} (hj : j ≤ (ge es k).2.2.toNat) : sF (es.take k) ++ List.replicate j ((ge es k).1, (ge es k).2.1, 1) <+: sF es := by
  have h1 : es = es.take (k + 1) ++ es.drop (k + 1) := (List.take_append_drop _ _).symm
  have h2 : sF es = sF (es.take k) ++ List.replicate (ge es k).2.2.toNat ((ge es k).1, (ge es k).2.1, 1) ++ sF (es.drop (k + 1)) := by
    conv => lhs; rw [h1]
    rw [yhK, sF_take hk]
  obtain ⟨i, hi⟩ : ∃ i, (ge es k).2.2.toNat = j + i := ⟨(ge es k).2.2.toNat - j, by omega⟩
  rw [h2, hi, ← List.replicate_append_replicate]
  exact ⟨List.replicate i ((ge es k).1, (ge es k).2.1, 1) ++ sF (es.drop (k + 1)), by simp only [List.append_assoc]⟩
theorem sF_ok {n : Nat} : ∀ {es : List E3}, EOk n es → EOk n (sF es)
  | [], _ => fun x hx => by simp [sF] at hx
  | y :: t, h => fun x hx => by
    rw [sF, List.mem_append] at hx
    rcases hx with q | q
    · have := h y (by simp)
      have e := (List.mem_replicate.1 q).2
      subst e
      simp only
      omega
    · exact sF_ok (fun z hz => h z (by simp [hz])) x q
theorem W_rep (a b : Int) (l : List E3) (v u : Nat) : ∀ k : Nat, W (List.replicate k (a, b, 1) ++ l) v u = (k : Int) * w1 (a, b, 1) v u + W l v u
  | 0 => by simp
  | k + 1 => by
    rw [List.replicate_succ, List.cons_append, ydG, W_rep a b l v u k, Int.natCast_add, Int.add_mul]
    omega
theorem W_sF {n : Nat} (v u : Nat) : ∀ {es : List E3}, EOk n es → W (sF es) v u = W es v u
  | [], _ => rfl
  | x :: t, h => by
    have hx := h x (by simp)
    rw [sF, W_rep, ydG, W_sF v u (fun z hz => h z (by simp [hz]))]
    have : ((x.2.2.toNat : Nat) : Int) * w1 (x.1, x.2.1, 1) v u = w1 x v u := by
      unfold w1
      simp only
      split
      · omega
      · omega
    omega
theorem sF_len {n : Nat} : ∀ {es : List E3}, EOk n es → ((sF es).length : Int) = (es.map (·.2.2)).sum
  | [], _ => rfl
  | x :: t, h => by
    have hx := h x (by simp)
    have := sF_len (es := t) fun z hz => h z (by simp [hz])
    rw [sF, List.length_append, List.length_replicate, List.map_cons, List.sum_cons, ← this]
    omega
theorem plainL_sum : ∀ (es : List E3), ((yel es).map (·.2.2)).sum = yck es
  | [] => rfl
  | x :: t => by
    have ih := plainL_sum t
    unfold yel yck at *
    rw [List.filter_cons, List.map_cons, List.sum_cons]
    by_cases q : x.1 = x.2.1
    · rw [if_neg (by simpa using q), if_pos q, ih]; omega
    · rw [if_pos (by simpa using q), if_neg q, List.map_cons, List.sum_cons, ih]
theorem sF_few {n : Nat} : ∀ {es : List E3}, EOk n es → (sF es).length ≤ 50 * es.length
  | [], _ => Nat.le_refl _
  | x :: t, h => by
    have hx := h x (by simp)
    have := sF_few (es := t) fun z hz => h z (by simp [hz])
    rw [sF, List.length_append, List.length_replicate, List.length_cons]
    omega
def gmap (y : Int × Int × Int) : E3 := (y.2.1, y.2.2, 1)
theorem yge {n : Nat} {es : List E3} (hE : EOk n es) (hl : es.length ≤ 1000) : ybD (n : Int) es (fun l => l.map gmap <+: sF es) (fun l => l.map gmap = sF es) := by
  unfold ybD
  refine ⟨fun m pre e2 v => Cnt es.length (fun k => pre.map gmap = sF (es.take k) ∧ 0 ≤ e2 ∧ e2 ≤ 50 * k) m v, Cnt.start ⟨rfl, by omega, by omega⟩, ?_⟩
  rintro m pre e2 _ ⟨k, rfl, rfl, hk, hpre, he0, he1⟩
  simp only [Int.toNat_natCast]
  refine ⟨fun hlt => ⟨by omega, ?_⟩, fun hge => ?_⟩
  · have hkl : k < es.length := by omega
    have hx := hE _ (List.mem_of_getElem? (ycL hkl))
    refine ⟨fun m pre e3 v => Cnt (ge es k).2.2.toNat (fun j => pre.map gmap = sF (es.take k) ++ List.replicate j ((ge es k).1, (ge es k).2.1, 1) ∧ 0 ≤ e3 ∧ e3 ≤ 50 * k + j) m v, Cnt.start ⟨by simpa using hpre, he0, by omega⟩, ?_⟩
    rintro m3 pre3 e3 _ ⟨j, rfl, rfl, hj, hp3, h30, h31⟩
    have hstep : ∀ e : Int, (pre3 ++ [(e, (ge es k).1, (ge es k).2.1)]).map gmap = sF (es.take k) ++ List.replicate (j + 1) ((ge es k).1, (ge es k).2.1, 1) := fun e => by
      rw [List.map_append, hp3, List.replicate_succ', List.append_assoc]; rfl
    refine ⟨fun h1 => ⟨?_, ⟨i64 (by omega), Cnt.next (by omega) (by omega) ⟨hstep e3, by omega, by omega⟩⟩, trivial⟩, fun h1 => Cnt.next (by omega) (by omega) ⟨?_, by omega, by omega⟩⟩
    · show (pre3 ++ [(e3, (ge es k).1, (ge es k).2.1)]).map gmap <+: sF es
      rw [hstep]; exact sF_pre hkl (by omega)
    · have e : j = (ge es k).2.2.toNat := by omega
      rw [sF_take hkl, hp3, e]
  · have e : k = es.length := by omega
    rw [e, List.take_length] at hpre
    exact hpre
def castF (F : List Nat) : List Int := F.map fun v : Nat => (v : Int)
theorem gi_castF {F : List Nat} {v : Nat} (hv : v < F.length) : gi (castF F) v = (gn F v : Int) := by
  unfold castF
  rw [ya0 (by simpa using hv), yfc hv]; simp
theorem yfN {F : List Nat} (hF : ycl F) {v : Nat} (hv : v < 12) {R : Int → Prop} (h : R (root F v)) : ya9 (castF F) (v : Int) R := by
  unfold ya9
  refine ⟨fun m x => ∃ u : Nat, x = u ∧ m = u ∧ u < 12 ∧ root F u = root F v, ⟨v, v, rfl, rfl, hv, rfl⟩, ?_⟩
  rintro m _ ⟨u, rfl, hm, hu, hr⟩
  have hg : gi (castF F) u = (gn F u : Int) := gi_castF (by rw [hF.1]; exact hu)
  have hle := hF.2 u hu
  simp only [Int.toNat_natCast, hg]
  refine ⟨by omega, fun e => ?_, fun e => ⟨gn F u, by omega, gn F u, rfl, rfl, by omega, ?_⟩⟩
  · rw [yb9 (F := F) (v := u) (by omega)] at hr
    rw [hr]; exact h
  · rw [← yeu hF hu (by omega)]; exact hr
theorem yhB {F : List Nat} (hF : ycl F) {a b : Nat} (ha : a < 12) (hb : b < 12) (hne : root F a ≠ root F b) : ∀ k, k ≤ 12 → yaB (yb8 F a b) k + (if max (root F a) (root F b) < k then 1 else 0) = yaB F k
  | 0, _ => by simp [yaB]
  | k + 1, hk => by
    have ih := yhB hF ha hb hne k (by omega)
    have hj := yfe hF ha hb k (by omega)
    have ra := yeW hF ha
    have rb := yeW hF hb
    rw [yaB, yaB]
    have hM : root F (max (root F a) (root F b)) = max (root F a) (root F b) := by
      rcases Nat.le_total (root F a) (root F b) with q | q
      · rw [Nat.max_eq_right q]; exact rb
      · rw [Nat.max_eq_left q]; exact ra
    have hm : root F (min (root F a) (root F b)) = min (root F a) (root F b) := by
      rcases Nat.le_total (root F a) (root F b) with q | q
      · rw [Nat.min_eq_left q]; exact ra
      · rw [Nat.min_eq_right q]; exact rb
    by_cases e1 : k = max (root F a) (root F b)
    · have h1 : root F k = k := by rw [e1]; exact hM
      rw [if_pos (h1.trans e1)] at hj
      rw [if_neg (by omega : ¬ root (yb8 F a b) k = k), if_pos h1, if_pos (by omega)]
      rw [if_neg (by omega)] at ih
      omega
    · have h2 : root (yb8 F a b) k = k ↔ root F k = k := by
        rw [hj]
        split
        · rename_i e2
          constructor
          · intro e3; rw [← e3] at e2; rw [hm] at e2; omega
          · intro e3; omega
        · exact Iff.rfl
      by_cases e3 : root F k = k
      · rw [if_pos (h2.2 e3), if_pos e3]
        by_cases e4 : max (root F a) (root F b) < k
        · rw [if_pos e4] at ih; rw [if_pos (by omega)]; omega
        · rw [if_neg e4] at ih; rw [if_neg (by omega)]; omega
      · rw [if_neg (fun q => e3 (h2.1 q)), if_neg e3]
        by_cases e4 : max (root F a) (root F b) < k
        · rw [if_pos e4] at ih; rw [if_pos (by omega)]; omega
        · rw [if_neg e4] at ih; rw [if_neg (by omega)]; omega
theorem yhA {F : List Nat} (hF : ycl F) {a b : Nat} (ha : a < 12) (hb : b < 12) (he : root F a = root F b) : ∀ k, k ≤ 12 → yaB (yb8 F a b) k = yaB F k
  | 0, _ => rfl
  | k + 1, hk => by
    have ih := yhA hF ha hb he k (by omega)
    have hj := yfe hF ha hb k (by omega)
    rw [yaB, yaB, ih, hj, he]
    simp only [Nat.max_self, Nat.min_self]
    congr 2
    split
    · rename_i e; rw [e]
    · rfl
theorem ygw : ∀ k, k ≤ 12 → yaB ycR k = k
  | 0, _ => rfl
  | k + 1, hk => by
    rw [yaB, ygw k (by omega), if_pos]
    exact yb9 (by rw [yfc (by simpa [ycR] using (by omega : k < 12))]; simp [ycR])
theorem joinedF_snoc (l : List E3) (x : E3) : yav (l ++ [x]) = yb8 (yav l) x.1.toNat x.2.1.toNat := by
  unfold yav; rw [List.foldl_append]; rfl
theorem castF_join {F : List Nat} {a b : Nat} : (castF F).set (mxF (root F a) (root F b)).toNat (mnF (root F a) (root F b)) = castF (yb8 F a b) := by
  unfold castF yb8
  rw [List.map_set, mxF_eq, mnF_eq]
  congr 1
  · omega
  · omega
theorem p_graph_Genus {n : Nat} {es : List E3} {R : Int → Int → Prop} (hl : es.length ≤ 1000) (hg : yar n es = 0) (hc : ∀ q, q < n → Conn n es q) (h : R ((es.map (·.2.2)).sum + 1 - n) 0) : ycs n es R := by
  obtain ⟨hE, hn1, hn12⟩ := yaV hg
  unfold ycs
  refine yfO (by omega) ⟨fun _ => ?_, fun q => absurd hg q⟩
  refine ⟨fun m v f => Cnt 12 (fun k => f.length = 12 ∧ ∀ i, i < k → gi f i = (i : Int)) m v, Cnt.start ⟨by simp, fun i hi => absurd hi (by omega)⟩, ?_⟩
  rintro m _ f ⟨k, rfl, rfl, hk, hfl, hf⟩
  simp only [Int.toNat_natCast]
  refine ⟨fun hlt => ⟨by omega, Cnt.next (by omega) (by omega) ⟨by simpa using hfl, fun i hi => ?_⟩⟩, fun hge => ?_⟩
  · rw [ybu (by omega)]
    split
    · omega
    · exact hf i (by omega)
  have e12 : k = 12 := by omega
  subst e12
  have hf0 : f = castF ycR := ydU (by rw [hfl]; rfl) fun i hi => by
    rw [hf i (by omega), gi_castF (by show i < (List.range 12).length; simpa using (by omega : i < 12)), yfc (by simpa [ycR] using (by omega : i < 12))]
    simp [ycR]
  show ∃ Pr Rr : List (Int × Int × Int) → Prop, _
  refine ⟨_, _, yge hE hl, fun pre f2 genus => pre.map gmap <+: sF es ∧ f2 = castF (yav (pre.map gmap)) ∧ genus + n - (yaB (yav (pre.map gmap)) n : Int) = pre.length ∧ 0 ≤ genus ∧ genus ≤ pre.length, ⟨List.nil_prefix, hf0, ?_, by omega, by simp⟩, ?_, ?_⟩
  · show (0 : Int) + n - (yaB ycR n : Int) = 0
    rw [ygw n hn12]; omega
  · rintro pre e a b f2 genus ⟨hp, rfl, hcount, h0, h1⟩ hPr
    have hPr : (pre ++ [(e, a, b)]).map gmap <+: sF es := hPr
    have hE2 := sF_ok hE
    have hmem : (a, b, 1) ∈ sF es := hPr.subset (by simp [gmap])
    have hx := hE2 _ hmem
    simp only at hx
    obtain ⟨a, rfl⟩ : ∃ k : Nat, a = (k : Int) := ⟨a.toNat, by omega⟩
    obtain ⟨b, rfl⟩ : ∃ k : Nat, b = (k : Int) := ⟨b.toNat, by omega⟩
    have hF : ycl (yav (pre.map gmap)) := ybM _ fun x hx => by
      have := hE2 x (hp.subset hx)
      omega
    have hplen : pre.length ≤ 50 * es.length := by
      have h2 := hp.length_le
      have h3 := sF_few hE
      rw [List.length_map] at h2
      omega
    have hsn : (pre ++ [(e, (a : Int), (b : Int))]).map gmap = pre.map gmap ++ [((a : Int), (b : Int), 1)] := by rw [List.map_append]; rfl
    have hjs : yav ((pre ++ [(e, (a : Int), (b : Int))]).map gmap) = yb8 (yav (pre.map gmap)) a b := by rw [hsn, joinedF_snoc]; simp
    have ra := yc7 hF a (by omega)
    have rb := yc7 hF b (by omega)
    have hrl : ∀ v, v < n → root (yav (pre.map gmap)) v < n := fun v hv => by have := (yc7 hF v (by omega)).1; omega
    have hra := hrl a (by omega)
    have hrb := hrl b (by omega)
    refine yfN hF (by omega) (yfN hF (by omega) ?_)
    have hmx : 0 ≤ mxF (root (yav (pre.map gmap)) a : Int) (root (yav (pre.map gmap)) b) ∧ mxF (root (yav (pre.map gmap)) a : Int) (root (yav (pre.map gmap)) b) < 12 := by rw [mxF_eq]; omega
    refine ⟨fun g2 => g2 = genus + if root (yav (pre.map gmap)) a = root (yav (pre.map gmap)) b then 1 else 0, fun g2 hg2 => ⟨hmx, hPr, by rw [hjs]; exact castF_join, ?_, ?_, ?_⟩, fun q => ⟨i64 (by omega), by rw [if_pos (by omega)]⟩, fun q => by rw [if_neg (by omega)]; omega⟩
    · rw [hjs, hg2, List.length_append, List.length_singleton]
      by_cases q : root (yav (pre.map gmap)) a = root (yav (pre.map gmap)) b
      · rw [if_pos q, yhA hF (by omega) (by omega) q n hn12]; omega
      · have := yhB hF (by omega) (by omega) q n hn12
        rw [if_pos (by omega)] at this
        rw [if_neg q]; omega
    · rw [hg2]; split <;> omega
    · rw [hg2, List.length_append, List.length_singleton]; split <;> omega
  · rintro ys f2 genus ⟨hp, rfl, hcount, h0, h1⟩ hR
    have hR : ys.map gmap = sF es := hR
    have hE2 := sF_ok hE
    have hc2 : yc1 n (sF es) = true := (ygO hE2 hn1 hn12 (q := 0) (by omega)).2 fun S h0 h1 => by
      obtain ⟨v, u, a, b, c, d, e⟩ := hc 0 (by omega) S h0 h1
      exact ⟨v, u, a, b, c, d, by rw [W_sF v u hE]; exact e⟩
    unfold yc1 at hc2
    rw [beq_iff_eq, Int.toNat_natCast] at hc2
    rw [hR, hc2] at hcount
    have hlen := sF_len hE
    rw [← hR, List.length_map] at hlen
    have e : genus = (es.map (·.2.2)).sum + 1 - n := by omega
    rw [e]; exact h
theorem p_rank_of {n : Nat} {es : List E3} {R0 : Int → Prop} {R1 : Int → List E3 → Int → List (List Int × Int) → Int → Prop} (G : GOk n es) (h : R1 n es (yck es + 1 - n) [] 0) : yea n es R0 R1 := by
  have := G.el
  unfold yea
  refine ygM (by omega) G.g ⟨fun _ => ?_, fun q => absurd rfl q⟩
  refine p_graph_Genus (by have := List.length_filter_le (fun x : E3 => decide (x.1 ≠ x.2.1)) es; unfold yel; omega) (gcheck_plain G.g) (fun q hq S h0 h1 => ?_) (by rw [plainL_sum]; exact h)
  obtain ⟨v, u, a, b, c, d, e⟩ := G.C q hq S h0 h1
  exact ⟨v, u, a, b, c, d, by rw [W_plainL]; exact e⟩
theorem yhN {n : Int} {es : List E3} {d : List Int} {R : Int → Int → Prop} (hl : es.length ≤ 1000) (h0 : yaL n es 0 d ≠ 0 → R 0 (yaL n es 0 d)) (h1 : yaL n es 0 d = 0 → GOk n.toNat es ∧ (∀ v, v < n.toNat → -200 ≤ gi d v ∧ gi d v ≤ 200) ∧ dg d ≤ 5 ∧ ∀ k, RkOk n.toNat es d k → R k 0) : ya4 n es d R := by
  unfold ya4
  refine ygz hl (by simp) ?_
  rw [yjj]
  refine ⟨fun hg => ?_, fun hg => h0 hg⟩
  obtain ⟨n, rfl⟩ : ∃ n' : Nat, n = (n' : Int) := ⟨n.toNat, by have := ycp hg; omega⟩
  obtain ⟨G, hb, h5, hk⟩ := h1 hg
  simp only [Int.toNat_natCast] at G hb h5 hk
  have hd := (ye4 (q := 0) hg).2.2.2.2.2.2.1
  exact p_rank_of G ⟨fun _ => p_find G hd hb h5 (MOk.nil n es) fun k m' hk' _ => hk k hk', fun q => absurd rfl q⟩
end Go.Proofs.Ytmeoemmemjipdaa

/- What chips.Next, rank.taken, rank.Witness and rank.AtLeast come to. -/
namespace Go.Proofs.Ytmeoemmemjipdaa
open Go Go.Proofs.Try
set_option linter.unusedVariables false
set_option linter.unusedSimpArgs false
theorem drop_zero {d : List Int} {k : Nat} (h : ∀ i, k ≤ i → i < d.length → gi d i = 0) : (d.drop k).sum = 0 := by
  rw [sum_dg]
  unfold dg
  rw [yat (g := fun _ => 0) fun i hi => ?_]
  · exact ybh _
  · rw [gi_drop]
    rw [List.length_drop] at hi
    exact h _ (by omega) (by omega)
theorem drop_one {d : List Int} {k : Nat} (hk : k < d.length) (h : ∀ i, k < i → i < d.length → gi d i = 0) : (d.drop k).sum = gi d k := by
  rw [List.drop_eq_getElem_cons hk, List.sum_cons, drop_zero (k := k + 1) fun i h1 h2 => h i (by omega) h2, ya0 hk]
  omega
theorem p_chips_step {d : List Int} {R : Bool → List Int → Prop} (hl : d.length ≤ 1000) (h0 : 1 ≤ d.length) (hb : ∀ j, j < d.length → -1000000 ≤ gi d j ∧ gi d j ≤ 1000000) (h1 : ∀ y, yeg d = some y → R true y) (h2 : yeg d = none → R false d) : ycM d R := by
  unfold ycM
  refine ⟨i64 (by omega), fun m j => ∃ k : Nat, j = (k : Int) ∧ m = k ∧ k < d.length ∧ ∀ i, k < i → i < d.length → gi d i = 0, ⟨d.length - 1, d.length - 1, by omega, rfl, by omega, fun i a b => by omega⟩, ?_⟩
  rintro m _ ⟨k, rfl, hm, hk, hz⟩
  simp only [Int.toNat_natCast]
  refine ⟨fun hpos => ⟨by omega, fun e => ⟨i64 (by omega), k - 1, by omega, k - 1, by omega, rfl, by omega, fun i a b => ?_⟩, fun e => ⟨fun q => by omega, fun _ => ?_⟩⟩, fun hneg => ⟨fun _ => h2 (ygf d fun v hv => drop_zero fun i a b => hz i (by omega) b), fun q => by omega⟩⟩
  · by_cases q : i = k
    · rw [q]; exact e
    · exact hz i (by omega) b
  · obtain ⟨v, rfl⟩ : ∃ v, k = v + 1 := ⟨k - 1, by omega⟩
    have e1 : (((v + 1 : Nat) : Int) - 1).toNat = v := by omega
    have e2 : ((d.length : Int) - 1).toNat = d.length - 1 := by omega
    have hgk := hb (v + 1) hk
    have hgv := hb v (by omega)
    have hs : gi (d.set (v + 1) 0) v = gi d v := by rw [ybu hk, if_neg (by omega)]
    rw [e1, e2, hs]
    refine ⟨i64 (by omega), i64 (by omega), by rw [List.length_set]; omega, i64 (by omega), by rw [List.length_set, List.length_set]; omega, ?_⟩
    have hnx := nextF_some d v (by omega) (by rw [drop_one hk hz]; exact e) fun w hw hw2 => drop_zero fun i a b => hz i (by omega) b
    rw [drop_one hk hz] at hnx
    have e3 : ((d.set (v + 1) 0).set v (gi d v + 1)).set (d.length - 1) (gi d (v + 1) - 1) = d.take v ++ (gi d v + 1) :: ydh (d.length - v - 1) (gi d (v + 1) - 1) := by
      refine ydU (by rw [List.length_set, List.length_set, List.length_set, next_length (by omega)]) fun i hi => ?_
      rw [List.length_set, List.length_set, List.length_set] at hi
      rw [gi_next (by omega) _ _ hi, ybu (by rw [List.length_set, List.length_set]; omega), ybu (by rw [List.length_set]; omega), ybu hk]
      by_cases c1 : i = d.length - 1
      · rw [if_pos c1, if_neg (by omega), if_neg (by omega), if_pos (by omega)]
      · rw [if_neg c1]
        by_cases c2 : i = v
        · rw [if_pos c2, if_neg (by omega), if_pos c2]
        · rw [if_neg c2]
          by_cases c3 : i < v
          · rw [if_neg (by omega), if_pos c3]
          · rw [if_neg c3, if_neg c2, if_neg (show ¬ i + 1 = d.length by omega)]
            split
            · rfl
            · exact hz i (by omega) hi
    rw [e3]
    exact h1 _ hnx
theorem p_chips_Next {n : Nat} {d : List Int} {R : List Int → Bool → Int → Prop} (hn : 1 ≤ n ∧ n ≤ 12) (hd : d.length = n) (hb : ∀ j, j < n → 0 ≤ gi d j ∧ gi d j ≤ 80000) (h1 : ∀ y, yeg d = some y → R y true 0) (h2 : yeg d = none → R [] false 0) : ycD d R := by
  have hdg : dg d ≤ 1000000 := by
    have := yd0 (f := gi d) (B := 80000) (by omega) (n := n) fun i hi => by have := hb i hi; omega
    rw [dg_n hd]; omega
  unfold ycD
  refine yfl hn hd (fun j hj => by have := hb j hj; omega) ⟨fun _ => ygx (by omega) (by omega) fun m ⟨k, hk, hm⟩ _ => ⟨fun q => by have := hb k (by omega); omega, fun _ => ⟨fun q => by omega, fun _ => ?_⟩⟩, fun q => absurd rfl q⟩
  refine ycX (by omega) (p_chips_step (by omega) (by omega) (fun j hj => by have := hb j (by omega); omega) (fun y hy => ⟨fun _ => h1 y hy, fun q => absurd rfl q⟩) fun hy => ⟨fun q => (by cases q), fun _ => h2 hy⟩)
def takY (n : Nat) (d e : List Int) : List Int × List Int := (e, sb n d e)
theorem yi6 {N k : Nat} {d : List Int} (hN : N ≤ 11) (hk : k ≤ 1000) (hd : d.length = N + 1) (hb : ∀ v, v < N + 1 → -2000000 ≤ gi d v ∧ gi d v ≤ 2000000) :
    ycc d (k : Int) (fun l => l <+: (ycH (N + 1) k).map (takY (N + 1) d)) (fun l => l = (ycH (N + 1) k).map (takY (N + 1) d)) := by
  unfold ycc
  obtain ⟨⟨B, hB⟩, hs⟩ := yfq N k
  have hmem : ∀ e ∈ ycH (N + 1) k, Eff (N + 1) e (k : Int) := fun e he => yiC he
  generalize ycH (N + 1) k = L at hB hs hmem
  simp only [Int.toNat_natCast]
  have e1 : ((d.length : Int) - 1).toNat = N := by omega
  have hfirst : (List.replicate d.length (0 : Int)).set N (k : Int) = ydh (N + 1) k := by
    refine ydU (by rw [yfZ (by omega)]; simpa using hd) fun i hi => ?_
    rw [List.length_set, List.length_replicate] at hi
    rw [ybu (by simpa using (by omega : N < d.length)), gi_firstF]
    by_cases c : i = N
    · rw [if_pos c, if_pos (by omega)]
    · rw [if_neg c, if_neg (by omega), yhQ hi]
  rw [e1, hfirst]
  refine ⟨by omega, i64 (by omega), by rw [List.length_replicate]; omega, fun m pre e more => ∃ j, m = L.length - j ∧ j ≤ L.length ∧ pre = (L.take j).map (takY (N + 1) d) ∧ more = decide (j < L.length) ∧ (j < L.length → L[j]? = some e), ⟨L.length, 0, by omega, by omega, rfl, ?_, fun _ => by rw [hB]; rfl⟩, ?_⟩
  · rw [hB]; simp
  rintro m pre e _ ⟨j, rfl, hj, rfl, rfl, he⟩
  refine ⟨fun hmore => ?_, fun hmore => ?_⟩
  · have hjl : j < L.length := of_decide_eq_true hmore
    have he := he hjl
    have heff := hmem e (List.mem_of_getElem? he)
    have hel := heff.len
    have heb : ∀ v, v < N + 1 → 0 ≤ gi e v ∧ gi e v ≤ 1000 := fun v hv => by have := heff.pos v hv; have := heff.le hv; omega
    refine ⟨fun m3 pre3 v left => Cnt (N + 1) (fun i => pre3 = (L.take j).map (takY (N + 1) d) ∧ left = upto (fun i => gi d i - gi e i) i (N + 1)) m3 v, ?_, ?_⟩
    · rw [hd]; exact Cnt.start ⟨rfl, (yfx _ _).symm⟩
    rintro m3 _ _ left ⟨i, rfl, rfl, hi, rfl, rfl⟩
    simp only [Int.toNat_natCast, List.length_replicate, hd]
    refine ⟨fun hlt => ⟨by omega, by omega, i64 (by have := hb i (by omega); have := heb i (by omega); omega), by rw [ya1]; omega, Cnt.next (by omega) (by omega) ⟨by trivial, ygN (fun i => gi d i - gi e i) (by omega)⟩⟩, fun hge => ?_⟩
    have hi2 : i = N + 1 := by omega
    subst hi2
    rw [yg0]
    have hnext : (L.take j).map (takY (N + 1) d) ++ [(e, tab (fun i => gi d i - gi e i) (N + 1))] = (L.take (j + 1)).map (takY (N + 1) d) := by
      rw [List.take_add_one, he, List.map_append]; rfl
    have hsp : L = L.take j ++ e :: L.drop (j + 1) := by
      have := (List.take_append_drop j L).symm
      have h2 : L.drop j = e :: L.drop (j + 1) := by
        rw [List.drop_eq_getElem_cons hjl]
        rw [List.getElem?_eq_getElem hjl] at he
        injection he with he
        rw [he]
      rwa [h2] at this
    have hnx : yeg e = L[j + 1]? := by
      have h3 := yeN.at_ (A := L.take j) (d := e) (B := L.drop (j + 1)) (o := none) (by rw [← hsp]; exact hs)
      rw [h3, List.head?_drop]
      cases L[j + 1]? <;> rfl
    rw [hnext]
    refine ⟨(List.take_prefix _ _).map _, p_chips_Next (n := N + 1) ⟨by omega, by omega⟩ hel (fun v hv => by have := heb v hv; omega) (fun y hy => ?_) (fun hy => ?_), trivial⟩
    · rw [hnx] at hy
      have : j + 1 < L.length := (List.getElem?_eq_some_iff.1 hy).1
      exact ⟨L.length - (j + 1), by omega, j + 1, rfl, by omega, rfl, (decide_eq_true this).symm, fun _ => hy⟩
    · rw [hnx] at hy
      have : ¬ j + 1 < L.length := fun q => by rw [List.getElem?_eq_getElem q] at hy; cases hy
      exact ⟨L.length - (j + 1), by omega, j + 1, rfl, by omega, rfl, (decide_eq_false this).symm, fun q => absurd q this⟩
  · have e : j = L.length := by
      have : ¬ j < L.length := fun q => hmore (decide_eq_true q)
      omega
    rw [e, List.take_length]
structure FailAt (n : Nat) (es : List E3) (d : List Int) (k : Nat) (w : List Int) : Prop where
  at_ : ∃ A B, ycH n k = A ++ w :: B ∧ ∀ e ∈ A, Win n es (sb n d e)
  no : ¬ Win n es (sb n d w)
theorem first_eq {α : Type} {P : α → Prop} : ∀ {A B A' B' : List α} {x x' : α}, A ++ x :: B = A' ++ x' :: B' → (∀ e ∈ A, P e) → (∀ e ∈ A', P e) → ¬ P x → ¬ P x' → x = x'
  | [], B, [], B', x, x', h, _, _, _, _ => by injection h
  | [], B, a :: A', B', x, x', h, _, h', hx, _ => by injection h with e _; exact absurd (e ▸ h' a (by simp)) hx
  | a :: A, B, [], B', x, x', h, h', _, _, hx => by injection h with e _; exact absurd (e ▸ h' a (by simp)) hx
  | a :: A, B, a' :: A', B', x, x', h, h1, h2, hx, hx' => by injection h with _ e; exact first_eq e (fun z hz => h1 z (by simp [hz])) (fun z hz => h2 z (by simp [hz])) hx hx'
theorem FailAt.eq {n k : Nat} {es : List E3} {d w w' : List Int} (h : FailAt n es d k w) (h' : FailAt n es d k w') : w = w' := by
  obtain ⟨A, B, e, hA⟩ := h.at_
  obtain ⟨A', B', e', hA'⟩ := h'.at_
  exact first_eq (P := fun x => Win n es (sb n d x)) (e.symm.trans e') hA hA' h.no h'.no
theorem FailAt.mem {n k : Nat} {es : List E3} {d w : List Int} (h : FailAt (n + 1) es d k w) : Eff (n + 1) w (k : Int) := by
  obtain ⟨A, B, e, -⟩ := h.at_
  exact yiC (by rw [e]; simp)
def yiH (n : Nat) (es : List E3) (d w : List Int) : Prop := ∃ k, RkOk n es d k ∧ FailAt n es d (k + 1).toNat w
theorem yiH.eq {n : Nat} (hn : 1 ≤ n) {es : List E3} {d w w' : List Int} (h : yiH n es d w) (h' : yiH n es d w') : w = w' := by
  obtain ⟨k, h1, h2⟩ := h
  obtain ⟨k', h1', h2'⟩ := h'
  have e := h1.eq hn h1'
  subst e
  exact h2.eq h2'
structure DOk (n : Nat) (es : List E3) (d : List Int) : Prop where
  G : GOk n es
  b : ∀ v, v < n → -150 ≤ gi d v ∧ gi d v ≤ 150
  d5 : dg d ≤ 5
theorem list_few {n k : Nat} (hn : n ≤ 4) (hk : k ≤ 6) : (ycH (n + 1) k).length ≤ 2401 := by
  have h1 := ygv n k
  have h2 : (k + 1) ^ n ≤ 7 ^ n := Nat.pow_le_pow_left (by omega) n
  have h3 : 7 ^ n ≤ 7 ^ 4 := Nat.pow_le_pow_right (by omega) hn
  omega
theorem RkOk.six {n : Nat} {es : List E3} {d : List Int} (hn : 1 ≤ n) (hd : d.length = n) (h5 : dg d ≤ 5) {k : Int} (h : RkOk n es d k) : -1 ≤ k ∧ k ≤ 5 := by
  have := h.few hn hd
  omega
theorem yis {n : Int} {es : List E3} {d : List Int} {R : List Int → Int → Prop} (hl : es.length ≤ 1000) (h0 : yaL n es 0 d ≠ 0 → R [] (yaL n es 0 d)) (h1 : yaL n es 0 d = 0 → DOk n.toNat es d ∧ ∀ w, yiH n.toNat es d w → R w 0) : ybw n es d R := by
  unfold ybw
  refine yhN hl (fun hg => ⟨fun q => absurd q hg, fun _ => h0 hg⟩) fun hg => ?_
  obtain ⟨hD, hw⟩ := h1 hg
  refine ⟨hD.G, fun v hv => by have := hD.b v hv; omega, hD.d5, fun k hk => ⟨fun _ => ?_, fun q => absurd rfl q⟩⟩
  obtain ⟨n, rfl⟩ : ∃ n' : Nat, n = (n' : Int) := ⟨n.toNat, by have := ycp hg; omega⟩
  simp only [Int.toNat_natCast] at hD hw hk
  have hd := (ye4 (q := 0) hg).2.2.2.2.2.2.1
  have hn1 := hD.G.n1
  have hn5 := hD.G.n5
  obtain ⟨N, rfl⟩ : ∃ N, n = N + 1 := ⟨n - 1, by omega⟩
  have hk6 := hk.six hn1 hd hD.d5
  obtain ⟨r, hr⟩ : ∃ r : Nat, k + 1 = (r : Int) := ⟨(k + 1).toNat, by omega⟩
  refine ⟨i64 (by omega), ?_⟩
  rw [hr]
  have hlen := list_few (n := N) (k := r) (by omega) (by omega)
  refine ⟨_, _, yi6 (by omega) (by omega) hd (fun v hv => by have := hD.b v hv; omega), fun pre nn => nn = pre.length ∧ ∃ A B, ycH (N + 1) r = A ++ B ∧ pre = A.map (takY (N + 1) d) ∧ ∀ e ∈ A, Win (N + 1) es (sb (N + 1) d e), ⟨rfl, [], _, rfl, rfl, fun e he => by simp at he⟩, ?_, ?_⟩
  · rintro pre y y2 nn ⟨rfl, A, B, hAB, rfl, hA⟩ hPr
    have hPr : A.map (takY (N + 1) d) ++ [(y, y2)] <+: (ycH (N + 1) r).map (takY (N + 1) d) := hPr
    rw [hAB, List.map_append, List.prefix_append_right_inj] at hPr
    obtain ⟨b, B', rfl, hb⟩ : ∃ b B', B = b :: B' ∧ takY (N + 1) d b = (y, y2) := by
      cases B with
      | nil => simp at hPr
      | cons b B' =>
        refine ⟨b, B', rfl, ?_⟩
        obtain ⟨t, ht⟩ := hPr
        injection ht with e _
        exact e.symm
    injection hb with e1 e2
    subst e1
    subst e2
    have hAl : A.length + 1 ≤ 2401 := by rw [hAB, List.length_append, List.length_cons] at hlen; omega
    have heff : Eff (N + 1) b (r : Int) := yiC (by rw [hAB]; simp)
    have hbb : ∀ v, v < N + 1 → -200 ≤ gi (sb (N + 1) d b) v ∧ gi (sb (N + 1) d b) v ≤ 200 := fun v hv => by
      rw [yeM hv]
      have := hD.b v hv
      have := heff.pos v hv
      have := heff.le hv
      omega
    simp only [List.length_map]
    refine ⟨i64 (by omega), fun q => by omega, fun _ => ?_⟩
    refine ydu (.inl (hD.G.small hbb)) (by rw [ycT]; omega) (fun q => absurd (hD.G.giv (ycT _ _ _) fun v hv => by have := hbb v hv; omega) q) fun _ _ _ _ bb hbw => ⟨fun _ => ⟨fun hbt => ?_, fun hbf => ?_⟩, fun q => absurd rfl q⟩
    · simp only [Int.toNat_natCast] at hbw
      refine ⟨by rw [List.length_append, List.length_map, List.length_singleton]; omega, A ++ [b], B', by rw [hAB]; simp, by rw [List.map_append]; rfl, fun e he => ?_⟩
      rcases List.mem_append.1 he with q | q
      · exact hA e q
      · rw [List.mem_singleton] at q; subst q; exact hbw.1 hbt
    · simp only [Int.toNat_natCast] at hbw
      exact hw b ⟨k, hk, ⟨A, B', by rw [hr]; exact hAB, hA⟩, fun q => hbf (hbw.2 q)⟩
  · rintro ys nn ⟨rfl, A, B, hAB, rfl, hA⟩ hR
    have hR : A.map (takY (N + 1) d) = (ycH (N + 1) r).map (takY (N + 1) d) := hR
    have hB : B = [] := by
      have := congrArg List.length hR
      rw [hAB, List.length_map, List.length_map, List.length_append] at this
      exact List.length_eq_zero_iff.1 (by omega)
    subst hB
    rw [List.append_nil] at hAB
    exact absurd (fun e he => hA e (by rw [← hAB]; exact eff_list (by rw [← hr]; exact he))) hk.no
end Go.Proofs.Ytmeoemmemjipdaa

/- What the reference of ranks comes to. -/
namespace Go.Proofs.Ytmeoemmemjipdaa
open Go Go.Proofs.Try
set_option linter.unusedVariables false
set_option linter.unusedSimpArgs false
section
variable {N : Nat} {es : List E3} {d : List Int}
end
structure FewOk (n : Int) (es : List E3) (d : List Int) (most : Int) : Prop where
  s : yhq n es 5 7 = true
  l : d.length ≤ 100
  g : yaL n es 0 d = 0 → lowF n d = true ∧ dg d ≤ most
theorem FewOk.el {n : Int} {es : List E3} {d : List Int} {most : Int} (h : FewOk n es d most) : es.length ≤ 40 := (of_decide_eq_true h.s).1
theorem gok_of {n : Int} {es : List E3} (hs : yhq n es 5 7 = true) (hg : yar n es = 0) (hc : yc1 n es = true) : GOk n.toNat es := by
  obtain ⟨h1, h2⟩ := of_decide_eq_true hs
  have h3 := h2 hg
  have hn : 1 ≤ n ∧ n ≤ 12 := by unfold yar at hg; split at hg; · assumption
                                 · omega
  have e : ((n.toNat : Nat) : Int) = n := by omega
  exact ⟨by rw [e]; exact hg, by rw [e]; exact hc, h1, by omega, by omega, by omega⟩
theorem FewOk.dok {n : Int} {es : List E3} {d : List Int} {most : Int} (h : FewOk n es d most) (hm : most ≤ 5) (hg : yaL n es 0 d = 0) : DOk n.toNat es d := by
  obtain ⟨h1, h2⟩ := h.g hg
  have h3 := ycp hg
  have e : ((n.toNat : Nat) : Int) = n := by omega
  have h4 := ye4 (n := n.toNat) (q := 0) (es := es) (d := d) (by rw [e]; exact hg)
  have h5 := (yio.1 h1).2 (by have := h4.2.2.2.2.2.2.2; rwa [e] at this)
  have h6 := h4.2.2.2.2.2.2.1
  exact ⟨gok_of h.s (by have := h4.2.2.2.1; rwa [e] at this) (by have := h4.2.2.2.2.1; rwa [e] at this), fun v hv => by have := h5 v (by omega); omega, by omega⟩
theorem p_r38_Few {n most : Int} {es : List E3} {d : List Int} {R : Bool → Prop} (h1 : FewOk n es d most → R true) (h2 : ¬ FewOk n es d most → R false) : yil n es d most R := by
  unfold yil
  refine ⟨yhq n es 5 7 = true ∧ d.length ≤ 100, fun ⟨hs, hl⟩ => ?_, p_r08_small ⟨fun hs => ⟨fun hl => h2 fun q => by have := q.l; omega, fun hl => ⟨hs, by omega⟩⟩, fun hs => h2 fun q => hs q.s⟩⟩
  have hel := (of_decide_eq_true hs).1
  refine p_r35_Given (by omega) ⟨fun hg => p_r34_Low ⟨fun hlo => yiU (by omega) (fun i hi => ?_) ?_, fun hlo => h2 fun q => hlo (q.g hg).1⟩, fun hg => h1 ⟨hs, hl, fun q => absurd q hg⟩⟩
  · have h3 := ycp hg
    have e : ((n.toNat : Nat) : Int) = n := by omega
    have h4 := ye4 (n := n.toNat) (q := 0) (es := es) (d := d) (by rw [e]; exact hg)
    have := (yio.1 hlo).2 (by have := h4.2.2.2.2.2.2.2; rwa [e] at this) i hi
    omega
  · by_cases q : dg d ≤ most
    · rw [decide_eq_true q]; exact h1 ⟨hs, hl, fun _ => ⟨hlo, q⟩⟩
    · rw [decide_eq_false q]; exact h2 fun f => q (f.g hg).2
end Go.Proofs.Ytmeoemmemjipdaa

/- The examples of the chapter on ranks come out right; what the law's small functions come to. -/
namespace Go.Proofs.Ytmeoemmemjipdaa
open Go Go.Proofs.Try
set_option linter.unusedVariables false
set_option linter.unusedSimpArgs false
def tri : List E3 := [(0, 1, 1), (0, 2, 1), (1, 2, 1)]
def k4 : List E3 := [(0, 1, 1), (0, 2, 1), (0, 3, 1), (1, 2, 1), (1, 3, 1), (2, 3, 1)]
theorem ygD : GOk 3 tri := ⟨by decide, by decide, by decide, by decide, by decide, by decide⟩
theorem k4_ok : GOk 4 k4 := ⟨by decide, by decide, by decide, by decide, by decide, by decide⟩
theorem one_ok : GOk 1 [] := ⟨by decide, by decide, by decide, by decide, by decide, by decide⟩
theorem al_dec {N k : Nat} {es : List E3} {d : List Int} (S : List (List Int)) (h : ∀ e ∈ ycH (N + 1) k, ∃ s ∈ S, ∀ v, v < N + 1 → 0 ≤ gi (sb (N + 1) d e) v - Lp (N + 1) es (gi s) v) : AL (N + 1) es d (k : Int) := fun e he => by
  obtain ⟨s, -, hs⟩ := h e (eff_list he)
  exact ⟨gi s, hs⟩
theorem yd1 {n : Nat} {es : List E3} {d : List Int} (G : GOk n es) (q : Nat) (hq : q < n) (h1 : ∀ v, v < n → v ≠ q → 0 ≤ gi d v) (h2 : ∀ m, m < 2 ^ n → 1 ≤ m → m.testBit q = false → ¬ (∀ v, v < n → m.testBit v = true → outS n es m.testBit v ≤ gi d v)) (hneg : gi d q < 0) : ¬ Win n es d := fun hw => by
  have := (yjm (d := d) (r := d) (s := fun _ => 0) G.E hq (red_of_dec hq h1 h2) fun v hv => by rw [yfV]; omega).1 hw
  omega
theorem no_dec {N k : Nat} {es : List E3} {d : List Int} (e : List Int) (he : e ∈ ycH (N + 1) k) (h : ¬ Win (N + 1) es (sb (N + 1) d e)) : ¬ AL (N + 1) es d (k : Int) := fun q => h (q e (yiC he))
theorem ex1 : RkOk 3 tri [1, 1, 0] 1 := ⟨by omega, al_dec (N := 2) (k := 1) [[0, 0, 0], [1, 1, 0]] (by decide), no_dec (N := 2) (k := 2) [0, 1, 1] (by decide) (yd1 ygD 2 (by decide) (by decide) (by decide) (by decide))⟩
theorem ex2 : RkOk 3 tri [0, 1, 0] 0 := ⟨by omega, al_dec (N := 2) (k := 0) [[0, 0, 0]] (by decide), no_dec (N := 2) (k := 1) [0, 0, 1] (by decide) (yd1 ygD 2 (by decide) (by decide) (by decide) (by decide))⟩
theorem ex3 : RkOk 4 k4 [1, 1, 0, 0] 0 := ⟨by omega, al_dec (N := 3) (k := 0) [[0, 0, 0, 0]] (by decide), no_dec (N := 3) (k := 1) [0, 0, 1, 0] (by decide) (yd1 k4_ok 2 (by decide) (by decide) (by decide) (by decide))⟩
theorem ex4 : RkOk 4 k4 [1, 1, 1, 0] 1 := ⟨by omega, al_dec (N := 3) (k := 1) [[0, 0, 0, 0], [1, 1, 1, 0]] (by decide), no_dec (N := 3) (k := 2) [2, 0, 0, 0] (by decide) (yd1 k4_ok 0 (by decide) (by decide) (by decide) (by decide))⟩
theorem ex5 : RkOk 4 k4 [1, 1, 1, 1] 2 := ⟨by omega, al_dec (N := 3) (k := 2) [[0, 0, 0, 0], [0, 1, 1, 1], [1, 0, 1, 1], [1, 1, 0, 1], [1, 1, 1, 0]] (by decide), no_dec (N := 3) (k := 3) [2, 1, 0, 0] (by decide) (yd1 k4_ok 0 (by decide) (by decide) (by decide) (by decide))⟩
theorem ex6 : RkOk 1 [] [3] 3 := ⟨by omega, al_dec (N := 0) (k := 3) [[0]] (by decide), no_dec (N := 0) (k := 4) [4] (by decide) (yd1 one_ok 0 (by decide) (by decide) (by decide) (by decide))⟩
theorem wx1 : yiH 3 tri [1, 1, 0] [0, 1, 1] := ⟨1, ex1, ⟨[[0, 0, 2]], [[0, 2, 0], [1, 0, 1], [1, 1, 0], [2, 0, 0]], by decide, fun e he => by
  rw [List.mem_singleton] at he
  subst he
  exact ⟨gi [1, 1, 0], by decide⟩⟩, yd1 ygD 2 (by decide) (by decide) (by decide) (by decide)⟩
theorem wx2 : yiH 3 tri [0, 1, 0] [0, 0, 1] := ⟨0, ex2, ⟨[], [[0, 1, 0], [1, 0, 0]], by decide, fun e he => by simp at he⟩, yd1 ygD 2 (by decide) (by decide) (by decide) (by decide)⟩
theorem ygo {n : Nat} {es : List E3} {d : List Int} {r : Int} {R : Int → Int → Prop} (hr : RkOk n es d r) (G : GOk n es) (hd : d.length = n) (hb : ∀ v, v < n → -200 ≤ gi d v ∧ gi d v ≤ 200) (h5 : dg d ≤ 5) (h : R r 0) : ya4 (n : Int) es d R := by
  have := G.el
  refine yhN (by omega) (fun q => absurd (G.giv hd fun v hv => by have := hb v hv; omega) q) fun _ => ?_
  simp only [Int.toNat_natCast]
  exact ⟨G, hb, h5, fun k hk => by rw [hk.eq G.n1 hr]; exact h⟩
theorem ex_wit {n : Nat} {es : List E3} {d w : List Int} {R : List Int → Int → Prop} (hr : yiH n es d w) (G : GOk n es) (hd : d.length = n) (hb : ∀ v, v < n → -150 ≤ gi d v ∧ gi d v ≤ 150) (h5 : dg d ≤ 5) (h : R w 0) : ybw (n : Int) es d R := by
  have := G.el
  refine yis (by omega) (fun q => absurd (G.giv hd fun v hv => by have := hb v hv; omega) q) fun _ => ?_
  simp only [Int.toNat_natCast]
  exact ⟨⟨G, hb, h5⟩, fun k hk => by rw [hk.eq G.n1 hr]; exact h⟩
theorem ydI {R : Bool → Prop} (h : R true) : ybI R := by
  unfold ybI
  generalize hL : ([(3, [(0, 1, 1), (0, 2, 1), (1, 2, 1)], [1, 1, 0], 1), (3, [(0, 1, 1), (0, 2, 1), (1, 2, 1)], [0, 1, 0], 0), (4, [(0, 1, 1), (0, 2, 1), (0, 3, 1), (1, 2, 1), (1, 3, 1), (2, 3, 1)], [1, 1, 0, 0], 0), (4, [(0, 1, 1), (0, 2, 1), (0, 3, 1), (1, 2, 1), (1, 3, 1), (2, 3, 1)], [1, 1, 1, 0], 1), (4, [(0, 1, 1), (0, 2, 1), (0, 3, 1), (1, 2, 1), (1, 3, 1), (2, 3, 1)], [1, 1, 1, 1], 2), (1, [], [3], 3)] : List (Int × (List (Int × Int × Int)) × (List Int) × Int)) = L
  have hlen : L.length = 6 := by rw [← hL]; rfl
  have e0 : gx L 0 = (3, tri, [1, 1, 0], 1) := by rw [← hL]; rfl
  have e1 : gx L 1 = (3, tri, [0, 1, 0], 0) := by rw [← hL]; rfl
  have e2 : gx L 2 = (4, k4, [1, 1, 0, 0], 0) := by rw [← hL]; rfl
  have e3 : gx L 3 = (4, k4, [1, 1, 1, 0], 1) := by rw [← hL]; rfl
  have e4 : gx L 4 = (4, k4, [1, 1, 1, 1], 2) := by rw [← hL]; rfl
  have e5 : gx L 5 = (1, [], [3], 3) := by rw [← hL]; rfl
  clear hL
  rw [hlen]
  refine ⟨fun m v => ∃ k : Nat, v = (k : Int) ∧ k ≤ 6 ∧ m = 6 - k, ⟨6, 0, rfl, by omega, rfl⟩, ?_⟩
  rintro m _ ⟨k, rfl, hk, rfl⟩
  simp only [Int.toNat_natCast]
  refine ⟨fun hlt => ?_, fun _ => ?_⟩
  · have hk6 : k < 6 := by omega
    have nx : In64 ((k : Int) + 1) ∧ ∃ m3, m3 < 6 - k ∧ ∃ k' : Nat, (k : Int) + 1 = (k' : Int) ∧ k' ≤ 6 ∧ m3 = 6 - k' := ⟨i64 (by omega), 6 - (k + 1), by omega, k + 1, by omega, by omega, rfl⟩
    refine ⟨⟨by omega, by omega⟩, ?_⟩
    rcases (by omega : k = 0 ∨ k = 1 ∨ k = 2 ∨ k = 3 ∨ k = 4 ∨ k = 5) with rfl | rfl | rfl | rfl | rfl | rfl
    · rw [e0]
      show ya4 ((3 : Nat) : Int) tri [1, 1, 0] _
      exact ygo ex1 ygD (by decide) (by decide) (by decide) ⟨fun _ => ⟨fun _ => nx, fun q => absurd rfl q⟩, fun q => absurd rfl q⟩
    · rw [e1]
      show ya4 ((3 : Nat) : Int) tri [0, 1, 0] _
      exact ygo ex2 ygD (by decide) (by decide) (by decide) ⟨fun _ => ⟨fun _ => nx, fun q => absurd rfl q⟩, fun q => absurd rfl q⟩
    · rw [e2]
      show ya4 ((4 : Nat) : Int) k4 [1, 1, 0, 0] _
      exact ygo ex3 k4_ok (by decide) (by decide) (by decide) ⟨fun _ => ⟨fun _ => nx, fun q => absurd rfl q⟩, fun q => absurd rfl q⟩
    · rw [e3]
      show ya4 ((4 : Nat) : Int) k4 [1, 1, 1, 0] _
      exact ygo ex4 k4_ok (by decide) (by decide) (by decide) ⟨fun _ => ⟨fun _ => nx, fun q => absurd rfl q⟩, fun q => absurd rfl q⟩
    · rw [e4]
      show ya4 ((4 : Nat) : Int) k4 [1, 1, 1, 1] _
      exact ygo ex5 k4_ok (by decide) (by decide) (by decide) ⟨fun _ => ⟨fun _ => nx, fun q => absurd rfl q⟩, fun q => absurd rfl q⟩
    · rw [e5]
      show ya4 ((1 : Nat) : Int) [] [3] _
      exact ygo ex6 one_ok (by decide) (by decide) (by decide) ⟨fun _ => ⟨fun _ => nx, fun q => absurd rfl q⟩, fun q => absurd rfl q⟩
  · refine ex_wit wx1 ygD (by decide) (by decide) (by decide) (ex_wit wx2 ygD (by decide) (by decide) (by decide) ⟨fun _ => ⟨fun _ => ?_, fun q => absurd rfl q⟩, fun q => absurd rfl q⟩)
    exact ycW (by decide) ⟨fun _ => ycW (by decide) h, fun q => absurd (by decide) q⟩
end Go.Proofs.Ytmeoemmemjipdaa

/- Laws of layer 38: the answers are the reference's. -/
namespace Go.Proofs.Ytmeoemmemjipdaa
open Go Go.Proofs.Try
set_option linter.unusedVariables false
set_option linter.unusedSimpArgs false
section
variable {n most : Int} {es : List E3} {d : List Int} (hF : FewOk n es d most) (hm : most ≤ 5)
include hF hm
end
theorem wit_len {n : Nat} {es : List E3} {d w : List Int} (hn : 1 ≤ n) (h : yiH n es d w) : w.length = n := by
  obtain ⟨k, h1, h2⟩ := h
  obtain ⟨N, rfl⟩ : ∃ N, n = N + 1 := ⟨n - 1, by omega⟩
  exact h2.mem.len
end Go.Proofs.Ytmeoemmemjipdaa

/- What rank.VerifyLess, rank.Verify and rank.Certificate come to, and their references. -/
namespace Go.Proofs.Ytmeoemmemjipdaa
open Go Go.Proofs.Try
set_option linter.unusedVariables false
set_option linter.unusedSimpArgs false
section
variable {n : Int} {es : List E3} {d e s : List Int} {b : Bool} {R : Int → Prop}
end
section
variable {n : Int} {es : List E3} {d : List Int} {r : Int} {l : List (List Int)} {R : Int → Prop}
end
def yi8 (n : Nat) (es : List E3) (d : List Int) : List (List Int) → List (List Int) → Prop
  | [], [] => True
  | e :: A, s :: out => (∃ x, Reduces n es 0 (sb n d e) x s) ∧ yi8 n es d A out
  | _, _ => False
section
variable {n : Nat} {es : List E3} {d : List Int}
theorem yi8.eq (hE : EOk n es) (hn : 1 ≤ n) : ∀ {A o o' : List (List Int)}, yi8 n es d A o → yi8 n es d A o' → o = o'
  | [], [], [], _, _ => rfl
  | [], [], _ :: _, _, q => absurd q id
  | [], _ :: _, _, q, _ => absurd q id
  | _ :: _, [], _, q, _ => absurd q id
  | _ :: _, _ :: _, [], _, q => absurd q id
  | a :: A, s :: o, s' :: o', ⟨⟨x, hx⟩, h2⟩, ⟨⟨y, hy⟩, h2'⟩ => by
    rw [yi8.eq hE hn h2 h2', (reduces_eq hE (by omega) hx hy.dl hy.sl hy.lp hy.sq hy.red).2]
end
end Go.Proofs.Ytmeoemmemjipdaa

/- A graph is looked through whatever its length: a right one has few edges. -/
namespace Go.Proofs.Ytmeoemmemjipdaa
open Go Go.Proofs.Try
set_option linter.unusedVariables false
set_option linter.unusedSimpArgs false
theorem p_r08_edge0 {n : Int} {es : List E3} {k : Nat} {R : Int → Prop} (hk : k < es.length) (hl : k ≤ 1000000000) (h : R (yfr n (pre es k).1 (pre es k).2 (ge es k))) : ydQ n es (k : Int) R := by
  unfold ydQ
  simp only [Int.toNat_natCast]
  generalize hx : ge es k = x at h ⊢
  refine ⟨by omega, (0 ≤ x.1 ∧ x.1 < n) ∧ (0 ≤ x.2.1 ∧ x.2.1 < n) ∧ 1 ≤ x.2.2 ∧ x.2.2 ≤ 50, fun hJ => ?_, ?_⟩
  · have hed : ∀ a b, yfr n a b x = if x.1 ≤ x.2.1 ∧ ye0 a b x.1 x.2.1 < 0 then 0 else 9 := fun a b => by unfold yfr; rw [if_pos hJ]
    rw [hed] at h
    refine ⟨fun q => by rw [if_neg (by omega)] at h; exact h, fun q => ⟨fun h0 => ?_, fun h0 => ?_⟩⟩
    · have e1 : ((k : Int) - 1).toNat = k - 1 := by omega
      rw [e1]
      have hp : pre es k = ((ge es (k - 1)).1, (ge es (k - 1)).2.1) := by unfold pre; rw [if_neg (by omega)]
      rw [hp] at h
      have hc := yhJ (ge es (k - 1)).1 (ge es (k - 1)).2.1 x.1 x.2.1
      refine ⟨i64 (by omega), by omega, fun q1 => ?_, fun q1 => ⟨fun q2 => ⟨fun q3 => ?_, fun q3 => ?_⟩, fun q2 => ?_⟩⟩
      · rw [if_neg (fun h => by have := hc.1 h.2; omega)] at h; exact h
      · rw [if_neg (fun h => by have := hc.1 h.2; omega)] at h; exact h
      · rw [if_pos ⟨by omega, hc.2 (by omega)⟩] at h; exact h
      · rw [if_pos ⟨by omega, hc.2 (by omega)⟩] at h; exact h
    · have hp : pre es k = (-1, -1) := by unfold pre; rw [if_pos (by omega)]
      rw [hp, if_pos ⟨by omega, (yhJ _ _ _ _).2 (.inl (by omega))⟩] at h
      exact h
  · have hed : ¬ ((0 ≤ x.1 ∧ x.1 < n) ∧ (0 ≤ x.2.1 ∧ x.2.1 < n) ∧ 1 ≤ x.2.2 ∧ x.2.2 ≤ 50) → R 2 := fun q => by unfold yfr at h; rwa [if_neg q] at h
    refine ygy ⟨fun h1 => ygy ⟨fun h2 => ⟨fun h3 => hed (by omega), fun h3 => ⟨fun h4 => hed (by omega), fun h4 => ?_⟩⟩, fun h2 => hed (by simp at h2; omega)⟩, fun h1 => hed (by simp at h1; omega)⟩
    simp only [decide_eq_true_eq] at h1 h2
    exact ⟨h1, h2, by omega, by omega⟩
theorem gchk_few {n : Int} (hn : n ≤ 12) : ∀ {es : List E3} {a b : Int}, a ≤ 11 → b ≤ 11 → gchk n a b es = 0 → (es.length : Int) ≤ 143 - 12 * a - b ∨ es = []
  | [], _, _, _, _, _ => .inr rfl
  | x :: t, a, b, ha, hb, h => by
    unfold gchk at h
    split at h
    · rename_i c
      split at h
      · rename_i c2
        have h2 := (yhJ _ _ _ _).1 c2.2
        rcases gchk_few hn (by omega) (by omega) h with q | q
        · left; rw [List.length_cons]; omega
        · subst q; left; simp; omega
      · omega
    · omega
theorem edges_few {n : Int} {es : List E3} (hg : yar n es = 0) : es.length ≤ 156 := by
  unfold yar at hg
  split at hg
  · rcases gchk_few (by omega) (by omega) (by omega) hg with q | q
    · omega
    · rw [q]; simp
  · omega
theorem p_r08_Check0 {n : Int} {es : List E3} {R : Int → Prop} (h : R (yar n es)) : ycA n es R := by
  unfold ycA
  have hout : ¬ (1 ≤ n ∧ n ≤ 12) → R 2 := fun q => by unfold yar at h; rwa [if_neg q] at h
  refine ⟨1 ≤ n ∧ n ≤ 12, fun hn => ?_, fun q => hout (by omega), fun q => ⟨fun q2 => hout (by omega), fun q2 => ⟨by omega, by omega⟩⟩⟩
  have hg : yar n es = gchk n (-1) (-1) es := by unfold yar; rw [if_pos hn]
  rw [hg] at h
  refine ⟨fun m i => ∃ k : Nat, i = (k : Int) ∧ k ≤ es.length ∧ m = es.length - k ∧ gchk n (-1) (-1) es = gchk n (pre es k).1 (pre es k).2 (es.drop k) ∧ (k = 0 ∨ (0 ≤ (pre es k).1 ∧ (pre es k).1 < 12 ∧ 0 ≤ (pre es k).2 ∧ (pre es k).2 < 12 ∧ (k : Int) ≤ 12 * (pre es k).1 + (pre es k).2 + 1)), ⟨_, 0, rfl, by omega, rfl, rfl, .inl rfl⟩, ?_⟩
  rintro m _ ⟨k, rfl, hk, rfl, hinv, hfew⟩
  refine ⟨fun hlt => p_r08_edge0 (by omega) (by omega) ⟨fun h0 => ?_, fun h0 => ?_⟩, fun hge => ?_⟩
  · refine ⟨i64 (by omega), es.length - (k + 1), by omega, k + 1, rfl, by omega, rfl, ?_, .inr ?_⟩
    · rw [ygd (by omega), ye6, if_pos h0] at hinv
      rw [hinv]; simp [pre]
    · have hp : pre es (k + 1) = ((ge es k).1, (ge es k).2.1) := by simp [pre]
      rw [hp]
      unfold yfr at h0
      split at h0
      · rename_i c
        split at h0
        · rename_i c2
          have h2 := (yhJ _ _ _ _).1 c2.2
          rcases hfew with q | q
          · subst q; simp only; omega
          · simp only; omega
        · omega
      · omega
  · rw [ygd (by omega), ye6, if_neg h0] at hinv
    rwa [hinv] at h
  · have hk2 : k = es.length := by omega
    rw [hinv, hk2, List.drop_length] at h
    exact h
theorem p_r25_Joined0 {n : Int} {es : List E3} {R : Int → Prop} (h : R (ybN n es)) : ycP n es R := by
  unfold ycP
  unfold ybN at h
  refine p_r08_Check0 ⟨fun h0 => ?_, fun h0 => by rwa [if_neg h0] at h⟩
  rw [if_pos h0] at h
  have hn : 1 ≤ n ∧ n ≤ 12 := by
    unfold yar at h0
    split at h0
    · assumption
    · omega
  obtain ⟨n, rfl⟩ : ∃ n' : Nat, n = (n' : Int) := ⟨n.toNat, by omega⟩
  have := edges_few h0
  exact yhr (by omega) h0 ⟨fun h1 => by rwa [if_pos h1] at h, fun h1 => by rwa [if_neg h1] at h⟩
end Go.Proofs.Ytmeoemmemjipdaa

/- Laws of layer 36: proofs, prices, costs, moves. -/
namespace Go.Proofs.Ytmeoemmemjipdaa
open Go Go.Proofs.Try
set_option linter.unusedVariables false
set_option linter.unusedSimpArgs false
theorem yib {s : List (List Int)} {F : List Int → (Bool → Prop) → Prop} {p : List Int → Bool} {R : Bool → Prop} (hl : s.length ≤ 1000000000) (hF : ∀ x (R' : Bool → Prop), x ∈ s → R' (p x) → F x R') (h1 : (∀ x ∈ s, p x = false) → R false) (h2 : ∀ x ∈ s, p x = true → R true) : yes s F R := by
  unfold yes yhV
  have hm : ∀ k, k < s.length → gx s k ∈ s := fun k hk => List.mem_of_getElem? (yiK hk)
  refine ⟨Cnt s.length (fun k => ∀ j, j < k → p (gx s j) = false), Cnt.start (fun j hj => absurd hj (by omega)), ?_⟩
  rintro m _ ⟨k, rfl, rfl, hk, hinv⟩
  simp only [Int.toNat_natCast]
  refine ⟨fun hlt => ⟨by omega, hF _ _ (hm k (by omega)) ⟨fun h => ?_, fun h => Cnt.next (by omega) (by omega) fun j hj => ?_⟩⟩, fun hge => ?_⟩
  · rw [decide_eq_true (by omega)]; exact h2 _ (hm k (by omega)) h
  · by_cases e : j = k
    · subst e; simpa using h
    · exact hinv j (by omega)
  · rw [decide_eq_false (by omega)]
    refine h1 fun x hx => ?_
    obtain ⟨j, hj⟩ := List.getElem?_of_mem hx
    have hjl := (List.getElem?_eq_some_iff.1 hj).1
    have := hinv j (by omega)
    rw [yiK hjl] at hj
    cases hj
    exact this
end Go.Proofs.Ytmeoemmemjipdaa

/- Laws of layer 36: what an answer proves, equivalent divisors. -/
namespace Go.Proofs.Ytmeoemmemjipdaa
open Go Go.Proofs.Try
set_option linter.unusedVariables false
set_option linter.unusedSimpArgs false
end Go.Proofs.Ytmeoemmemjipdaa

/- Laws of layer 38: Refutes, Verifies, Moves, Adds, Agrees. -/
namespace Go.Proofs.Ytmeoemmemjipdaa
open Go Go.Proofs.Try
set_option linter.unusedVariables false
set_option linter.unusedSimpArgs false
structure RtOk (n : Int) (es : List E3) (most : Int) (d : List Int) : Prop where
  j : ybN n es = 0
  c : yaD d n = 0
  f : FewOk n es d most
theorem RtOk.giv {n most : Int} {es : List E3} {d : List Int} (h : RtOk n es most d) : yaL n es 0 d = 0 := by rw [given0, if_pos h.j, h.c]
theorem bool_ofL (p : List Int → Prop) : ∃ f : List Int → Bool, ∀ d, f d = true ↔ p d := ⟨fun v => @decide (p v) (Classical.propDecidable _), fun v => by simp⟩
theorem yiF {n most : Int} {es : List E3} {l : List (List Int)} {R : Bool → Prop} (hl : l.length ≤ 1000) (h1 : (∀ d ∈ l, RtOk n es most d) → R true) (h2 : R false) : yh4 n es most l R := by
  unfold yh4
  refine p_r25_Joined0 ⟨fun hj => ?_, fun _ => h2⟩
  obtain ⟨p, hp⟩ := bool_ofL fun d => ¬ (yaD d n = 0 ∧ FewOk n es d most)
  refine yib (p := p) (by omega) (fun d R' hd hR' => ?_) (fun hall => ?_) (fun d hd hp => by simpa using h2)
  · unfold yh8
    refine yhF ⟨fun hc => p_r38_Few (fun hF => ?_) (fun hF => ?_), fun hc => ?_⟩
    · have e : p d = false := by rw [Bool.eq_false_iff]; exact fun q => (hp d).1 q ⟨hc, hF⟩
      rw [e] at hR'; exact hR'
    · have e : p d = true := (hp d).2 fun q => hF q.2
      rw [e] at hR'; exact hR'
    · have e : p d = true := (hp d).2 fun q => hc q.1
      rw [e] at hR'; exact hR'
  · refine h1 fun d hd => ?_
    have h3 := hall d hd
    have h4 : yaD d n = 0 ∧ FewOk n es d most := Classical.not_not.1 fun q => by rw [(hp d).2 q] at h3; cases h3
    exact ⟨hj, h4.1, h4.2⟩
theorem rank_at {n : Nat} {es : List E3} {d : List Int} {R : Int → Int → Prop} (hg : yaL n es 0 d = 0) (hD : DOk n es d) (h : ∀ k, RkOk n es d k → R k 0) : ya4 n es d R :=
  yhN (by have := hD.G.el; omega) (fun q => absurd hg q) fun _ => by
    simp only [Int.toNat_natCast]
    exact ⟨hD.G, fun v hv => by have := hD.b v hv; omega, hD.d5, h⟩
theorem wit_at {n : Nat} {es : List E3} {d : List Int} {R : List Int → Int → Prop} (hg : yaL n es 0 d = 0) (hD : DOk n es d) (h : ∀ w, yiH n es d w → R w 0) : ybw n es d R :=
  yis (by have := hD.G.el; omega) (fun q => absurd hg q) fun _ => by
    simp only [Int.toNat_natCast]
    exact ⟨hD, h⟩
theorem RtOk.nat {n : Nat} {most : Int} {es : List E3} {d : List Int} (h : RtOk n es most d) (hm : most ≤ 5) : DOk n es d ∧ yaL n es 0 d = 0 ∧ d.length = n ∧ dg d ≤ most ∧ ∀ v, v < n → -100 ≤ gi d v ∧ gi d v ≤ 100 := by
  have hg := h.giv
  have hD := h.f.dok hm hg
  rw [Int.toNat_natCast] at hD
  have h4 := ye4 (q := 0) hg
  have hlo := (yio.1 (h.f.g hg).1).2 h.c
  exact ⟨hD, hg, h4.2.2.2.2.2.2.1, (h.f.g hg).2, fun v hv => hlo v (by have := h4.2.2.2.2.2.2.1; omega)⟩
theorem RtOk.int {n most : Int} {es : List E3} {d : List Int} (h : RtOk n es most d) : ∃ n' : Nat, n = (n' : Int) := ⟨n.toNat, by have := ycp h.giv; omega⟩
theorem wit_eqv {n : Nat} {es : List E3} {x y w : List Int} {s : Nat → Int} (h : ∀ v, v < n → gi y v = gi x v - Lp n es s v) : yiH n es x w ↔ yiH n es y w := by
  have key : ∀ e, Win n es (sb n x e) ↔ Win n es (sb n y e) := fun e => win_eqv (s := s) fun v hv => by rw [yeM hv, yeM hv, h v hv]; omega
  have kf : ∀ k, FailAt n es x k w ↔ FailAt n es y k w := fun k => ⟨fun ⟨⟨A, B, e, hA⟩, hn⟩ => ⟨⟨A, B, e, fun z hz => (key z).1 (hA z hz)⟩, fun q => hn ((key w).2 q)⟩, fun ⟨⟨A, B, e, hA⟩, hn⟩ => ⟨⟨A, B, e, fun z hz => (key z).2 (hA z hz)⟩, fun q => hn ((key w).1 q)⟩⟩
  exact ⟨fun ⟨k, h1, h2⟩ => ⟨k, (rk_eqv h).1 h1, (kf _).1 h2⟩, fun ⟨k, h1, h2⟩ => ⟨k, (rk_eqv h).2 h1, (kf _).2 h2⟩⟩
theorem p_rankmoves {n : Int} {es : List E3} {d s : List Int} : yh3 n es d s (fun b => b = true) := by
  unfold yh3
  refine ⟨RtOk n es 5 d ∧ (s.length : Int) = n ∧ (∀ j, j < s.length → -3 ≤ gi s j ∧ gi s j ≤ 3), fun ⟨hR, hsn, hsb⟩ => ?_, yiF (by simp) (fun hR => ⟨fun _ => ⟨fun hsn => ?_, fun _ => ydI rfl⟩, fun q => absurd rfl q⟩) ⟨fun q => (by cases q), fun _ => ydI rfl⟩⟩
  · obtain ⟨n, rfl⟩ := hR.int
    obtain ⟨hD, hg, hdl, h5, hdb⟩ := hR.nat (by omega)
    have hn1 := hD.G.n1
    have hn5 := hD.G.n5
    have hel := hD.G.el
    have hsc : yaD s n = 0 := yef (by omega) (by omega) (by omega) fun j hj => by have := hsb j (by omega); omega
    refine p_firing_Apply (by omega) hD.G.g hR.c hsc (fun hall => ?_) (fun hall => ?_)
    · have hog : ∀ v, v < n → gi (appF n es d s) v = gi d v - Lp n es (gi s) v := fun v hv => ydm _ hv
      generalize appF n es d s = o at hog hall ⊢
      refine ⟨RtOk n es 5 o, fun hR2 => ?_, True, fun _ => ⟨fun _ => ydI rfl, fun q => absurd rfl q⟩, fun _ => yiF (by simp) (fun hR2 => ⟨fun _ => hR2 o (by simp), fun q => absurd rfl q⟩) ⟨fun q => (by cases q), fun _ => trivial⟩, fun q => absurd rfl q⟩
      obtain ⟨hD2, hg2, hol, h52, hob⟩ := hR2.nat (by omega)
      refine rank_at hg hD fun k hk => rank_at hg2 hD2 fun k2 hk2 => wit_at hg hD fun w hw => wit_at hg2 hD2 fun w2 hw2 => ⟨i64 (by omega), i64 (by omega), i64 (by omega), fun _ => ⟨fun _ => ?_, fun q => absurd (((rk_eqv hog).1 hk).eq hn1 hk2) q⟩, fun q => absurd (by decide) q⟩
      have e : w = w2 := ((wit_eqv hog).1 hw).eq hn1 hw2
      have := wit_len hn1 hw2
      have := wit_len hn1 hw
      exact ycW (by omega) ⟨fun _ => ydI rfl, fun q => absurd (decide_eq_true e) q⟩
    · exfalso
      rw [Bool.eq_false_iff] at hall
      apply hall
      rw [yb3]
      intro v hv
      rw [ycx] at hv
      have h0 : gi (appF n es d s) v = gi d v - Lp n es (gi s) v := ydm _ hv
      rw [h0]
      have h1 := hdb v hv
      have h2 := Lp_few hD.G.g (s := gi s) (B := 3) (by omega) (fun j hj => by have := hsb j (by omega); omega) hv
      unfold inF
      rw [decide_eq_true_eq]; omega
  · have hR := hR d (by simp)
    obtain ⟨n, rfl⟩ := hR.int
    have hn5 := (hR.nat (by omega)).1.G.n5
    refine yie (p := fun x => decide (x < -3 ∨ 3 < x)) (by omega) (fun x R' hR' => ?_) ⟨fun _ => ydI rfl, fun h3 => ⟨hR, hsn, fun j hj => ?_⟩⟩
    · unfold yh0
      refine ⟨fun q => ?_, fun q => ?_⟩
      · rwa [decide_eq_true (.inl q)] at hR'
      · have e : decide (3 < x) = decide (x < -3 ∨ 3 < x) := by rw [decide_eq_decide]; omega
        rw [e]; exact hR'
    · have h4 : ¬ ((gi s j < -3 ∨ 3 < gi s j)) := fun h5 => h3 (any_gi.2 ⟨j, hj, decide_eq_true h5⟩)
      omega
end Go.Proofs.Ytmeoemmemjipdaa
