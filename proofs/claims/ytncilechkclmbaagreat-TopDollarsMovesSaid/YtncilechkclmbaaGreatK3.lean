/- Texts laid together: GoodS, GoodT, Graph, Connect, Parts, Conn2, Con, Red, Reduce, Unb, Awake, Rm, RedIn, Wr, Opn, Opn2, It, Map, Ret, Arr, Col, Dr, Cpk, Kt, ItP. -/
import Derived.Maps.Own
import Derived.Maps.OwnOps
import Derived.Deep.AppendLies
import Derived.Deep.RegionLaw
import Derived.Deep.RegionHeld3
import Derived.Test.YtncilechkclmbaaGreatRows
import Derived.ProofKit
import Derived.Lib.SmallJoins
import Derived.Deep.Slices
import Derived.Below
import Derived.OpenShut
import Derived.Maps.Keyed
import Derived.DeepKeys4
import Derived.Test.YtncilechkclmbaaGreatK2
/- Settling: what holds before and behind each firing; reduced divisors and that they are alone. No program in sight. -/
namespace Go.Proofs.YtncilechkclmbaaGreat
open Go Go.Proofs.Tryz
set_option linter.unusedVariables false
set_option linter.unusedSectionVars false
def Conn (n : Nat) (es : List E3) (q : Nat) : Prop := ∀ S : Nat → Bool, S q = false → (∃ v, v < n ∧ S v = true) → ∃ v u, v < n ∧ u < n ∧ S v = true ∧ S u = false ∧ 0 < W es v u
structure Red (n : Nat) (es : List E3) (q : Nat) (d : List Int) : Prop where
  pos : ∀ v, v < n → v ≠ q → 0 ≤ gi d v
  no : ∀ S : Nat → Bool, S q = false → (∃ v, v < n ∧ S v = true) → ∃ v, v < n ∧ S v = true ∧ gi d v < sm n (fun u => if S u then 0 else W es v u)
theorem yeY (c : Int) : ∀ n : Nat, sm n (fun _ => c) = n * c
  | 0 => by simp [sm]
  | n + 1 => by
    rw [sm, yeY c n]
    have : ((n + 1 : Nat) : Int) = (n : Int) + 1 := by omega
    rw [this, Int.add_mul]; omega
theorem ylj {f : Nat → Int} {n q : Nat} (hq : q < n) : sm n f = f q + sm n (fun v => if v = q then 0 else f v) := by
  have h1 := yeI (f q) hq
  rw [← h1, ← ycF]
  exact yau fun i _ => by
    show f i = ite _ _ _ + ite _ _ _
    split
    · subst_vars; omega
    · omega
def low (n : Nat) (f : Nat → Int) (c : Int) : Int := sm n (fun x => if f x < c then 1 else 0)
theorem climb {n : Nat} {es : List E3} {q : Nat} (hE : EOk n es) (hC : Conn n es q) (hq : q < n) {f : Nat → Int} {G : Int} (hG0 : 0 ≤ G) (hG : ∀ S : Nat → Bool, S q = false → sm n (fun v => if S v then Lp n es f v else 0) ≤ G) :
    ∀ v, v < n → f v - f q ≤ low n f (f v) * G := by
  suffices H : ∀ (k : Nat) v, v < n → low n f (f v) ≤ k → f v - f q ≤ low n f (f v) * G from fun v hv => H (low n f (f v)).toNat v hv (by omega)
  have lown : ∀ c, 0 ≤ low n f c := fun c => ya6 fun x _ => by show 0 ≤ ite _ _ _; split <;> omega
  have step : ∀ v, v < n → f q < f v → ∃ u, u < n ∧ f u < f v ∧ f v - f u ≤ G ∧ low n f (f u) + 1 ≤ low n f (f v) := by
    intro v hv hlt
    have hS0 : (fun x => decide (f v ≤ f x)) q = false := by simp; omega
    obtain ⟨x, u, hx, hu, hSx, hSu, hW⟩ := hC (fun x => decide (f v ≤ f x)) hS0 ⟨v, hv, by simp⟩
    simp only [decide_eq_true_eq, decide_eq_false_iff_not] at hSx hSu
    have h1 := hG (fun x => decide (f v ≤ f x)) hS0
    rw [Lp_cut] at h1
    have nn : ∀ a b, 0 ≤ (if (decide (f v ≤ f a) && !decide (f v ≤ f b)) = true then W es a b * (f a - f b) else 0) := fun a b => by
      split
      · rename_i h
        simp only [Bool.and_eq_true, decide_eq_true_eq, Bool.not_eq_true', decide_eq_false_iff_not] at h
        exact Int.mul_nonneg (ybq hE a b) (by omega)
      · omega
    have h2 := ygQ (n := n) (f := fun a => sm n (fun b => if (decide (f v ≤ f a) && !decide (f v ≤ f b)) = true then W es a b * (f a - f b) else 0)) (fun a _ => ya6 fun b _ => nn a b) x hx
    have h3 := ygQ (n := n) (f := fun b => if (decide (f v ≤ f x) && !decide (f v ≤ f b)) = true then W es x b * (f x - f b) else 0) (fun b _ => nn x b) u hu
    have h4 : (decide (f v ≤ f x) && !decide (f v ≤ f u)) = true := by
      simp only [Bool.and_eq_true, decide_eq_true_eq, Bool.not_eq_true', decide_eq_false_iff_not]; omega
    simp only [h4, if_true] at h3
    have h5 : 1 * (f x - f u) ≤ W es x u * (f x - f u) := Int.mul_le_mul_of_nonneg_right (by omega) (by omega)
    have h6 : f x - f u ≤ G := by
      have h2' : sm n (fun b => if (decide (f v ≤ f x) && !decide (f v ≤ f b)) = true then W es x b * (f x - f b) else 0) ≤ sm n (fun a => sm n (fun b => if (decide (f v ≤ f a) && !decide (f v ≤ f b)) = true then W es a b * (f a - f b) else 0)) := h2
      omega
    refine ⟨u, hu, by omega, by omega, ?_⟩
    unfold low
    have h7 := yeI 1 hu
    rw [← h7, ← ycF]
    refine yer fun i _ => ?_
    show ite _ _ _ + ite _ _ _ ≤ ite _ _ _
    by_cases e : i = u
    · subst e; rw [if_neg (by omega), if_pos rfl, if_pos (by omega)]; omega
    · rw [if_neg e]; split <;> split <;> omega
  intro k
  induction k with
  | zero =>
    intro v hv hk
    by_cases h : f q < f v
    · obtain ⟨u, hu, h1, h2, h3⟩ := step v hv h
      have := lown (f u); omega
    · have := Int.mul_nonneg (lown (f v)) hG0; omega
  | succ k ih =>
    intro v hv hk
    by_cases h : f q < f v
    · obtain ⟨u, hu, h1, h2, h3⟩ := step v hv h
      have h4 := ih u hu (by omega)
      have h5 : (low n f (f u) + 1) * G ≤ low n f (f v) * G := Int.mul_le_mul_of_nonneg_right h3 hG0
      rw [Int.add_mul] at h5; omega
    · have := Int.mul_nonneg (lown (f v)) hG0; omega
theorem low_le {n : Nat} {f : Nat → Int} {v : Nat} (hv : v < n) : low n f (f v) ≤ (n : Int) - 1 := by
  have h7 := yeI 1 hv
  have h1 : low n f (f v) + sm n (fun i => if i = v then 1 else 0) ≤ sm n (fun _ => 1) := by
    unfold low
    rw [← ycF]
    refine yer fun i _ => ?_
    show (if f i < f v then (1 : Int) else 0) + (if i = v then (1 : Int) else 0) ≤ 1
    by_cases e : i = v
    · subst e; rw [if_neg (by omega), if_pos rfl]; omega
    · rw [if_neg e]; split <;> omega
  rw [h7] at h1
  rw [yeY] at h1; omega
theorem yfP {n : Nat} {es : List E3} {q : Nat} (hE : EOk n es) (hq : q < n) {d d' : List Int} (h : Red n es q d) (hpos : ∀ v, v < n → v ≠ q → 0 ≤ gi d' v) {f : Nat → Int} (hf : ∀ v, v < n → gi d' v = gi d v - Lp n es f v) : ∀ v, v < n → f v ≤ f q := by
  suffices H : ∀ (k : Nat) v, v < n → n ≤ k + (low n f (f v)).toNat → f v ≤ f q from fun v hv => H n v hv (by omega)
  have lown : ∀ c, 0 ≤ low n f c := fun c => ya6 fun x _ => by show 0 ≤ ite _ _ _; split <;> omega
  intro k
  induction k with
  | zero => intro v hv hk; have := low_le (f := f) hv; have := lown (f v); omega
  | succ k ih =>
    intro v hv hk
    apply Int.not_lt.1
    intro hlt
    by_cases hmx : ∃ x, x < n ∧ f v < f x
    · obtain ⟨x, hx, hvx⟩ := hmx
      have h1 : low n f (f v) + 1 ≤ low n f (f x) := by
        unfold low
        have h7 := yeI 1 hv
        rw [← h7, ← ycF]
        refine yer fun i _ => ?_
        show ite _ _ _ + ite _ _ _ ≤ ite _ _ _
        by_cases e : i = v
        · subst e; rw [if_neg (by omega), if_pos rfl, if_pos (by omega)]; omega
        · rw [if_neg e]; split <;> split <;> omega
      have := ih x hx (by have := lown (f v); omega)
      omega
    · have hmx2 : ∀ x, x < n → f x ≤ f v := fun x hx => Int.not_lt.1 fun h => hmx ⟨x, hx, h⟩
      obtain ⟨x, hx, hSx, hlt2⟩ := h.no (fun x => decide (f x = f v)) (by simp; omega) ⟨v, hv, by simp⟩
      simp only [decide_eq_true_eq] at hSx hlt2
      have h2 := hf x hx
      have h3 : sm n (fun u => if f u = f v then 0 else W es x u) ≤ Lp n es f x := yer fun u hu => by
        have hu2 := hmx2 u hu
        have hw := ybq hE x u
        show ite _ _ _ ≤ W es x u * (f x - f u)
        split
        · rename_i e; rw [show f x - f u = 0 by omega]; omega
        · have := Int.mul_le_mul_of_nonneg_left (show 1 ≤ f x - f u by omega) hw
          omega
      have h4 := hpos x hx (fun e => by subst e; omega)
      omega
end Go.Proofs.YtncilechkclmbaaGreat

/- Settling: each firing keeps the bounds and comes nearer to the end. No program in sight. -/
namespace Go.Proofs.YtncilechkclmbaaGreat
open Go Go.Proofs.Tryz
set_option linter.unusedVariables false
set_option linter.unusedSectionVars false
structure GS0 (n : Nat) (es : List E3) (q : Nat) (D : Int) (d0 d s : List Int) : Prop where
  dl : d.length = n
  sl : s.length = n
  lp : ∀ v, v < n → gi d v = gi d0 v - Lp n es (gi s) v
  pos : ∀ v, v < n → v ≠ q → 0 ≤ gi d v
  off : sm n (fun v => if v = q then 0 else gi d v) ≤ D * 2560
  s0 : ∀ v, v < n → 0 ≤ gi s v
  sq : gi s q ≤ D * 2560
def left' (D : Int) (n : Nat) (s : List Int) : Int := sm n (fun v => D * 2600 - gi s v)
def GS (n : Nat) (es : List E3) (q : Nat) (D : Int) (d0 : List Int) (m : Nat) (d s : List Int) (e : Int) : Prop := e = 0 ∧ GS0 n es q D d0 d s ∧ m = (left' D n s).toNat
theorem timesS_all {es : List E3} {left : List Bool} {d : List Int} {M : Int} (hM : 0 ≤ M) : ∀ n, (∀ v, v < n → gi d v ≤ M ∨ gb left v = false) → (∀ v, v < n → gb left v = true → yaC es (v : Int) (fun u => !gb left u.toNat) ≤ gi d v ∧ 0 ≤ yaC es (v : Int) (fun u => !gb left u.toNat)) →
    0 ≤ ybd es left d n ∧ ybd es left d n ≤ M ∧ ∀ v, v < n → gb left v = true → 0 < yaC es (v : Int) (fun u => !gb left u.toNat) → 1 ≤ ybd es left d n ∧ ybd es left d n * yaC es (v : Int) (fun u => !gb left u.toNat) ≤ gi d v
  | 0, _, _ => by simp [ybd]; exact hM
  | n + 1, hd, hj => by
    obtain ⟨i1, i2, i3⟩ := timesS_all hM n (fun v hv => hd v (by omega)) (fun v hv => hj v (by omega))
    rw [ybd]
    by_cases hc : gb left n = true ∧ 0 < yaC es (n : Int) (fun u => !gb left u.toNat)
    · rw [if_pos hc]
      have h1 := hj n (by omega) hc.1
      have hdM : gi d n ≤ M := by
        rcases hd n (by omega) with h | h
        · exact h
        · rw [hc.1] at h; cases h
      have hJ := hc.2
      have hq1 : (gi d n).tdiv (yaC es (n : Int) (fun u => !gb left u.toNat)) * yaC es (n : Int) (fun u => !gb left u.toNat) ≤ gi d n := by
        rw [Int.tdiv_eq_ediv_of_nonneg (by omega)]
        exact Int.ediv_mul_le _ (by omega)
      have hq2 : 1 ≤ (gi d n).tdiv (yaC es (n : Int) (fun u => !gb left u.toNat)) := by
        rw [Int.tdiv_eq_ediv_of_nonneg (by omega)]
        exact Int.le_ediv_of_mul_le hJ (by omega)
      have hq3 : (gi d n).tdiv (yaC es (n : Int) (fun u => !gb left u.toNat)) ≤ M := by
        have := Int.mul_le_mul_of_nonneg_left (show 1 ≤ yaC es (n : Int) (fun u => !gb left u.toNat) by omega) (show 0 ≤ (gi d n).tdiv (yaC es (n : Int) (fun u => !gb left u.toNat)) by omega)
        omega
      generalize hX : (gi d n).tdiv (yaC es (n : Int) (fun u => !gb left u.toNat)) = X at *
      by_cases hc2 : ybd es left d n = 0 ∨ X < ybd es left d n
      · rw [if_pos hc2]
        refine ⟨by omega, hq3, fun v hv hl hp => ?_⟩
        by_cases e : v = n
        · subst e; exact ⟨hq2, hq1⟩
        · obtain ⟨j1, j2⟩ := i3 v (by omega) hl hp
          refine ⟨hq2, ?_⟩
          have := Int.mul_le_mul_of_nonneg_right (show X ≤ ybd es left d n by omega) (Int.le_of_lt hp)
          omega
      · rw [if_neg hc2]
        refine ⟨i1, i2, fun v hv hl hp => ?_⟩
        by_cases e : v = n
        · subst e
          refine ⟨by omega, ?_⟩
          have := Int.mul_le_mul_of_nonneg_right (show ybd es left d v ≤ X by omega) (Int.le_of_lt hp)
          omega
        · exact i3 v (by omega) hl hp
    · rw [if_neg hc]
      refine ⟨i1, i2, fun v hv hl hp => ?_⟩
      by_cases e : v = n
      · subst e; exact absurd ⟨hl, hp⟩ hc
      · exact i3 v (by omega) hl hp
theorem yeC {burnt : List Bool} {n v : Nat} (hl : burnt.length = n) (hv : v < n) : gb (yar burnt) v = !gb burnt v := by
  rw [ybx (by simpa [yar] using (by omega : v < burnt.length)), ybx (by omega)]
  simp [yar]
section
variable {n : Nat} {es : List E3} {q : Nat} {D : Int} {d0 : List Int} (hE : EOk n es) (hn : n ≤ 6) (hq : q < n) (hD0 : 0 ≤ D) (hD1 : D ≤ 200) (hC : Conn n es q)
  (hd0 : ∀ v, v < n → -D ≤ gi d0 v ∧ gi d0 v ≤ D)
include hE hn hq hD0 hD1 hC hd0
theorem GS0.bnd {d s : List Int} (h : GS0 n es q D d0 d s) : (∀ v, v < n → gi s v ≤ gi s q + D * 30) ∧ (∀ v, v < n → -(D * 2566) ≤ gi d v ∧ gi d v ≤ D * 2566) ∧ 0 ≤ gi s q := by
  refine ⟨fun v hv => ?_, ?_, h.s0 q hq⟩
  · have hnD : sm n (fun _ => D) ≤ 6 * D := by
      rw [yeY]
      exact Int.mul_le_mul_of_nonneg_right (by omega) hD0
    have h1 := climb hE hC hq (f := gi s) (G := 6 * D) (by omega) (fun S hS => by
      refine Int.le_trans (yer fun v hv => ?_) hnD
      show ite _ _ _ ≤ D
      split
      · rename_i hSv
        have h1 := h.lp v hv
        have h2 := h.pos v hv (fun e => by subst e; rw [hS] at hSv; cases hSv)
        have h3 := hd0 v hv
        omega
      · exact hD0) v hv
    have h2 := low_le (f := gi s) hv
    have h3 := Int.mul_le_mul_of_nonneg_right (show low n (gi s) (gi s v) ≤ 5 by omega) (show 0 ≤ 6 * D by omega)
    omega
  · have hoff0 : ∀ v, v < n → 0 ≤ (if v = q then 0 else gi d v) := fun v hv => by
      split
      · omega
      · rename_i e; exact h.pos v hv e
    have hoffn := ya6 hoff0
    have hoffs := h.off
    have htot : sm n (gi d) = sm n (gi d0) := by
      have h1 := yj6 (n := n) (es := es) (gi s)
      have h2 : sm n (gi d) = sm n (gi d0) - sm n (fun v => Lp n es (gi s) v) := by
        rw [← yjJ]
        exact yau fun i hi => h.lp i hi
      omega
    have h6 : sm n (gi d0) ≤ 6 * D ∧ -(6 * D) ≤ sm n (gi d0) := by
      constructor
      · refine Int.le_trans (yer fun v hv => (hd0 v hv).2) ?_
        rw [yeY]; exact Int.mul_le_mul_of_nonneg_right (by omega) hD0
      · have h7 : sm n (fun _ => -D) ≤ sm n (gi d0) := yer fun v hv => (hd0 v hv).1
        rw [yeY] at h7
        have h8 : (n : Int) * D ≤ 6 * D := Int.mul_le_mul_of_nonneg_right (by omega) hD0
        rw [Int.mul_neg] at h7
        omega
    have hsp := ylj (f := gi d) hq
    intro v hv
    by_cases e : v = q
    · subst e; omega
    · have h8 := ygQ hoff0 v hv
      rw [if_neg e] at h8
      have h9 := h.pos v hv e
      omega
theorem GS.bnd {m : Nat} {d s : List Int} {e : Int} (h : GS n es q D d0 m d s e) : Bnd 600000 d ∧ Bnd 600000 s := by
  obtain ⟨-, h0, -⟩ := h
  obtain ⟨b1, b2, b3⟩ := h0.bnd hE hn hq hD0 hD1 hC hd0
  have hsq := h0.sq
  constructor
  · intro i
    by_cases hi : i < n
    · have := b2 i hi; omega
    · rw [ygb h0.dl hi]; omega
  · intro i
    by_cases hi : i < n
    · have := b1 i hi; have := h0.s0 i hi; omega
    · rw [ygb h0.sl hi]; omega
theorem GS.step {m : Nat} {d s : List Int} {burnt : List Bool} (h : GS n es q D d0 m d s 0) (hB : Burns n es q d burnt) (hany : (yar burnt).any id = true) :
    0 ≤ ybd es (yar burnt) d n ∧ ybd es (yar burnt) d n ≤ 2147483648 ∧ (∀ v, v < n → gb (yar burnt) v = true → 0 ≤ gi d v) ∧
      ∃ m', m' < m ∧ GS n es q D d0 m' (ybY es (yar burnt) (ybd es (yar burnt) d n) d n) (yb3 (yar burnt) (ybd es (yar burnt) d n) s n)
        (yfZ (ybY es (yar burnt) (ybd es (yar burnt) d n) d n) (yb3 (yar burnt) (ybd es (yar burnt) d n) s n) 0 n) := by
  have hb := h.bnd hE hn hq hD0 hD1 hC hd0
  obtain ⟨-, h0, hm⟩ := h
  have hLq : gb (yar burnt) q = false := by rw [yeC hB.len hq, hB.at_q]; rfl
  have hnq : ∀ v, gb (yar burnt) v = true → v ≠ q := fun v hv e => by subst e; rw [hLq] at hv; cases hv
  have hjl : ∀ v : Nat, yaC es (v : Int) (fun u => !gb (yar burnt) u.toNat) = sm n (fun u => if gb (yar burnt) u = true then 0 else W es v u) := fun v => by
    rw [yc3 hE]
    exact yau fun u hu => by
      simp only [Int.toNat_natCast]
      by_cases hs : gb (yar burnt) u = true
      · simp [hs]
      · simp [hs]
  have hj0 : ∀ v : Nat, 0 ≤ yaC es (v : Int) (fun u => !gb (yar burnt) u.toNat) := fun v => by
    rw [hjl]
    exact ya6 fun u _ => by have := ybq hE v u; split <;> omega
  have hjd : ∀ v, v < n → gb (yar burnt) v = true → yaC es (v : Int) (fun u => !gb (yar burnt) u.toNat) ≤ gi d v := fun v hv hl => by
    have h1 := hB.closed v hv (by rw [yeC hB.len hv] at hl; simpa using hl)
    rw [yc3 hE] at h1 ⊢
    refine Int.le_trans (Int.le_of_eq (yau fun u hu => ?_)) h1
    simp only [Int.toNat_natCast, yeC hB.len hu, Bool.not_not]
  obtain ⟨t0, t1, t2⟩ := timesS_all (es := es) (left := yar burnt) (d := d) (M := 600000) (by omega) n (fun v hv => .inl (hb.1 v).2) (fun v hv hl => ⟨hjd v hv hl, hj0 v⟩)
  -- a way out
  have hex : ∃ v, v < n ∧ gb (yar burnt) v = true := by
    obtain ⟨x, hx, hxt⟩ := List.any_eq_true.1 hany
    obtain ⟨i, hi, hxi⟩ := List.mem_iff_getElem.1 hx
    refine ⟨i, by simpa [yar, hB.len] using hi, ?_⟩
    rw [ybx hi, hxi]; simpa using hxt
  obtain ⟨v, u, hv, hu, hSv, hSu, hW⟩ := hC (gb (yar burnt)) hLq hex
  have hjv : 0 < yaC es (v : Int) (fun u => !gb (yar burnt) u.toNat) := by
    rw [hjl]
    have := ygQ (n := n) (f := fun u => if gb (yar burnt) u = true then 0 else W es v u) (fun u _ => by have := ybq hE v u; show 0 ≤ ite _ _ _; split <;> omega) u hu
    simp only [hSu, Bool.false_eq_true, if_false] at this
    omega
  have hT1 := (t2 v hv hSv hjv).1
  clear hex
  refine ⟨t0, by omega, fun v hv hl => h0.pos v hv (hnq v hl), ?_⟩
  generalize ybd es (yar burnt) d n = T at *
  have hfd : ∀ v, v < n → gi (ybY es (yar burnt) T d n) v = gi d v - T * Lp n es (ind (yar burnt)) v := fun v hv => fire_lp hE _ T d h0.dl hv
  have hfs : ∀ v, v < n → gi (yb3 (yar burnt) T s n) v = gi s v + T * ind (yar burnt) v := fun v hv => ygY h0.sl hv
  have hind : ∀ v, 0 ≤ T * ind (yar burnt) v := fun v => by unfold ind; split <;> omega
  have hq0 : ind (yar burnt) q = 0 := by unfold ind; rw [hLq]; rfl
  have hout : ∀ v, ¬ gb (yar burnt) v = true → Lp n es (ind (yar burnt)) v ≤ 0 := fun v hl => by
    rw [yfV hl]
    have := ya6 (n := n) (f := fun u => if gb (yar burnt) u = true then W es v u else 0) (fun u _ => by have := ybq hE v u; show 0 ≤ ite _ _ _; split <;> omega)
    omega
  have hG : GS0 n es q D d0 (ybY es (yar burnt) T d n) (yb3 (yar burnt) T s n) := by
    refine ⟨by rw [ybn, h0.dl], by rw [ybz, h0.sl], fun v hv => ?_, fun v hv hvq => ?_, ?_, fun v hv => ?_, ?_⟩
    · rw [hfd v hv, Lp_fireS h0.sl hv, h0.lp v hv]; omega
    · rw [hfd v hv]
      have hp := h0.pos v hv hvq
      by_cases hl : gb (yar burnt) v = true
      · rw [Lp_ind_in hl, ← hjl]
        by_cases hz : 0 < yaC es (v : Int) (fun u => !gb (yar burnt) u.toNat)
        · have := (t2 v hv hl hz).2; omega
        · have h1 := hj0 v
          rw [show yaC es (v : Int) (fun u => !gb (yar burnt) u.toNat) = 0 by omega]; omega
      · have h1 := hout v hl
        have h2 := Int.mul_nonneg t0 (show 0 ≤ - Lp n es (ind (yar burnt)) v by omega)
        rw [Int.mul_neg] at h2; omega
    · have h1 : sm n (fun v => if v = q then 0 else gi (ybY es (yar burnt) T d n) v) = sm n (fun v => if v = q then 0 else gi d v) - T * sm n (fun v => if v = q then 0 else Lp n es (ind (yar burnt)) v) := by
        rw [← sm_mul, ← yjJ]
        refine yau fun v hv => ?_
        show ite _ _ _ = ite _ _ _ - T * ite _ _ _
        split
        · omega
        · exact hfd v hv
      have h2 := ylj (f := Lp n es (ind (yar burnt))) hq
      have h3 : sm n (Lp n es (ind (yar burnt))) = 0 := yj6 (n := n) (es := es) (ind (yar burnt))
      have h4 := hout q (by rw [hLq]; simp)
      have h5 := Int.mul_nonneg t0 (show 0 ≤ sm n (fun v => if v = q then 0 else Lp n es (ind (yar burnt)) v) by omega)
      have := h0.off
      omega
    · rw [hfs v hv]; have := h0.s0 v hv; have := hind v; omega
    · rw [hfs q hq, hq0]; have := h0.sq; omega
  obtain ⟨b1, b2, b3⟩ := hG.bnd hE hn hq hD0 hD1 hC hd0
  have hsq := hG.sq
  refine ⟨_, ?_, fireE_ok (fun j => ?_) (fun j => ?_) 0 n, hG, rfl⟩
  · rw [hm]
    have h1 : 0 ≤ left' D n (yb3 (yar burnt) T s n) := ya6 fun v hv => by
      show 0 ≤ D * 2600 - gi (yb3 (yar burnt) T s n) v
      have := b1 v hv; omega
    have h2 : left' D n (yb3 (yar burnt) T s n) + 1 ≤ left' D n s := by
      unfold left'
      have h3 : sm n (fun v => D * 2600 - gi (yb3 (yar burnt) T s n) v) = sm n (fun v => D * 2600 - gi s v) - sm n (fun v => T * ind (yar burnt) v) := by
        rw [← yjJ]
        refine yau fun v hv => ?_
        show D * 2600 - gi (yb3 (yar burnt) T s n) v = _ - _
        rw [hfs v hv]; omega
      have h4 := ygQ (n := n) (f := fun v => T * ind (yar burnt) v) (fun v _ => hind v) v hv
      have h5 : ind (yar burnt) v = 1 := by unfold ind; rw [if_pos hSv]
      simp only [h5] at h4
      omega
    omega
  · by_cases hj : j < n
    · have := b2 j hj; omega
    · rw [ygb hG.dl hj]; omega
  · by_cases hj : j < n
    · have := b1 j hj; have := hG.s0 j hj; omega
    · rw [ygb hG.sl hj]; omega
theorem GS0.red {d s : List Int} {burnt : List Bool} (h : GS0 n es q D d0 d s) (hB : Burns n es q d burnt) (hany : (yar burnt).any id = false) : Red n es q d := by
  refine ⟨h.pos, fun S hS ⟨v, hv, hSv⟩ => ?_⟩
  apply Classical.byContradiction
  intro hno
  have h1 := hB.forced S hS (fun x hx hSx => by
    apply Int.not_lt.1
    intro hlt
    rw [yc3 hE] at hlt
    refine hno ⟨x, hx, hSx, Int.lt_of_lt_of_le hlt (Int.le_of_eq (yau fun u hu => ?_))⟩
    simp only [Int.toNat_natCast]
    by_cases hs : S u = true
    · simp [hs]
    · simp [hs]) v hv hSv
  have h2 : gb (yar burnt) v = true := by rw [yeC hB.len hv, h1]; rfl
  have hvl : v < (yar burnt).length := by simp [yar, hB.len, hv]
  rw [ybx hvl] at h2
  have h3 : (yar burnt).any id = true := List.any_eq_true.2 ⟨_, List.getElem_mem hvl, h2⟩
  rw [hany] at h3; cases h3
theorem GL.settle {o : List Int} {d s : List Int} {e : Int} (hD : Dist n es q o) (hc : ∀ v, v < n → 0 ≤ gi o v) (ht : tot n es ≤ 18) (h : GL n es q D d0 o 0 d s e) : GS n es q D d0 (left' D n s).toNat d s e := by
  have hF := FF_half hE o ((0 : Nat) : Int)
  have hB := pow_bnd hD0 (show FF n es o ((0 : Nat) : Int) ≤ 9 by omega)
  have hpos : ∀ v, v < n → v ≠ q → 0 ≤ gi d v := fun v hv hvq => h.pos v hv (by
    have h1 := hc v hv
    have h2 : gi o v ≠ 0 := fun e => hvq (hD.zero v hv e)
    omega)
  refine ⟨h.e0, ⟨h.dl, h.sl, h.lp, hpos, ?_, fun v hv => (h.s0 v hv).1, ?_⟩, rfl⟩
  · have h1 : sm n (fun v => if v = q then 0 else gi d v) ≤ sm n (fun v => if v = q then 0 else D * 512) := yer fun v hv => by
      show ite _ _ _ ≤ ite _ _ _
      split
      · omega
      · have := h.bd v hv; omega
    have h2 := ylj (f := fun _ => D * 512) hq
    rw [yeY] at h2
    have h3 : (n : Int) * (D * 512) ≤ 6 * (D * 512) := Int.mul_le_mul_of_nonneg_right (by omega) (by omega)
    omega
  · have := (h.s0 q hq).2
    have := mul_bnd (n := n) (k := 0) hD0 hn
    omega
end
end Go.Proofs.YtncilechkclmbaaGreat

/- The walk of graph.Check. -/
namespace Go.Proofs.YtncilechkclmbaaGreat
open Go.RowKit Go.Proofs.Tryz
set_option maxRecDepth 100000
set_option maxHeartbeats 400000
def yiU (a b c d : Int) : Int := orF (cmpF a c) (cmpF b d)
theorem pcompare_any (a b c d : Int) (w : World) : Calls Tryz.prog 201 #[.agg #[.int .i64 a, .int .i64 b], .agg #[.int .i64 c, .int .i64 d]] w fun e w' =>
    e = .returned (.int .i64 (yiU a b c d)) ∧ Pure w w' := by
  go_enter func201, ntmps201
  go_wp2
  go_region_held3 (fun w' => w'.cell? ⟨w.heap.size, 0, none⟩ = some (.int .i64 a) ∧ w'.cell? ⟨w.heap.size, 1, none⟩ = some (.int .i64 b) ∧ w'.cell? ⟨w.heap.size + 1, 0, none⟩ = some (.int .i64 c) ∧ w'.cell? ⟨w.heap.size + 1, 1, none⟩ = some (.int .i64 d)) (simp [go_sem, World.cell?_alloc_past])
    (first
      | (go_at_call 94; refine (yff _ _ _).mono ?_; rintro e w' ⟨rfl, rfl⟩)
      | (go_at_call 236; refine (or_two _ _ (cmpF a c) (cmpF b d) _ (by simp [go_sem]) (by simp [go_sem])).mono ?_; rintro e w' ⟨rfl, rfl⟩))
  go_wp2
  go_ret
  exact ⟨rfl, (by repeat (first | exact Keeps.refl _ _ | assumption | refine Keeps.drew ?_ | refine Keeps.drewN ?_ _ | refine Keeps.alloc ?_ _ | refine Keeps.setRow ?_ (by simp) _ | refine Keeps.setRow ?_ (by simp; omega) _ | refine Keeps.setCell ?_ (by simp) _ | refine Keeps.setCell ?_ (by simp; omega) _))⟩
def gchk (n : Int) : Int → Int → List E3 → Int
  | _, _, [] => 0
  | a, b, x :: t =>
    if (0 ≤ x.1 ∧ x.1 < n) ∧ (0 ≤ x.2.1 ∧ x.2.1 < n) ∧ 1 ≤ x.2.2 ∧ x.2.2 ≤ 50 then
      (if x.1 ≤ x.2.1 ∧ yiU a b x.1 x.2.1 < 0 then gchk n x.1 x.2.1 t else 9)
    else 2
def yat (n : Int) (es : List E3) : Int := if 1 ≤ n ∧ n ≤ 12 then gchk n (-1) (-1) es else 2
theorem gcheck_any (A : Option Addr) (es : List E3) (cap : Nat) (n : Int) (w : World) (hd : ycx w A es) (hlen : es.length ≤ 1000000000) :
    Calls Tryz.prog 150 #[.agg #[.int .i64 n, .slice A es.length cap]] w fun e w' => e = .returned (.int .i64 (yat n es)) ∧ Pure w w' := by
  have HD := Lib.hid hd
  clear hd
  by_cases h1 : 1 ≤ n ∧ n ≤ 12
  case neg =>
    go_enter func150, ntmps150
    go_wp2
    all_goals try (exfalso; omega)
    all_goals go_ret
    all_goals exact ⟨ycl (by rw [yat, if_neg h1]; rfl), (by repeat (first | exact Keeps.refl _ _ | assumption | refine Keeps.drew ?_ | refine Keeps.drewN ?_ _ | refine Keeps.alloc ?_ _ | refine Keeps.setRow ?_ (by simp) _ | refine Keeps.setRow ?_ (by simp; omega) _ | refine Keeps.setCell ?_ (by simp) _ | refine Keeps.setCell ?_ (by simp; omega) _))⟩
  obtain ⟨h1, h2⟩ := h1
  have hb1 : decide (n < 1) = false := by simp; omega
  have hb2 : decide (12 < n) = false := by simp; omega
  have hg : Hid (yat n es = gchk n (-1) (-1) (es.drop 0)) := by rw [yat, if_pos ⟨h1, h2⟩]; rfl
  go_enter func150, ntmps150
  go_wp2
  have hr1 := Row.alloc (Row.new w #[.int .i64 n, .slice A es.length cap] 24) (.cells #[.int .i64 (-1), .int .i64 (-1)] 202)
  have hr2 := Row.new (w.alloc (.cells #[.int .i64 n, .slice A es.length cap] 24)) #[.int .i64 (-1), .int .i64 (-1)] 202
  have hk0 : Pure w ((w.alloc (.cells #[.int .i64 n, .slice A es.length cap] 24)).alloc (.cells #[.int .i64 (-1), .int .i64 (-1)] 202)) := (by repeat (first | exact Keeps.refl _ _ | assumption | refine Keeps.drew ?_ | refine Keeps.drewN ?_ _ | refine Keeps.alloc ?_ _ | refine Keeps.setRow ?_ (by simp) _ | refine Keeps.setRow ?_ (by simp; omega) _ | refine Keeps.setCell ?_ (by simp) _ | refine Keeps.setCell ?_ (by simp; omega) _))
  simp only [World.size_alloc] at hr1 hr2
  go_loopw [19] (fun i wr => ∃ (k : Nat) (la lb : Int), k ≤ es.length ∧ i = .int .i64 k ∧ Row wr w.heap.size 24 2 [.int .i64 n, .slice A es.length cap] ∧ Row wr (w.heap.size + 1) 202 2 [.int .i64 la, .int .i64 lb] ∧ Pure w wr ∧ Hid (yat n es = gchk n la lb (es.drop k))) (fun i _ => es.length - (intOf i).toNat)
  case atStart => exact ⟨0, -1, -1, Nat.zero_le _, rfl, hr1, hr2, hk0, hg⟩
  case round =>
    clear hg hr1 hr2 hk0
    obtain ⟨k, la, lb, hk, rfl, hr1, hr2, hp, hg⟩ := hrel
    by_cases hlt : k < es.length
    · obtain ⟨b, off, rfl, hb, hc⟩ := HD.out (by omega)
      obtain ⟨c0, c1, c2⟩ := hc k hlt
      clear hc
      replace c0 := hp.cell id c0
      replace c1 := hp.cell id c1
      replace c2 := hp.cell id c2
      have r10 := Row.cell hr1 (i := 0) rfl
      have r20 := Row.cell hr2 (i := 0) rfl
      have r21 := Row.cell hr2 (i := 1) rfl
      have f20 := Row.frozen hr2 0
      have f21 := Row.frozen hr2 1
      have hsz := hr2.lt
      have hsz0 := hr1.lt
      have hbw : b < wr.heap.size := Nat.lt_of_lt_of_le hb hp.size
      have e1 : Row ((wr.alloc (.cells #[.int .i64 (ge es k).1, .int .i64 (ge es k).2.1, .int .i64 (ge es k).2.2] 95)).alloc (.cells #[.int .i64 (ge es k).1, .int .i64 (ge es k).2.1] 202)) (wr.heap.size + 1) 202 2 [.int .i64 (ge es k).1, .int .i64 (ge es k).2.1] := by
        have := Row.new (wr.alloc (.cells #[.int .i64 (ge es k).1, .int .i64 (ge es k).2.1, .int .i64 (ge es k).2.2] 95)) #[.int .i64 (ge es k).1, .int .i64 (ge es k).2.1] 202
        rw [World.size_alloc] at this; exact this
      have e2 := Row.alloc (Row.alloc hr1 (.cells #[.int .i64 (ge es k).1, .int .i64 (ge es k).2.1, .int .i64 (ge es k).2.2] 95)) (.cells #[.int .i64 (ge es k).1, .int .i64 (ge es k).2.1] 202)
      have e3 := Row.alloc (Row.alloc hr2 (.cells #[.int .i64 (ge es k).1, .int .i64 (ge es k).2.1, .int .i64 (ge es k).2.2] 95)) (.cells #[.int .i64 (ge es k).1, .int .i64 (ge es k).2.1] 202)
      have e4 : Pure w ((wr.alloc (.cells #[.int .i64 (ge es k).1, .int .i64 (ge es k).2.1, .int .i64 (ge es k).2.2] 95)).alloc (.cells #[.int .i64 (ge es k).1, .int .i64 (ge es k).2.1] 202)) := (by repeat (first | exact Keeps.refl _ _ | assumption | refine Keeps.drew ?_ | refine Keeps.drewN ?_ _ | refine Keeps.alloc ?_ _ | refine Keeps.setRow ?_ (by simp) _ | refine Keeps.setRow ?_ (by simp; omega) _ | refine Keeps.setCell ?_ (by simp) _ | refine Keeps.setCell ?_ (by simp; omega) _))
      have hne : ¬ w.heap.size + 1 < w.heap.size := by omega
      go_wp2_with (first | (go_at_call 200; refine (vertex_any _ _ _).mono ?_; rintro e w' ⟨rfl, rfl⟩) | (go_at_call 201; refine (pcompare_any _ _ _ _ _).mono ?_; rintro e w1 ⟨rfl, hp1⟩; have k1 := hp1.row e1 id; have k2 := hp1.row e2 id; have k3 := hp1.row e3 id; have k4 := Pure.after e4 hp1; clear e1 e2 e3 e4 hp1; have q0 := Row.cell k1 (i := 0) rfl; have q1 := Row.cell k1 (i := 1) rfl; have q2 := Row.frozen k3 0; have q3 := Row.frozen k3 1; have q4 := Row.cell k3 (i := 0) rfl; have q5 := Row.cell k3 (i := 1) rfl))
      all_goals (first
        | (go_ret
           refine ⟨ycl (yd3 ?_), (by repeat (first | exact Keeps.refl _ _ | assumption | refine Keeps.drew ?_ | refine Keeps.drewN ?_ _ | refine Keeps.alloc ?_ _ | refine Keeps.setRow ?_ (by simp) _ | refine Keeps.setRow ?_ (by simp; omega) _ | refine Keeps.setCell ?_ (by simp) _ | refine Keeps.setCell ?_ (by simp; omega) _))⟩
           rw [hg.out, yfk hlt, gchk]
           first
             | rw [if_neg (by omega)]
             | rw [if_pos (by omega), if_neg (by omega)])
        | (refine ⟨⟨k + 1, (ge es k).1, (ge es k).2.1, by omega, by go_num, (k2.far (by simp) _).far (by simp) _, (k3.set_ 0 _).set_ 1 _, (k4.setCell (fun h => absurd h (by simp)) _).setCell (fun h => absurd h (by simp)) _, ?_⟩, by simp [intOf]; omega⟩
           show yat n es = _
           rw [hg.out, yfk hlt, gchk, if_pos (by omega), if_pos (by omega)]))
    · go_wp2
      go_ret
      refine ⟨ycl (yd3 ?_), hp⟩
      rw [hg.out, List.drop_eq_nil_of_le (by omega), gchk]
end Go.Proofs.YtncilechkclmbaaGreat

/- The walks of package connect's forests, up to Connected. -/
namespace Go.Proofs.YtncilechkclmbaaGreat
open Go.RowKit Go.Maps Go.Proofs.Tryz
set_option maxRecDepth 100000
set_option maxHeartbeats 400000
theorem ygu (g : Nat) (F : List Nat) (v : Nat) (w : World) (hF : NRow w g 238 12 F) (h : ycM F) (hv : v < 12) :
    Calls Tryz.prog 252 #[.pointer (some ⟨g, 0, none⟩), .int .i64 (v : Int)] w fun e w' => e = .returned (.int .i64 (root F v : Int)) ∧ w = w' := by
  have H := Lib.hid h
  clear h
  go_enter func252, ntmps252
  go_wp2
  go_loopw [1] (fun i wr => ∃ u : Nat, u < 12 ∧ i = .int .i64 (u : Int) ∧ Hid (root F v = root F u) ∧ Same wr w) (fun i _ => (intOf i).toNat)
  case atStart => exact ⟨v, hv, rfl, rfl, .refl _⟩
  case round =>
    obtain ⟨u, hu, rfl, hr, hw⟩ := hrel
    obtain rfl : wr = w := hw.out
    have hc := ncell hF (k := u) (by rw [H.out.1]; exact hu)
    simp only [Int.ofNat_eq_natCast] at hc
    have hle := H.out.2 u hu
    by_cases he : gn F u = u
    · have hb := neF (a := (gn F u : Int)) (b := (u : Int)) (by rw [he])
      have HE := Lib.hid he
      clear he hw
      go_wp2
      go_ret
      exact ⟨ycl (yd3 (by rw [hr.out, ycI HE.out])), rfl⟩
    · have hb := neT (a := (gn F u : Int)) (b := (u : Int)) (by omega)
      clear hw
      go_wp2
      go_roundw
      case rel => exact ⟨gn F u, by omega, rfl, by rw [Hid, hr.out, yeF H.out hu he], .refl _⟩
      case measure => simp [intOf]; omega
theorem join_any (g : Nat) (F : List Nat) (a b : Nat) (w : World) (hF : NRow w g 238 12 F) (h : ycM F) (ha : a < 12) (hb : b < 12) :
    Calls Tryz.prog 251 #[.pointer (some ⟨g, 0, none⟩), .int .i64 (a : Int), .int .i64 (b : Int)] w fun e w' => e = .returned (.tuple #[]) ∧ NRow w' g 238 12 (ycQ F a b) ∧ Keeps (· = g) w w' := by
  have h1 := ydQ h a ha
  have h2 := ydQ h b hb
  have hfa := Row.frozen hF (root F a)
  have hfb := Row.frozen hF (root F b)
  have hca := ncell hF (k := root F a) (by rw [h.1]; omega)
  have hcb := ncell hF (k := root F b) (by rw [h.1]; omega)
  have l1 : root F a < 12 := by omega
  have l2 : root F b < 12 := by omega
  have H1 := Lib.hid h1
  have H2 := Lib.hid h2
  clear h1 h2
  go_enter func251, ntmps251
  go_wp2_with fail
  refine (ygu g F a _ hF h ha).mono ?_
  rintro e w' ⟨rfl, rfl⟩
  go_wp2_with fail
  refine (ygu g F b _ hF h hb).mono ?_
  rintro e w' ⟨rfl, rfl⟩
  have HF := Lib.hid hF
  clear hF
  go_wp2
  all_goals go_end0
  all_goals (refine ⟨rfl, ?_, (by repeat (first | exact Keeps.refl _ _ | assumption | refine Keeps.drew ?_ | refine Keeps.drewN ?_ _ | refine Keeps.alloc ?_ _ | refine Keeps.setRow ?_ (by simp) _ | refine Keeps.setRow ?_ (by simp; omega) _ | refine Keeps.setCell ?_ (by simp) _ | refine Keeps.setCell ?_ (by simp; omega) _))⟩)
  all_goals (first
    | (rw [show ycQ F a b = F.set (root F a) (root F b) by unfold ycQ; rw [Nat.max_eq_left (by omega), Nat.min_eq_right (by omega)]]; exact nset HF.out _ _)
    | (rw [show ycQ F a b = F.set (root F b) (root F a) by unfold ycQ; rw [Nat.max_eq_right (by omega), Nat.min_eq_left (by omega)]]; exact nset HF.out _ _)
    | (rw [show ycQ F a b = F.set (root F a) (root F a) by unfold ycQ; rw [Nat.max_eq_right (by omega), Nat.min_eq_left (by omega)]; congr 1 <;> omega]; exact nset HF.out _ _))
def yfX (F : List Nat) : Value := .agg (ydl F).toArray
theorem grown_any (w : World) :
    Calls Tryz.prog 250 #[] w fun e w' => e = .returned (yfX yek) ∧ Pure w w' := by
  go_enter func250, ntmps250
  go_wp2
  refine wp_loop_rounds 13 ?_
  repeat any_goals (rw [rounds_succ]; go_wp2)
  exact bodyPost_ret (v := yfX yek) (by simp [results, Tryz.results250, go_sem, yfX, ydl, yek, List.range, List.range.loop]) rfl ⟨rfl, (by repeat (first | exact Keeps.refl _ _ | assumption | refine Keeps.drew ?_ | refine Keeps.drewN ?_ _ | refine Keeps.alloc ?_ _ | refine Keeps.setRow ?_ (by simp) _ | refine Keeps.setRow ?_ (by simp; omega) _ | refine Keeps.setCell ?_ (by simp) _ | refine Keeps.setCell ?_ (by simp; omega) _))⟩
theorem forestV_lit {F : List Nat} (h : F.length = 12) : ∃ a0 a1 a2 a3 a4 a5 a6 a7 a8 a9 a10 a11 : Nat, F = [a0, a1, a2, a3, a4, a5, a6, a7, a8, a9, a10, a11] := by
  match F, h with
  | [a0, a1, a2, a3, a4, a5, a6, a7, a8, a9, a10, a11], _ => exact ⟨a0, a1, a2, a3, a4, a5, a6, a7, a8, a9, a10, a11, rfl⟩
theorem forest_info : (Tryz.prog.info? 238).map (·.size) = some 12 := by kernel_rfl
theorem joined_any (A : Option Addr) (es : List E3) (cap : Nat) (n : Int) (w : World) (hd : ycx w A es) (hlen : es.length ≤ 1000000000) (hE : ycG es) :
    Calls Tryz.prog 234 #[.agg #[.int .i64 n, .slice A es.length cap]] w fun e w' => e = .returned (yfX (yay es)) ∧ Pure w w' := by
  have HD := Lib.hid hd
  have HE := Lib.hid hE
  clear hd hE
  go_enter func234, ntmps234
  go_wp2_with fail
  refine (grown_any _).mono ?_
  rintro e w1 ⟨rfl, hp1⟩
  have r0 := hp1.row (Row.alloc (Row.new w #[.int .i64 n, .slice A es.length cap] 24) _) id
  have r1 := hp1.row (Row.new (w.alloc (.cells #[.int .i64 n, .slice A es.length cap] 24)) #[.int .i64 0, .int .i64 0, .int .i64 0, .int .i64 0, .int .i64 0, .int .i64 0, .int .i64 0, .int .i64 0, .int .i64 0, .int .i64 0, .int .i64 0, .int .i64 0] 238) id
  rw [World.size_alloc] at r1
  have k0 : Pure w w1 := Pure.after (by repeat (first | exact Keeps.refl _ _ | assumption | refine Keeps.drew ?_ | refine Keeps.drewN ?_ _ | refine Keeps.alloc ?_ _ | refine Keeps.setRow ?_ (by simp) _ | refine Keeps.setRow ?_ (by simp; omega) _ | refine Keeps.setCell ?_ (by simp) _ | refine Keeps.setCell ?_ (by simp; omega) _)) hp1
  have r00 := Row.cell r0 (i := 0) rfl
  have r01 := Row.cell r0 (i := 1) rfl
  have s0 := r0.lt
  have s1 := r1.lt
  unfold yfX ydl yek
  simp only [List.range, List.range.loop, List.map]
  go_wp2
  have hf0 : NRow (w1.alloc (.cells #[.int .i64 0, .int .i64 1, .int .i64 2, .int .i64 3, .int .i64 4, .int .i64 5, .int .i64 6, .int .i64 7, .int .i64 8, .int .i64 9, .int .i64 10, .int .i64 11] 238)) w1.heap.size 238 12 (yay (es.take 0)) :=
    Row.new w1 #[.int .i64 0, .int .i64 1, .int .i64 2, .int .i64 3, .int .i64 4, .int .i64 5, .int .i64 6, .int .i64 7, .int .i64 8, .int .i64 9, .int .i64 10, .int .i64 11] 238
  have g0 := Row.alloc r0 (.cells #[.int .i64 0, .int .i64 1, .int .i64 2, .int .i64 3, .int .i64 4, .int .i64 5, .int .i64 6, .int .i64 7, .int .i64 8, .int .i64 9, .int .i64 10, .int .i64 11] 238)
  have g1 := Row.alloc r1 (.cells #[.int .i64 0, .int .i64 1, .int .i64 2, .int .i64 3, .int .i64 4, .int .i64 5, .int .i64 6, .int .i64 7, .int .i64 8, .int .i64 9, .int .i64 10, .int .i64 11] 238)
  have k1 := Keeps.alloc k0 (.cells #[.int .i64 0, .int .i64 1, .int .i64 2, .int .i64 3, .int .i64 4, .int .i64 5, .int .i64 6, .int .i64 7, .int .i64 8, .int .i64 9, .int .i64 10, .int .i64 11] 238)
  go_loopw [10] (fun i wr => ∃ k : Nat, k ≤ es.length ∧ i = .int .i64 k ∧ NRow wr w1.heap.size 238 12 (yay (es.take k)) ∧ Row wr (w.heap.size + 1) 238 12 [.int .i64 0, .int .i64 0, .int .i64 0, .int .i64 0, .int .i64 0, .int .i64 0, .int .i64 0, .int .i64 0, .int .i64 0, .int .i64 0, .int .i64 0, .int .i64 0] ∧ Pure w wr) (fun i _ => es.length - (intOf i).toNat)
  case atStart => exact ⟨0, Nat.zero_le _, rfl, hf0, g1, k1⟩
  clear hf0 g0 g1 k1 r0 r1 k0 r00 r01 hp1
  case round =>
    obtain ⟨k, hk, rfl, hf, hr1, hp⟩ := hrel
    have sM := hf.lt
    by_cases hlt : k < es.length
    · obtain ⟨b, off, rfl, hb, hc⟩ := HD.out (by omega)
      obtain ⟨c0, c1, c2⟩ := hc k hlt
      clear hc
      replace c0 := hp.cell id c0
      replace c1 := hp.cell id c1
      replace c2 := hp.cell id c2
      obtain ⟨x1, x2, x3, x4⟩ := HE.out _ (yiJ hlt)
      obtain ⟨u, hu⟩ : ∃ u : Nat, (ge es k).1 = (u : Int) := ⟨(ge es k).1.toNat, by omega⟩
      obtain ⟨v, hv⟩ : ∃ v : Nat, (ge es k).2.1 = (v : Int) := ⟨(ge es k).2.1.toNat, by omega⟩
      have hbw : b < wr.heap.size := Nat.lt_of_lt_of_le hb hp.size
      have hT : Hid (yay (es.take (k + 1)) = ycQ (yay (es.take k)) u v) := by rw [Hid, joinedF_take es hlt, hu, hv]; rfl
      rw [hu] at c0 x1 x2
      rw [hv] at c1 x3 x4
      clear hu hv
      go_wp2_with fail
      refine (join_any w1.heap.size (yay (es.take k)) u v _ (Row.alloc hf _) (yb0 _ (HE.out.take k)) (by omega) (by omega)).mono ?_
      rintro e w2 ⟨rfl, hf2, hp2⟩
      go_wp2
      go_roundw
      case rel => exact ⟨k + 1, by omega, by go_num, by rw [hT.out]; exact hf2, hp2.row (Row.alloc hr1 _) (by omega), (Keeps.alloc hp _).then hp2 (fun j hj e => by omega)⟩
      case measure => simp [intOf]; omega
    · obtain rfl : k = es.length := by omega
      rw [List.take_length] at hf
      have hL := (yb0 es HE.out).1
      have hfull := NRow.full (xs := yay es) (by rw [hL]; exact hf)
      have hold := Row.full (xs := [.int .i64 0, .int .i64 0, .int .i64 0, .int .i64 0, .int .i64 0, .int .i64 0, .int .i64 0, .int .i64 0, .int .i64 0, .int .i64 0, .int .i64 0, .int .i64 0]) hr1
      have hinfo : (Tryz.prog.info? 238).map (·.size) = some (ydl (yay es)).toArray.size := by
        rw [List.size_toArray, ydD, hL]; exact forest_info
      have HFU := Lib.hid hfull
      have HOL := Lib.hid hold
      have HIN := Lib.hid hinfo
      clear hfull hold hinfo hL
      go_wp2_with (first
        | (refine wpList_load_row rfl 238 (.tmp 3) rfl w1.heap.size rfl 238 (ydl (yay es)).toArray (0, 0) _ HFU.out underlying238 rfl HIN.out ?_)
        | (refine ygj rfl 238 (.tmp 2) (.tmp 20) rfl (w.heap.size + 1) rfl (ydl (yay es)).toArray rfl 238 _ HOL.out (by rw [List.size_toArray, List.size_toArray, ydD, (yb0 es HE.out).1]; rfl) HIN.out (nvals_one _) ?_))
      refine bodyPost_ret (results_cell_row rfl _ _ (w.heap.size + 1) 238 (ydl (yay es)).toArray (0, 0) _ rfl (setRow_heap _ _ _ _ _ _ HOL.out) underlying238 rfl HIN.out) rfl ⟨rfl, (by repeat (first | exact Keeps.refl _ _ | assumption | refine Keeps.drew ?_ | refine Keeps.drewN ?_ _ | refine Keeps.alloc ?_ _ | refine Keeps.setRow ?_ (by simp) _ | refine Keeps.setRow ?_ (by simp; omega) _ | refine Keeps.setCell ?_ (by simp) _ | refine Keeps.setCell ?_ (by simp; omega) _))⟩
end Go.Proofs.YtncilechkclmbaaGreat

/- The walk of the parts of a forest: slices of slices that grow. -/
namespace Go.Proofs.YtncilechkclmbaaGreat
open Go.RowKit Go.Maps Go.Proofs.Tryz
set_option maxRecDepth 100000
set_option maxHeartbeats 400000
def ybX (F : List Nat) : Nat → List (List Nat)
  | 0 => []
  | k + 1 => (if root F k = k then ybX F k ++ [[]] else ybX F k).modify (yaE F (root F k)) (· ++ [k])
theorem ycE (F : List Nat) : ∀ k, (ybX F k).length = yaE F k
  | 0 => rfl
  | k + 1 => by
    rw [ybX, List.length_modify, yaE]
    split <;> simp [ycE F k]
theorem rows_le (F : List Nat) : ∀ k, ∀ r ∈ ybX F k, r.length ≤ k
  | 0 => by simp [ybX]
  | k + 1 => by
    intro r hr
    rw [ybX] at hr
    obtain ⟨i, hi, rfl⟩ := List.getElem_of_mem hr
    have hb : ∀ r' ∈ (if root F k = k then ybX F k ++ [[]] else ybX F k), r'.length ≤ k := by
      intro r' hr'
      split at hr'
      · rcases List.mem_append.1 hr' with h1 | h1
        · exact rows_le F k r' h1
        · simp at h1; subst h1; simp
      · exact rows_le F k r' hr'
    rw [List.getElem_modify]
    rw [List.length_modify] at hi
    have := hb _ (List.getElem_mem hi)
    split
    · simp; omega
    · omega
theorem nroots_mono (F : List Nat) {a b : Nat} (h : a ≤ b) : yaE F a ≤ yaE F b := by
  induction b with
  | zero => obtain rfl : a = 0 := by omega
            exact Nat.le_refl _
  | succ b ih =>
    rcases Nat.lt_or_ge a (b + 1) with h1 | h1
    · rw [yaE]; have := ih (by omega); omega
    · obtain rfl : a = b + 1 := by omega
      exact Nat.le_refl _
theorem yg0 (F : List Nat) {r k : Nat} (h : r < k) (hr : root F r = r) : yaE F r < yaE F k := by
  have := nroots_mono F (show r + 1 ≤ k from h)
  rw [yaE, if_pos hr] at this
  omega
theorem nroots_le (F : List Nat) : ∀ k, yaE F k ≤ k
  | 0 => Nat.le_refl _
  | k + 1 => by rw [yaE]; have := nroots_le F k; split <;> omega
def ydA (w : World) (B : Nat) (vals : List Value) (rows : List (List Nat)) : Prop :=
  vals.length = rows.length ∧ (∀ (i : Nat) (v : Value) (r : List Nat), vals[i]? = some v → rows[i]? = some r → w.ownsRow B 3 1 v r.length (ydl r)) ∧
    ∀ (i j : Nat) (v u : Value), i ≠ j → vals[i]? = some v → vals[j]? = some u → v.ownBlock = none ∨ v.ownBlock ≠ u.ownBlock
theorem ydA.nil (w : World) (B : Nat) : ydA w B [] [] := ⟨rfl, by simp, by simp⟩
theorem ydA.kept {w w' : World} {B : Nat} {vals : List Value} {rows : List (List Nat)} {row : Option Nat} (h : ydA w B vals rows) (hg : w.grownBy w' row) (hr : ∀ v ∈ vals, v.ownBlock = none ∨ v.ownBlock ≠ row) : ydA w' B vals rows :=
  ⟨h.1, fun i v r hv hr' => (h.2.1 i v r hv hr').kept hg (hr v (List.mem_of_getElem? hv)), h.2.2⟩
theorem ydA.push {w : World} {B : Nat} {vals : List Value} {rows : List (List Nat)} (h : ydA w B vals rows) : ydA w B (vals ++ [.slice none 0 0]) (rows ++ [[]]) := by
  refine ⟨by simp [h.1], fun i v r hv hr => ?_, fun i j v u hij hv hu => ?_⟩
  · rcases Nat.lt_or_ge i vals.length with hi | hi
    · rw [List.getElem?_append_left hi] at hv
      rw [List.getElem?_append_left (by rw [← h.1]; exact hi)] at hr
      exact h.2.1 i v r hv hr
    · rw [List.getElem?_append_right hi] at hv
      rw [List.getElem?_append_right (by rw [← h.1]; exact hi)] at hr
      have hi0 : i - vals.length = 0 := by
        rcases Nat.eq_zero_or_pos (i - vals.length) with h0 | h0
        · exact h0
        · rw [List.getElem?_eq_none (by simp; omega)] at hv; cases hv
      rw [hi0] at hv
      rw [← h.1, hi0] at hr
      simp at hv hr
      subst hv; subst hr
      exact World.ownsRow_nil _ _ _ _
  · rcases Nat.lt_or_ge i vals.length with hi | hi
    · rcases Nat.lt_or_ge j vals.length with hj | hj
      · rw [List.getElem?_append_left hi] at hv
        rw [List.getElem?_append_left hj] at hu
        exact h.2.2 i j v u hij hv hu
      · rw [List.getElem?_append_right hj] at hu
        cases hvo : v.ownBlock with
        | none => exact .inl rfl
        | some g =>
          refine .inr ?_
          have : u = .slice none 0 0 := by
            have := List.mem_of_getElem? hu
            simpa using this
          subst this
          simp [Value.ownBlock]
    · rw [List.getElem?_append_right hi] at hv
      have : v = .slice none 0 0 := by
        have := List.mem_of_getElem? hv
        simpa using this
      subst this
      exact .inl rfl
theorem ydA.grow {w w' : World} {B : Nat} {vals : List Value} {rows : List (List Nat)} {c : Nat} {v v' : Value} {r : List Nat} {x : Nat} (h : ydA w B vals rows) (hv : vals[c]? = some v) (hr : rows[c]? = some r)
    (hg : w.grownBy w' v.ownBlock) (hown : w'.ownsRow B 3 1 v' (r.length + 1) (ydl r ++ [.int .i64 (Int.ofNat x)])) (hat : v'.ownBlock = v.ownBlock ∨ ∃ g, v'.ownBlock = some g ∧ w.heap.size ≤ g) :
    ydA w' B (vals.set c v') (rows.modify c (· ++ [x])) := by
  have hc : c < vals.length := (List.getElem?_eq_some_iff.1 hv).1
  have hlt : ∀ (i : Nat) (u : Value), vals[i]? = some u → ∀ k, u.ownBlock = some k → k < w.heap.size := fun i u hu k hk => by
    have hi : i < vals.length := (List.getElem?_eq_some_iff.1 hu).1
    have hri : rows[i]? = some (rows[i]'(by rw [← h.1]; exact hi)) := List.getElem?_eq_getElem (by rw [← h.1]; exact hi)
    exact ((h.2.1 i u _ hu hri).lt k hk).2
  refine ⟨by simp [h.1], fun i u r' hu hr' => ?_, fun i j u z hij hu hz => ?_⟩
  · by_cases e : i = c
    · subst e
      rw [List.getElem?_set_self hc] at hu
      rw [List.getElem?_modify, hr] at hr'
      simp at hu hr'
      subst hu; subst hr'
      simpa [ydl] using hown
    · rw [List.getElem?_set_ne (fun e' => e e'.symm)] at hu
      rw [List.getElem?_modify] at hr'
      have e' : ¬ c = i := fun h => e h.symm
      have hr'' : rows[i]? = some r' := by cases hq : rows[i]? <;> simp_all
      exact (h.2.1 i u r' hu hr'').kept hg (h.2.2 i c u v e hu hv)
  · by_cases e : i = c
    · subst e
      rw [List.getElem?_set_self hc] at hu
      rw [List.getElem?_set_ne (fun e' => hij e')] at hz
      simp at hu
      subst hu
      rcases hat with e1 | ⟨g, e1, hgs⟩
      · rw [e1]; exact h.2.2 i j v z hij hv hz
      · refine .inr ?_
        rw [e1]
        intro e2
        have := hlt j z hz g e2.symm
        omega
    · rw [List.getElem?_set_ne (fun e' => e e'.symm)] at hu
      by_cases e3 : j = c
      · subst e3
        rw [List.getElem?_set_self hc] at hz
        simp at hz
        subst hz
        cases huo : u.ownBlock with
        | none => exact .inl rfl
        | some k =>
          refine .inr ?_
          rcases hat with e1 | ⟨g, e1, hgs⟩
          · rw [e1]
            have := h.2.2 i j u v hij hu hv
            rw [huo] at this
            rcases this with h0 | h0
            · cases h0
            · exact h0
          · rw [e1]
            intro e2
            have := hlt i u hu k huo
            cases e2
            omega
      · rw [List.getElem?_set_ne (fun e' => e3 e'.symm)] at hz
        exact h.2.2 i j u z hij hu hz
theorem ints_info : (Tryz.prog.info? 25).map (fun i => (i.zero, i.size, i.bytes)) = some (some (.slice none 0 0), 1, 24) := by kernel_rfl
theorem zero_int (w : World) : (zeroValue 3).run Tryz.prog w = .ok (.int .i64 0) w := by kernel_rfl
theorem key_int : Keyed Tryz.prog 3 := int_keyed underlying3
theorem wf_small {r : Nat} (hr : r < 1000) : (Lit.int .i64 (r : Int)).wf = true := WalkArith.wf_i64 (by omega)
theorem ybw {H : Type} {w : World} {M n : Nat} {D : DataW H} {r : Nat} {c : Int} (h : w.ownsMap Tryz.prog 3 (plainElem Tryz.prog 3) M n D) (hr : r < 1000) (hD : D.atKey (.int .i64 (r : Int)) (.lit (.int .i64 0)) = .lit (.int .i64 c)) :
    (Instr.lookup 264 (.map (some M)) (.int .i64 (r : Int)) false).run Tryz.prog w = .ok (.int .i64 c) w := by
  obtain ⟨c', h1, h2, _⟩ := h.lookup_int key_int underlying264 underlying3 (zero_int w) (key := .int .i64 (r : Int)) (keyOf_int_mk underlying3 (wf_small hr))
  rw [hD] at h2
  simp at h2
  rw [h1, h2]
theorem ygL {w : World} {B n : Nat} {v : Value} {xs : List Value} {e : TypeId} (h : w.ownsRow B e 1 v n xs) : ∃ A c, v = .slice A n c := by
  rcases h.2 with ⟨rfl, rfl⟩ | ⟨g, cap, cur, rfl, _⟩
  · exact ⟨_, _, rfl⟩
  · exact ⟨_, _, rfl⟩
theorem yf4 {H : Type} {P : Program} {w : World} {B e size n m k : Nat} {v : Value} {xs : List Value} {R : Value → Option (DataW H × List MemPlace)} {D : DataW H} {M : Nat} (h : w.ownsRow B e size v n xs) (hm : w.ownsMap P k R M m D) : v.ownBlock = none ∨ v.ownBlock ≠ some M := by
  obtain ⟨es, clock, hM, _⟩ := hm
  rcases h.2 with ⟨rfl, _⟩ | ⟨g, cap, cur, rfl, _, hg, _⟩
  · exact .inl rfl
  · refine .inr ?_
    simp only [Value.ownBlock]
    intro e'
    cases e'
    rw [hg] at hM
    cases hM
theorem own_ne_map' {H : Type} {P : Program} {w : World} {B e size n m k : Nat} {v : Value} {xs : List Value} {R : Value → Option (DataW H × List MemPlace)} {D : DataW H} {M : Nat} (h : w.ownsRow B e size v n xs) (hm : w.ownsMap P k R M m D) : some M ≠ v.ownBlock := by
  rcases yf4 h hm with e | e
  · rw [e]; simp
  · exact fun e' => e e'.symm
theorem undrew {w w' : World} {r : Option Nat} (h : w.drew.grownBy w' r) : w.grownBy w' r := ⟨h.os, h.tape, h.output, h.size, h.block⟩
theorem yd1 {w : World} {B B' e e' size size' n n' : Nat} {v v' : Value} {xs xs' : List Value} (he : e ≠ e') (h : w.ownsRow B e size v n xs) (h' : w.ownsRow B' e' size' v' n' xs') : v.ownBlock = none ∨ v.ownBlock ≠ v'.ownBlock := by
  rcases h.2 with ⟨rfl, _⟩ | ⟨g, cap, cur, rfl, _, hg, _⟩
  · exact .inl rfl
  · refine .inr ?_
    rcases h'.2 with ⟨rfl, _⟩ | ⟨g', cap', cur', rfl, _, hg', _⟩
    · simp [Value.ownBlock]
    · simp only [Value.ownBlock]
      intro e''
      simp only [Option.some.injEq] at e''
      subst e''
      rw [hg] at hg'
      simp only [Option.some.injEq, Obj.cells.injEq] at hg'
      exact he hg'.2.1
theorem ydA.row {w : World} {B : Nat} {vals : List Value} {rows : List (List Nat)} (h : ydA w B vals rows) {v : Value} (hv : v ∈ vals) : ∃ n xs, w.ownsRow B 3 1 v n xs := by
  obtain ⟨i, hi, rfl⟩ := List.getElem_of_mem hv
  have hr : rows[i]? = some (rows[i]'(by rw [← h.1]; exact hi)) := List.getElem?_eq_getElem (by rw [← h.1]; exact hi)
  exact ⟨_, _, h.2.1 i _ _ (List.getElem?_eq_getElem hi) hr⟩
theorem row_block {w : World} {B e n c g cap : Nat} {xs : List Value} {u : Value} (h : w.ownsRow B e 1 (.slice (some ⟨g, 0, none⟩) n cap) n xs) (hu : xs[c]? = some u) : w.cell? ⟨g, c, none⟩ = some u ∧ w.frozen? ⟨g, c, none⟩ = false := by
  have h1 := h.cells (g := g) rfl c u hu
  have hadd : (⟨g, 0, none⟩ : Addr).add c = ⟨g, c, none⟩ := by unfold Addr.add; split <;> simp_all
  rw [hadd] at h1
  refine ⟨h1, ?_⟩
  rcases h.2 with ⟨h0, _⟩ | ⟨g', cap', cur, h0, _, hg, _⟩
  · cases h0
  · cases h0
    simp [World.frozen?, hg]
set_option maxHeartbeats 4000000 in
theorem parts_any (g : Nat) (F : List Nat) (n : Nat) (w : World) (hF : NRow w g 238 12 F) (h : ycM F) (hn : n ≤ 12) :
    Calls Tryz.prog 235 #[.pointer (some ⟨g, 0, none⟩), .int .i64 (n : Int)] w fun e w' => ∃ v vals, e = .returned v ∧ w'.ownsRow w.heap.size 25 1 v (yaE F n) vals ∧ ydA w' w.heap.size vals (ybX F n) ∧ Pure w w' := by
  have HF := Lib.hid h
  clear h
  obtain ⟨i0, hi, hz0, hz1, hz2⟩ := info_parts int_info
  obtain ⟨i1, hi1, hy0, hy1, hy2⟩ := info_parts ints_info
  have hmm := @run_makeMap Tryz.prog
  go_enter func235, ntmps235
  go_wp2
  have hm0 := World.ownsMap_made (H := Unit) w Tryz.prog 3 (plainElem Tryz.prog 3)
  go_loopw [5, 11] (fun out i wr => ∃ (k : Nat) (vals : List Value) (D : DataW Unit), k ≤ n ∧ i = .int .i64 k ∧ wr.ownsRow w.heap.size 25 1 out (yaE F k) vals ∧ ydA wr w.heap.size vals (ybX F k) ∧
      wr.ownsMap Tryz.prog 3 (plainElem Tryz.prog 3) w.heap.size k D ∧ Hid (IsMap D ∧ ∀ r, r < k → root F r = r → D.atKey (.int .i64 (r : Int)) (.lit (.int .i64 0)) = .lit (.int .i64 (yaE F r : Int))) ∧ Pure w wr) (fun _ i _ => n - (intOf i).toNat)
  case atStart => exact ⟨0, [], .map [], Nat.zero_le _, rfl, World.ownsRow_nil _ _ _ _, ydA.nil _ _, hm0, ⟨isMap_empty, fun r hr => absurd hr (by omega)⟩, (by repeat (first | exact Keeps.refl _ _ | assumption | refine Keeps.drew ?_ | refine Keeps.drewN ?_ _ | refine Keeps.alloc ?_ _ | refine Keeps.setRow ?_ (by simp) _ | refine Keeps.setRow ?_ (by simp; omega) _ | refine Keeps.setCell ?_ (by simp) _ | refine Keeps.setCell ?_ (by simp; omega) _))⟩
  case round =>
    obtain ⟨k, vals, D, hk, rfl, hown, hsl, hmap, HD, hp⟩ := hrel
    clear hm0
    have hFr : NRow wr g 238 12 F := hp.row hF id
    obtain ⟨A, cp, rfl⟩ := ygL hown
    by_cases hlt : k < n
    · have hrl := ydQ HF.out k (by omega)
      have hnk := nroots_le F k
      have hMw : w.heap.size < wr.heap.size := hmap.lt
      by_cases hr : root F k = k
      case' pos =>
        have hb : ((root F k : Int) == (k : Int)) = true := by simp [hr]
        have HR := Lib.hid hr
        go_wp2_with fail
        refine (ygu g F k _ hFr HF.out (by omega)).mono ?_
        rintro e w' ⟨rfl, rfl⟩
        rw [hr] at hb ⊢
        clear hr
        go_wp2_with (first
          | (refine wpList_mapUpdate_own _ rfl _ _ _ 264 rfl 3 3 key_int underlying264 _ w.heap.size k D rfl hmap (by unfold maxLen; omega) _ _ _ rfl rfl (keyOf_int_mk underlying3 (wf_small (by omega))) (.lit (.int .i64 (yaE F k : Int))) [] (plainElem_int underlying3 (wf_small (by omega))) ?_; intro w1 hmap1 hgrow1; have hown1 := hown.kept hgrow1 (yf4 hown hmap); have hsl1 := hsl.kept hgrow1 (fun v hv => by obtain ⟨_, _, hq⟩ := hsl.row hv; exact yf4 hq hmap); have hsz1 := hgrow1.size)
          | (at_builtin; refine wpList_append_own _ rfl _ _ 198 rfl w.heap.size 25 i1 (.slice none 0 0) 1 24 underlying198 hi1 hy0 hy1 hy2 rfl (by decide) _ _ _ rfl (hown1.alloc _) ⟨w1.heap.size, 0, none⟩ 1 1 [.slice none 0 0] rfl rfl (cell_one_new _ _ _) (by simp [Value.oneCell']) (by unfold maxLen; omega) (by omega) (by have := hp.size; simp; omega) ?_; intro v2 wA hown2 hgrow2 _))
        obtain ⟨G, capA, rfl, hG1, hG2⟩ := hown2.form (by omega)
        have hS := ((hsl1.kept (World.grownBy_alloc w1 _ none) (fun v _ => by cases v.ownBlock <;> simp)).kept hgrow2 (fun v hv => by obtain ⟨_, _, hq⟩ := hsl1.row hv; exact yd1 (by decide) hq hown1)).push
        have hM := (hmap1.alloc (.cells #[.slice none 0 0] 25)).kept hgrow2 (own_ne_map' hown1 hmap1)
        have hP : Pure w wA := by
          refine Keeps.grown (Keeps.alloc (Keeps.grown hp hgrow1 (fun j e hj => by cases e; omega)) _) hgrow2 (fun j e hj => ?_)
          have := (hown1.lt j e).1
          omega
        have hlen : vals.length = yaE F k := by have := hown.1; omega
        have hO := hown2
        obtain ⟨vi, hvi⟩ : ∃ vi : Value, vi = .slice none 0 0 := ⟨_, rfl⟩
        obtain ⟨rr, hrr⟩ : ∃ rr : List Nat, rr = [] := ⟨_, rfl⟩
        have HX : Hid ((ybX F k ++ [[]])[yaE F k]? = some rr ∧ (ybX F (k + 1) = (ybX F k ++ [[]]).modify (yaE F k) (· ++ [k]) ∧ yaE F (k + 1) = yaE F k + 1) ∧ (IsMap (D.put (.int .i64 (k : Int)) (.lit (.int .i64 (yaE F k : Int)))) ∧ ∀ r, r < k + 1 → root F r = r → (D.put (.int .i64 (k : Int)) (.lit (.int .i64 (yaE F k : Int)))).atKey (.int .i64 (r : Int)) (.lit (.int .i64 0)) = .lit (.int .i64 (yaE F r : Int))) ∧ (D.put (.int .i64 (k : Int)) (.lit (.int .i64 (yaE F k : Int)))).atKey (.int .i64 (k : Int)) (.lit (.int .i64 0)) = .lit (.int .i64 (yaE F k : Int)) ∧ (vals ++ [.slice none 0 0])[yaE F k]? = some vi ∧ yaE F k < yaE F k + 1) := by
          rw [hvi, hrr]
          have hk1 : WideAt.IsKeyLit (.int .i64 (k : Int)) := trivial
          refine ⟨?_, ⟨?_, ?_⟩, ⟨HD.out.1.put _ _, ?_⟩, ?_, ?_, by omega⟩
          · rw [List.getElem?_append_right (by rw [ycE]; exact Nat.le_refl _), ycE]; simp
          · rw [ybX, HR.out, if_pos rfl]
          · rw [yaE, if_pos HR.out]
          · intro q hq hqr
            by_cases e : q = k
            · subst e; exact atKey_put_same HD.out.1 hk1 _ _
            · rw [atKey_put_other (by simp; omega)]
              exact HD.out.2 q (by omega) hqr
          · exact atKey_put_same HD.out.1 hk1 _ _
          · rw [List.getElem?_append_right (by omega), hlen]; simp
        clear hgrow2 hmap1 hgrow1 hown1 hsl1 hsz1 hown hsl hmap HD hlen hown2 HR
        generalize hvv : vals ++ [(.slice none 0 0 : Value)] = vA at *
        clear hvv
        generalize hrw : ybX F k ++ [[]] = rowsA at *
        clear hrw
        have hform : ∃ Ai ci, vi = .slice Ai rr.length ci := ⟨none, 0, by rw [hvi, hrr]; rfl⟩
        have hvo' : wA.ownsRow w.heap.size 3 1 vi rr.length (ydl rr) := by rw [hvi, hrr]; exact World.ownsRow_nil _ _ _ _
        have hrl12 : rr.length ≤ 1000 := by rw [hrr]; simp
        clear hvi hrr
        generalize hL : yaE F k + 1 = L at *
        clear hL
        generalize hcc : yaE F k = c at *
        clear hcc
        generalize hDD : D.put (.int .i64 (k : Int)) (.lit (.int .i64 (c : Int))) = DA at *
        clear hDD
        obtain ⟨Ai, ci, rfl⟩ := hform
        have hcL : c < L := HX.out.2.2.2.2.2
        have hc0 : (0 : Int) ≤ (c : Int) := by omega
        have hc1 : (c : Int) < (L : Int) := by omega
        have hcv := HX.out.2.2.2.2.1
        obtain ⟨hq1, hq2⟩ := row_block hO hcv
        have hr12 : k < 1000 := by omega
        have hLk := ybw hM hr12 HX.out.2.2.2.1
        have hlk1 := ybw (World.ownsMap.drew hM) hr12 HX.out.2.2.2.1
        have hlk2 := ybw (World.ownsMap.drew (hM.alloc (.cells #[.int .i64 (k : Int)] 3))) hr12 HX.out.2.2.2.1
        have hGn := yd1 (by decide) hO hvo'
        have hMG := own_ne_map' hvo' hM
        have hGw : G < wA.heap.size := (hO.lt G rfl).2
        have HO := Lib.hid hO
        have HS := Lib.hid hS
        have HM := Lib.hid hM
        have HV := Lib.hid hvo'
        have HMG := Lib.hid hMG
        have HGn : Hid (some G ≠ (Value.slice Ai rr.length ci).ownBlock) := by
          rcases hGn with e | e
          · simp [Value.ownBlock] at e
          · exact e
        clear hO hS hM hvo' hMG hGn hcv hLk
        go_region_law ((refine step_append_lies _ (by rfl) _ _ _ (by rfl) w.heap.size 3 i0 _ 1 8 underlying25 hi hz0 hz1 hz2 rfl (by omega) (.slice Ai rr.length ci) rr.length (ydl rr) (by rfl) ((HV.out.alloc _).drew) ⟨wA.heap.size, 0, none⟩ 1 1 [.int .i64 (k : Int)] (by rfl) (by rfl) (World.news_of_block (cs := #[.int .i64 (k : Int)]) (t := 3) (fr := (0, 0)) (heap_alloc_new wA _)) (by simp [Value.oneCell']) (by omega) (by unfold maxLen; omega) (by omega) (by simp; omega) (wA.heap.size + 1) (by simp) ?_; intro gg cap w3 hown3 hgrow hat hlt3; have hbG := hgrow.block G (by simp; omega) HGn.out; have hbG' := hbG.trans (Below.heap_alloc wA _ G hGw); have hq3 := (World.cell?_of_block (w := wA) (a := ⟨G, c, none⟩) hbG').trans hq1; have hq4 := (World.frozen?_of_block (w := wA) (a := ⟨G, c, none⟩) hbG').trans hq2; have hM3 := (World.ownsMap.drew (HM.out.alloc (.cells #[.int .i64 (k : Int)] 3))).kept hgrow HMG.out; have hlk3 := ybw hM3 hr12 HX.out.2.2.2.1; have HM3 := Lib.hid hM3; have HG3 := Lib.hid hgrow; have HO3 := Lib.hid hown3; have HA3 := Lib.hid hat; clear hbG hbG' hM3 hgrow hown3 hat))
        all_goals (
          have o3 := (HO.out.alloc (.cells #[.int .i64 (k : Int)] 3)).kept (w' := w3) (undrew HG3.out) (.inr (by simpa [Value.ownBlock] using HGn.out))
          have o4 := o3.stored c (.slice (some ⟨gg, 0, none⟩) (rr.length + 1) cap)
          have s3 := ydA.grow (v' := .slice (some ⟨gg, 0, none⟩) (rr.length + 1) cap) (x := k) (HS.out.kept (World.grownBy_alloc wA (.cells #[.int .i64 (k : Int)] 3) none) (fun v _ => by cases v.ownBlock <;> simp)) HX.out.2.2.2.2.1 HX.out.1 (undrew HG3.out) HO3.out (by
            rcases HA3.out with e | e
            · exact .inl e.symm
            · exact .inr ⟨gg, rfl, by rw [e]; simp⟩)
          have s4 := s3.kept o4.2 (fun v hv => by obtain ⟨_, _, hq⟩ := s3.row hv; exact yd1 (by decide) hq o3)
          have m4 := HM3.out.kept o4.2 (own_ne_map' o3 HM3.out)
          have p4 : Pure w (w3.setCell ⟨G, c, none⟩ (.slice (some ⟨gg, 0, none⟩) (rr.length + 1) cap)) := by
            refine Keeps.setCell (Keeps.grown (Keeps.drew (Keeps.alloc hP _)) HG3.out (fun j e hj => ?_)) (by simp; omega) _
            have := (HV.out.lt j e).1
            omega
          have HO4 := Lib.hid o4.1
          have HS4 := Lib.hid s4
          have HM4 := Lib.hid m4
          have HP4 := Lib.hid p4
          clear o3 o4 s3 s4 m4 p4 hq1 hq2 hq3 hq4 hlk1 hlk2 hlk3
          go_wp2
          go_roundw
          case rel => exact ⟨k + 1, vA.set c (.slice (some ⟨gg, 0, none⟩) (rr.length + 1) cap), DA, by omega, by go_num, by rw [HX.out.2.1.2]; exact HO4.out, by rw [HX.out.2.1.1]; exact HS4.out, HM4.out, HX.out.2.2.1, HP4.out⟩
          case measure => simp [intOf]; omega)
      case' neg =>
        have hb : ((root F k : Int) == (k : Int)) = false := by simp; omega
        have hrk : root F k < k := by omega
        have HR := Lib.hid hr
        clear hr
        have hcl : yaE F (root F k) < yaE F k := yg0 F hrk (ygC HF.out (by omega))
        obtain ⟨G, capA, e0, hG1, hG2⟩ := hown.form (by omega)
        cases e0
        have hlen : vals.length = yaE F k := by have := hown.1; omega
        have hv0 : vals[yaE F (root F k)]? = some (vals[yaE F (root F k)]'(by omega)) := List.getElem?_eq_getElem _
        have hr0 : (ybX F k)[yaE F (root F k)]? = some ((ybX F k)[yaE F (root F k)]'(by rw [ycE]; omega)) := List.getElem?_eq_getElem _
        obtain ⟨vi, hvi⟩ : ∃ vi : Value, vi = vals[yaE F (root F k)]'(by omega) := ⟨_, rfl⟩
        obtain ⟨rr, hrr⟩ : ∃ rr : List Nat, rr = (ybX F k)[yaE F (root F k)]'(by rw [ycE]; omega) := ⟨_, rfl⟩
        rw [← hvi] at hv0
        rw [← hrr] at hr0
        have hrl12 : rr.length ≤ 1000 := by
          have := rows_le F k rr (by rw [hrr]; exact List.getElem_mem _)
          omega
        clear hvi hrr
        go_wp2_with fail
        refine (ygu g F k _ hFr HF.out (by omega)).mono ?_
        rintro e w' ⟨rfl, rfl⟩
        go_wp2
        obtain ⟨wA, hwA⟩ : ∃ wA : World, wA = wr := ⟨_, rfl⟩
        rw [← hwA] at hown hsl hmap hp hG2 ⊢
        clear hwA
        have hO := hown
        have hS := hsl
        have hM := hmap.mono (Nat.le_succ k)
        have hP := hp
        have hvo' := hsl.2.1 _ _ _ hv0 hr0
        have hform : ∃ Ai ci, vi = .slice Ai rr.length ci := ygL hvo'
        have HX : Hid ((ybX F k)[yaE F (root F k)]? = some rr ∧ (ybX F (k + 1) = (ybX F k).modify (yaE F (root F k)) (· ++ [k]) ∧ yaE F (k + 1) = yaE F k) ∧ (IsMap D ∧ ∀ r, r < k + 1 → root F r = r → D.atKey (.int .i64 (r : Int)) (.lit (.int .i64 0)) = .lit (.int .i64 (yaE F r : Int))) ∧ D.atKey (.int .i64 (root F k : Int)) (.lit (.int .i64 0)) = .lit (.int .i64 (yaE F (root F k) : Int)) ∧ vals[yaE F (root F k)]? = some vi ∧ yaE F (root F k) < yaE F k) := by
          refine ⟨hr0, ⟨?_, ?_⟩, ⟨HD.out.1, ?_⟩, ?_, hv0, hcl⟩
          · rw [ybX, if_neg HR.out]
          · rw [yaE, if_neg HR.out, Nat.add_zero]
          · intro q hq hqr
            by_cases e : q = k
            · subst e; exact absurd hqr HR.out
            · exact HD.out.2 q (by omega) hqr
          · exact HD.out.2 _ hrk (ygC HF.out (by omega))
        clear hown hsl hmap HD hlen HR hv0 hr0 hcl
        generalize hL : yaE F k = L at *
        clear hL
        generalize hcc : yaE F (root F k) = c at *
        clear hcc
        generalize hrw : ybX F k = rowsA at *
        clear hrw
        generalize hq : root F k = r at *
        clear hq
        obtain ⟨Ai, ci, rfl⟩ := hform
        have hcL : c < L := HX.out.2.2.2.2.2
        have hc0 : (0 : Int) ≤ (c : Int) := by omega
        have hc1 : (c : Int) < (L : Int) := by omega
        have hcv := HX.out.2.2.2.2.1
        obtain ⟨hq1, hq2⟩ := row_block hO hcv
        have hr12 : r < 1000 := by omega
        have hLk := ybw hM hr12 HX.out.2.2.2.1
        have hlk1 := ybw (World.ownsMap.drew hM) hr12 HX.out.2.2.2.1
        have hlk2 := ybw (World.ownsMap.drew (hM.alloc (.cells #[.int .i64 (k : Int)] 3))) hr12 HX.out.2.2.2.1
        have hGn := yd1 (by decide) hO hvo'
        have hMG := own_ne_map' hvo' hM
        have hGw : G < wA.heap.size := (hO.lt G rfl).2
        have HO := Lib.hid hO
        have HS := Lib.hid hS
        have HM := Lib.hid hM
        have HV := Lib.hid hvo'
        have HMG := Lib.hid hMG
        have HGn : Hid (some G ≠ (Value.slice Ai rr.length ci).ownBlock) := by
          rcases hGn with e | e
          · simp [Value.ownBlock] at e
          · exact e
        clear hO hS hM hvo' hMG hGn hcv hLk
        go_region_law ((refine step_append_lies _ (by rfl) _ _ _ (by rfl) w.heap.size 3 i0 _ 1 8 underlying25 hi hz0 hz1 hz2 rfl (by omega) (.slice Ai rr.length ci) rr.length (ydl rr) (by rfl) ((HV.out.alloc _).drew) ⟨wA.heap.size, 0, none⟩ 1 1 [.int .i64 (k : Int)] (by rfl) (by rfl) (World.news_of_block (cs := #[.int .i64 (k : Int)]) (t := 3) (fr := (0, 0)) (heap_alloc_new wA _)) (by simp [Value.oneCell']) (by omega) (by unfold maxLen; omega) (by omega) (by simp; omega) (wA.heap.size + 1) (by simp) ?_; intro gg cap w3 hown3 hgrow hat hlt3; have hbG := hgrow.block G (by simp; omega) HGn.out; have hbG' := hbG.trans (Below.heap_alloc wA _ G hGw); have hq3 := (World.cell?_of_block (w := wA) (a := ⟨G, c, none⟩) hbG').trans hq1; have hq4 := (World.frozen?_of_block (w := wA) (a := ⟨G, c, none⟩) hbG').trans hq2; have hM3 := (World.ownsMap.drew (HM.out.alloc (.cells #[.int .i64 (k : Int)] 3))).kept hgrow HMG.out; have hlk3 := ybw hM3 hr12 HX.out.2.2.2.1; have HM3 := Lib.hid hM3; have HG3 := Lib.hid hgrow; have HO3 := Lib.hid hown3; have HA3 := Lib.hid hat; clear hbG hbG' hM3 hgrow hown3 hat))
        all_goals (
          have o3 := (HO.out.alloc (.cells #[.int .i64 (k : Int)] 3)).kept (w' := w3) (undrew HG3.out) (.inr (by simpa [Value.ownBlock] using HGn.out))
          have o4 := o3.stored c (.slice (some ⟨gg, 0, none⟩) (rr.length + 1) cap)
          have s3 := ydA.grow (v' := .slice (some ⟨gg, 0, none⟩) (rr.length + 1) cap) (x := k) (HS.out.kept (World.grownBy_alloc wA (.cells #[.int .i64 (k : Int)] 3) none) (fun v _ => by cases v.ownBlock <;> simp)) HX.out.2.2.2.2.1 HX.out.1 (undrew HG3.out) HO3.out (by
            rcases HA3.out with e | e
            · exact .inl e.symm
            · exact .inr ⟨gg, rfl, by rw [e]; simp⟩)
          have s4 := s3.kept o4.2 (fun v hv => by obtain ⟨_, _, hq⟩ := s3.row hv; exact yd1 (by decide) hq o3)
          have m4 := HM3.out.kept o4.2 (own_ne_map' o3 HM3.out)
          have p4 : Pure w (w3.setCell ⟨G, c, none⟩ (.slice (some ⟨gg, 0, none⟩) (rr.length + 1) cap)) := by
            refine Keeps.setCell (Keeps.grown (Keeps.drew (Keeps.alloc hP _)) HG3.out (fun j e hj => ?_)) (by simp; omega) _
            have := (HV.out.lt j e).1
            omega
          have HO4 := Lib.hid o4.1
          have HS4 := Lib.hid s4
          have HM4 := Lib.hid m4
          have HP4 := Lib.hid p4
          clear o3 o4 s3 s4 m4 p4 hq1 hq2 hq3 hq4 hlk1 hlk2 hlk3
          go_wp2
          go_roundw
          case rel => exact ⟨k + 1, vals.set c (.slice (some ⟨gg, 0, none⟩) (rr.length + 1) cap), D, by omega, by go_num, by rw [HX.out.2.1.2]; exact HO4.out, by rw [HX.out.2.1.1]; exact HS4.out, HM4.out, HX.out.2.2.1, HP4.out⟩
          case measure => simp [intOf]; omega)
    · go_wp2
      go_ret
      obtain rfl : k = n := by omega
      exact ⟨_, vals, rfl, hown, hsl, hp⟩
end Go.Proofs.YtncilechkclmbaaGreat

/- The walks of connect.Components and connect.Connected. -/
namespace Go.Proofs.YtncilechkclmbaaGreat
open Go.RowKit Go.Maps Go.Proofs.Tryz
set_option maxRecDepth 100000
set_option maxHeartbeats 400000
theorem gchk_ends {n : Int} (hn : n ≤ 12) : ∀ (es : List E3) (a b : Int), gchk n a b es = 0 → ycG es := by
  intro es
  induction es with
  | nil => intro a b _ x hx; cases hx
  | cons e t ih =>
    intro a b h
    rw [gchk] at h
    split at h
    · rename_i h1
      split at h
      · rename_i h2
        intro x hx
        rcases List.mem_cons.1 hx with rfl | hx
        · omega
        · exact ih _ _ h x hx
      · omega
    · omega
theorem yng {n : Int} {es : List E3} (h : yat n es = 0) : ycG es ∧ 1 ≤ n ∧ n ≤ 12 := by
  rw [yat] at h
  split at h
  · rename_i h1
    exact ⟨gchk_ends h1.2 es _ _ h, h1⟩
  · omega
def yde (n : Int) (es : List E3) : Bool := yaE (yay es) n.toNat == 1
theorem own_base {w : World} {B B' e size n : Nat} {v : Value} {xs : List Value} (h : w.ownsRow B e size v n xs) (hB : B' ≤ B) : w.ownsRow B' e size v n xs := by
  refine ⟨h.1, ?_⟩
  rcases h.2 with h0 | ⟨g, cap, cur, hv, hb, r⟩
  · exact .inl h0
  · exact .inr ⟨g, cap, cur, hv, Nat.le_trans hB hb, r⟩
theorem ydA.base {w : World} {B B' : Nat} {vals : List Value} {rows : List (List Nat)} (h : ydA w B vals rows) (hB : B' ≤ B) : ydA w B' vals rows :=
  ⟨h.1, fun i v r hv hr => own_base (h.2.1 i v r hv hr) hB, h.2.2⟩
def CompPost (n : Int) (es : List E3) (w : World) (e : Ending) (w' : World) : Prop :=
  ∃ v L vals, e = .returned (.tuple #[v, .int .i64 (yat n es)]) ∧ w'.ownsRow w.heap.size 25 1 v L vals ∧ (yat n es ≠ 0 → L = 0) ∧
    (yat n es = 0 → L = yaE (yay es) n.toNat ∧ ydA w' w.heap.size vals (ybX (yay es) n.toNat)) ∧ Pure w w'
theorem components_any (A : Option Addr) (es : List E3) (cap : Nat) (n : Int) (w : World) (hd : ycx w A es) (hlen : es.length ≤ 1000000000) :
    Calls Tryz.prog 199 #[.agg #[.int .i64 n, .slice A es.length cap]] w (CompPost n es w) := by
  by_cases hg : yat n es = 0
  case neg =>
    have hb := neT hg
    have HG := Lib.hid hg
    clear hg
    go_enter func199, ntmps199
    go_wp2_with fail
    refine (gcheck_any A es cap n _ (hd.keep (by repeat (first | exact Keeps.refl _ _ | assumption | refine Keeps.drew ?_ | refine Keeps.drewN ?_ _ | refine Keeps.alloc ?_ _ | refine Keeps.setRow ?_ (by simp) _ | refine Keeps.setRow ?_ (by simp; omega) _ | refine Keeps.setCell ?_ (by simp) _ | refine Keeps.setCell ?_ (by simp; omega) _))) hlen).mono ?_
    rintro e w1 ⟨rfl, hp1⟩
    go_wp2
    go_ret2
    exact ⟨.slice none 0 0, 0, [], rfl, World.ownsRow_nil _ _ _ _, fun _ => rfl, fun h => absurd h HG.out, Pure.after (by repeat (first | exact Keeps.refl _ _ | assumption | refine Keeps.drew ?_ | refine Keeps.drewN ?_ _ | refine Keeps.alloc ?_ _ | refine Keeps.setRow ?_ (by simp) _ | refine Keeps.setRow ?_ (by simp; omega) _ | refine Keeps.setCell ?_ (by simp) _ | refine Keeps.setCell ?_ (by simp; omega) _)) hp1⟩
  have hb := neF hg
  obtain ⟨hE, h1, h2⟩ := yng hg
  have HG := Lib.hid hg
  clear hg
  go_enter func199, ntmps199
  go_wp2_with fail
  refine (gcheck_any A es cap n _ (hd.keep (by repeat (first | exact Keeps.refl _ _ | assumption | refine Keeps.drew ?_ | refine Keeps.drewN ?_ _ | refine Keeps.alloc ?_ _ | refine Keeps.setRow ?_ (by simp) _ | refine Keeps.setRow ?_ (by simp; omega) _ | refine Keeps.setCell ?_ (by simp) _ | refine Keeps.setCell ?_ (by simp; omega) _))) hlen).mono ?_
  rintro e w1 ⟨rfl, hp1⟩
  have p1 : Pure w w1 := Pure.after (by repeat (first | exact Keeps.refl _ _ | assumption | refine Keeps.drew ?_ | refine Keeps.drewN ?_ _ | refine Keeps.alloc ?_ _ | refine Keeps.setRow ?_ (by simp) _ | refine Keeps.setRow ?_ (by simp; omega) _ | refine Keeps.setCell ?_ (by simp) _ | refine Keeps.setCell ?_ (by simp; omega) _)) hp1
  have r0 := hp1.row (Row.new w #[.int .i64 n, .slice A es.length cap] 24) id
  have c0 := Row.cell r0 (i := 0) rfl
  have c1 := Row.cell r0 (i := 1) rfl
  have s0 := r0.lt
  go_wp2_with fail
  refine (joined_any A es cap n _ (hd.keep p1) hlen hE).mono ?_
  rintro e w2 ⟨rfl, hp2⟩
  have p2 : Pure w w2 := Pure.after p1 hp2
  have r1 := hp2.row r0 id
  have d0 := Row.cell r1 (i := 0) rfl
  have d1 := Row.cell r1 (i := 1) rfl
  have s1 := r1.lt
  clear c0 c1 s0 r0
  have hF := yb0 es hE
  obtain ⟨a0, a1, a2, a3, a4, a5, a6, a7, a8, a9, a10, a11, hl⟩ := forestV_lit hF.1
  obtain ⟨m, rfl⟩ := Int.eq_ofNat_of_zero_le (show 0 ≤ n by omega)
  have HL := Lib.hid hl
  have hrow : NRow (w2.alloc (.cells (ydl (yay es)).toArray 238)) w2.heap.size 238 12 (yay es) := by
    have := Row.new w2 (ydl (yay es)).toArray 238
    have hsz : (ydl (yay es)).toArray.size = 12 := by rw [List.size_toArray, ydD, hF.1]
    rw [hsz] at this
    exact this
  rw [hl] at hrow
  unfold yfX
  rw [hl]
  clear hl
  have hF' : ycM [a0, a1, a2, a3, a4, a5, a6, a7, a8, a9, a10, a11] := by rw [← HL.out]; exact hF
  have HF := Lib.hid hF'
  clear hF hF'
  simp only [ydl, List.map] at hrow ⊢
  go_wp2_with fail
  refine (parts_any w2.heap.size _ m _ hrow HF.out (by omega)).mono ?_
  rintro e w3 ⟨v, vals, rfl, ho, hs, hp3⟩
  have p3 : Pure w w3 := Pure.after (Keeps.alloc p2 _) hp3
  have HO := Lib.hid ho
  clear ho
  go_wp2
  go_ret2
  have hle : w.heap.size ≤ (w2.alloc (.cells #[.int .i64 0] 0)).heap.size := by have := p2.size; simp; omega
  simp only [World.size_alloc] at hle
  refine ⟨v, _, vals, ycl (by rw [HG.out]; rfl), own_base HO.out (by simpa using hle), fun h => absurd HG.out h, fun _ => ⟨by rw [HL.out]; rfl, ?_⟩, p3⟩
  have := hs.base (B' := w.heap.size) (by simpa using hle)
  rw [HL.out]
  exact this
theorem ycJ (A : Option Addr) (es : List E3) (cap : Nat) (n : Int) (w : World) (hd : ycx w A es) (hlen : es.length ≤ 1000000000) :
    Calls Tryz.prog 147 #[.agg #[.int .i64 n, .slice A es.length cap]] w fun e w' =>
      e = .returned (.tuple #[.bool (decide (yat n es = 0 ∧ yde n es = true)), .int .i64 (yat n es)]) ∧ Pure w w' := by
  go_enter func147, ntmps147
  go_wp2_with fail
  refine (components_any A es cap n _ (hd.keep (by repeat (first | exact Keeps.refl _ _ | assumption | refine Keeps.drew ?_ | refine Keeps.drewN ?_ _ | refine Keeps.alloc ?_ _ | refine Keeps.setRow ?_ (by simp) _ | refine Keeps.setRow ?_ (by simp; omega) _ | refine Keeps.setCell ?_ (by simp) _ | refine Keeps.setCell ?_ (by simp; omega) _))) hlen).mono ?_
  rintro e w1 ⟨v, L, vals, rfl, ho, h1, h2, hp1⟩
  have p1 : Pure w w1 := Pure.after (by repeat (first | exact Keeps.refl _ _ | assumption | refine Keeps.drew ?_ | refine Keeps.drewN ?_ _ | refine Keeps.alloc ?_ _ | refine Keeps.setRow ?_ (by simp) _ | refine Keeps.setRow ?_ (by simp; omega) _ | refine Keeps.setCell ?_ (by simp) _ | refine Keeps.setCell ?_ (by simp; omega) _)) hp1
  have hL : ((L : Int) == 1) = decide (yat n es = 0 ∧ yde n es = true) := by
    by_cases hg : yat n es = 0
    · obtain ⟨rfl, _⟩ := h2 hg
      simp only [hg, true_and, yde]
      rw [Bool.eq_iff_iff]
      simp
      omega
    · rw [h1 hg]
      simp [hg]
  obtain ⟨A1, c1, rfl⟩ := ygL ho
  have HL := Lib.hid hL
  clear hL ho h1 h2
  go_wp2
  go_ret2
  refine ⟨?_, p1⟩
  rw [← HL.out]
  rfl
end Go.Proofs.YtncilechkclmbaaGreat

/- A right graph's edges; its forest of parts against ways out of sets. No program in sight. -/
namespace Go.Proofs.YtncilechkclmbaaGreat
open Go Go.Proofs.Tryz
set_option linter.unusedVariables false
set_option linter.unusedSectionVars false
theorem gchk_ok {n : Int} : ∀ (es : List E3) (a b : Int), gchk n a b es = 0 → ∀ x ∈ es, 0 ≤ x.1 ∧ x.1 < n ∧ 0 ≤ x.2.1 ∧ x.2.1 < n ∧ 1 ≤ x.2.2 ∧ x.2.2 ≤ 50
  | [], _, _, _ => by simp
  | x :: t, a, b, h => by
    rw [gchk] at h
    split at h
    · rename_i c
      split at h
      · intro y hy
        rcases List.mem_cons.1 hy with rfl | hy
        · omega
        · exact gchk_ok t _ _ h y hy
      · omega
    · omega
theorem yc9 {n : Nat} {es : List E3} (h : yat n es = 0) : EOk n es ∧ 1 ≤ n ∧ n ≤ 12 := by
  unfold yat at h
  split at h
  · rename_i c
    exact ⟨gchk_ok es _ _ h, by omega, by omega⟩
  · omega
theorem root_side {n : Nat} {S : Nat → Bool} : ∀ (es : List E3), ycG es → (∀ x ∈ es, S x.1.toNat = S x.2.1.toNat) → ∀ v, v < 12 → S (root (yay es) v) = S v := by
  suffices H : ∀ (l : List E3) (F : List Nat), ycG l → (∀ x ∈ l, S x.1.toNat = S x.2.1.toNat) → ycM F → (∀ v, v < 12 → S (root F v) = S v) → ∀ v, v < 12 → S (root (l.foldl (fun F x => ycQ F x.1.toNat x.2.1.toNat) F) v) = S v by
    intro es hE hS
    refine H es yek hE hS yd8 fun v hv => ?_
    rw [ycI (by rw [yjP (by simpa [yek] using hv)]; simp [yek])]
  intro l
  induction l with
  | nil => exact fun F _ _ _ h => h
  | cons x l ih =>
    intro F hE hS hF h
    have hx := hE x (by simp)
    have hSx := hS x (by simp)
    refine ih _ (fun y hy => hE y (by simp [hy])) (fun y hy => hS y (by simp [hy])) (ydH hF (by omega) (by omega)) fun v hv => ?_
    rw [yjN hF (by omega) (by omega) v hv]
    have ha := h x.1.toNat (by omega)
    have hb := h x.2.1.toNat (by omega)
    split
    · rename_i e
      rw [← h v hv, e]
      rcases Nat.le_total (root F x.1.toNat) (root F x.2.1.toNat) with q | q
      · rw [Nat.max_eq_right q, Nat.min_eq_left q, ha, hb, hSx]
      · rw [Nat.max_eq_left q, Nat.min_eq_right q, ha, hb, hSx]
    · exact h v hv
theorem root_edge : ∀ (es : List E3), ycG es → ∀ x ∈ es, root (yay es) x.1.toNat = root (yay es) x.2.1.toNat := by
  suffices H : ∀ (l : List E3) (F : List Nat), ycG l → ycM F → (∀ a b, a < 12 → b < 12 → root F a = root F b → root (l.foldl (fun F x => ycQ F x.1.toNat x.2.1.toNat) F) a = root (l.foldl (fun F x => ycQ F x.1.toNat x.2.1.toNat) F) b) ∧
      ∀ x ∈ l, root (l.foldl (fun F x => ycQ F x.1.toNat x.2.1.toNat) F) x.1.toNat = root (l.foldl (fun F x => ycQ F x.1.toNat x.2.1.toNat) F) x.2.1.toNat from
    fun es hE => (H es yek hE yd8).2
  intro l
  induction l with
  | nil => exact fun F _ _ => ⟨fun a b _ _ h => h, by simp⟩
  | cons x l ih =>
    intro F hE hF
    have hx := hE x (by simp)
    have hJ := ydH hF (a := x.1.toNat) (b := x.2.1.toNat) (by omega) (by omega)
    obtain ⟨i1, i2⟩ := ih (ycQ F x.1.toNat x.2.1.toNat) (fun y hy => hE y (by simp [hy])) hJ
    have hr := yjN hF (a := x.1.toNat) (b := x.2.1.toNat) (by omega) (by omega)
    refine ⟨fun a b ha hb h => i1 a b ha hb (by rw [hr a ha, hr b hb, h]), fun y hy => ?_⟩
    rcases List.mem_cons.1 hy with rfl | hy
    · refine i1 _ _ (by omega) (by omega) ?_
      rw [hr _ (by omega), hr _ (by omega)]
      rcases Nat.le_total (root F y.1.toNat) (root F y.2.1.toNat) with q | q
      · rw [Nat.max_eq_right q, Nat.min_eq_left q, if_pos rfl]; split <;> omega
      · rw [Nat.max_eq_left q, Nat.min_eq_right q, if_pos rfl]; split <;> omega
    · exact i2 y hy
theorem nroots_one {F : List Nat} (hF : ycM F) {n : Nat} (hn : 1 ≤ n) (h12 : n ≤ 12) : yaE F n = 1 ↔ ∀ v, v < n → root F v = root F 0 := by
  have h0 : root F 0 = 0 := by have := (ydQ hF 0 (by omega)).1; omega
  constructor
  · intro h v hv
    have h1 := ydQ hF v (by omega)
    have h2 : root F (root F v) = root F v := ygC hF (by omega)
    rw [h0]
    apply Nat.eq_zero_of_not_pos
    intro hpos
    have h3 := yg0 F hpos h0
    have h4 := yg0 F (show root F v < n by omega) h2
    omega
  · intro h
    have H : ∀ k, k + 1 ≤ n → yaE F (k + 1) = 1 := by
      intro k
      induction k with
      | zero => intro _; rw [yaE, yaE, if_pos h0]
      | succ k ih =>
        intro hk
        rw [yaE, ih (by omega), if_neg]
        rw [h (k + 1) (by omega), h0]; omega
    obtain ⟨k, rfl⟩ : ∃ k, n = k + 1 := ⟨n - 1, by omega⟩
    exact H k (Nat.le_refl _)
section
variable {n : Nat} {es : List E3} (hE : EOk n es) (hn : 1 ≤ n) (h12 : n ≤ 12)
include hE hn h12
theorem EOk.ends : ycG es := fun x hx => by have := hE x hx; omega
theorem W_edge {x : E3} (hx : x ∈ es) (hne : x.1 ≠ x.2.1) : 0 < W es x.1.toNat x.2.1.toNat := by
  have h := hE x hx
  exact (W_adj hE).2 ⟨x.2.2, ybv.2 ⟨x, hx, hne, by omega, by omega, rfl⟩⟩
theorem yko {q : Nat} (hq : q < n) : yde n es = true ↔ Conn n es q := by
  have hF := yb0 es (hE.ends hn h12)
  have hk : yde n es = true ↔ ∀ v, v < n → root (yay es) v = root (yay es) 0 := by
    unfold yde
    rw [beq_iff_eq, Int.toNat_natCast]
    exact nroots_one hF hn h12
  rw [hk]
  constructor
  · intro h S hS ⟨v, hv, hSv⟩
    apply Classical.byContradiction
    intro hno
    have hcl : ∀ x ∈ es, S x.1.toNat = S x.2.1.toNat := fun x hx => by
      have hb := hE x hx
      by_cases e : x.1 = x.2.1
      · rw [e]
      · have hw := W_edge hE hn h12 hx e
        cases h1 : S x.1.toNat <;> cases h2 : S x.2.1.toNat
        · rfl
        · exact absurd ⟨x.2.1.toNat, x.1.toNat, by omega, by omega, h2, h1, by rw [yfK]; exact hw⟩ hno
        · exact absurd ⟨x.1.toNat, x.2.1.toNat, by omega, by omega, h1, h2, hw⟩ hno
        · rfl
    have hs := root_side (n := n) es (hE.ends hn h12) hcl
    have h1 := hs v (by omega)
    have h2 := hs q (by omega)
    rw [h v hv] at h1
    rw [h q hq, h1, hSv, hS] at h2
    cases h2
  · intro hC v hv
    have hedge := root_edge es (hE.ends hn h12)
    suffices H : ∀ v, v < n → root (yay es) v = root (yay es) q by rw [H v hv, H 0 (by omega)]
    intro v hv
    apply Classical.byContradiction
    intro hne
    obtain ⟨a, b, ha, hb, hSa, hSb, hW⟩ := hC (fun v => decide (root (yay es) v ≠ root (yay es) q)) (by simp) ⟨v, hv, by simpa using hne⟩
    obtain ⟨m, hm⟩ := (W_adj hE).1 hW
    obtain ⟨x, hx, q1, q2, q3, q4⟩ := ybv.1 hm
    have h1 := hedge x hx
    have hbx := hE x hx
    simp only [decide_eq_true_eq, decide_eq_false_iff_not, ne_eq, Decidable.not_not] at hSa hSb
    rcases q2 with q2 | q2
    · rw [show x.1.toNat = a by omega, show x.2.1.toNat = b by omega, hSb] at h1; exact hSa h1
    · rw [show x.1.toNat = b by omega, show x.2.1.toNat = a by omega, hSb] at h1; exact hSa h1.symm
theorem dist_pos {q : Nat} {o : List Int} (hC : Conn n es q) (hD : Dist n es q o) : ∀ v, v < n → 0 ≤ gi o v := by
  intro v hv
  apply Int.not_lt.1
  intro hneg
  obtain ⟨a, b, ha, hb, hSa, hSb, hW⟩ := hC (fun v => decide (gi o v < 0)) (by rw [hD.q0]; simp) ⟨v, hv, by simpa using hneg⟩
  simp only [decide_eq_true_eq, decide_eq_false_iff_not] at hSa hSb
  have := hD.step b hb (by omega) a ((W_adj hE).1 (by rw [yfK]; exact hW))
  omega
theorem tot_le : tot n es ≤ 2 * (es.map (·.2.2)).sum := by
  clear hn h12
  induction es with
  | nil =>
    unfold tot
    rw [yau (g := fun _ => 0) (fun v _ => by rw [yau (g := fun _ => 0) (fun u _ => W_nil v u), ycf]), ycf]
    simp
  | cons x es ih =>
    have ih := ih (fun y hy => hE y (by simp [hy]))
    have hx := hE x (by simp)
    have h1 : tot n (x :: es) = sm n (fun v => sm n (fun u => w1 x v u)) + tot n es := by
      unfold tot
      rw [← ycF]
      refine yau fun v _ => ?_
      rw [← ycF]
      exact yau fun u _ => yfb x es v u
    have h2 : sm n (fun v => sm n (fun u => w1 x v u)) ≤ sm n (fun v => sm n (fun u => (if v = x.1.toNat then (if u = x.2.1.toNat then x.2.2 else 0) else 0) + (if v = x.2.1.toNat then (if u = x.1.toNat then x.2.2 else 0) else 0))) :=
      yer fun v _ => yer fun u _ => by
        show w1 x v u ≤ ite _ _ _ + ite _ _ _
        unfold w1
        split
        · rename_i c
          rcases c.2 with c2 | c2
          · rw [if_pos (show v = x.1.toNat by omega), if_pos (show u = x.2.1.toNat by omega)]
            split <;> (try split) <;> omega
          · rw [if_pos (show v = x.2.1.toNat by omega), if_pos (show u = x.1.toNat by omega)]
            split <;> (try split) <;> omega
        · split <;> (try split) <;> (try split) <;> (try split) <;> omega
    have h3 : ∀ a b : Nat, a < n → b < n → sm n (fun v => sm n (fun u => if v = a then (if u = b then x.2.2 else 0) else 0)) = x.2.2 := fun a b ha hb => by
      rw [yau (g := fun v => if v = a then x.2.2 else 0) (fun v _ => by
        by_cases e : v = a
        · simp only [if_pos e]; exact yeI _ hb
        · simp only [if_neg e]; exact ycf n)]
      exact yeI _ ha
    have h4 : sm n (fun v => sm n (fun u => (if v = x.1.toNat then (if u = x.2.1.toNat then x.2.2 else 0) else 0) + (if v = x.2.1.toNat then (if u = x.1.toNat then x.2.2 else 0) else 0))) = x.2.2 + x.2.2 := by
      have e : ∀ A B : Nat → Nat → Int, sm n (fun v => sm n (fun u => A v u + B v u)) = sm n (fun v => sm n (A v)) + sm n (fun v => sm n (B v)) := fun A B => by
        rw [← ycF]
        exact yau fun v _ => by rw [← ycF]
      refine (e (fun v u => if v = x.1.toNat then (if u = x.2.1.toNat then x.2.2 else 0) else 0) (fun v u => if v = x.2.1.toNat then (if u = x.1.toNat then x.2.2 else 0) else 0)).trans ?_
      rw [h3 x.1.toNat x.2.1.toNat (by omega) (by omega), h3 x.2.1.toNat x.1.toNat (by omega) (by omega)]
    rw [List.map_cons, List.sum_cons, h1]
    omega
end
end Go.Proofs.YtncilechkclmbaaGreat

/- The walks of package reduced: what is checked first, debts, the beginning of a state. -/
namespace Go.Proofs.YtncilechkclmbaaGreat
open Go.RowKit Go.Proofs.Tryz
set_option maxRecDepth 100000
set_option maxHeartbeats 1000000
def yaD (n : Int) (es : List E3) (q : Int) (d : List Int) : Int :=
  if yat n es = 0 then (if yde n es = true then (if 0 ≤ q ∧ q < n then yaJ d n else 2) else 13) else yat n es
theorem ygJ (A D : Option Addr) (es : List E3) (d : List Int) (cap cd : Nat) (n q : Int) (w : World) (he : ycx w A es) (hel : es.length ≤ 1000000000) (hd : Ints w D d) (hdl : d.length ≤ 1000000000) :
    Calls Tryz.prog 104 #[.agg #[.int .i64 n, .slice A es.length cap], .int .i64 q, .slice D d.length cd] w fun e w' => e = .returned (.int .i64 (yaD n es q d)) ∧ Pure w w' := by
  by_cases hg : yat n es = 0
  case neg =>
    have hb := neT hg
    have HG := Lib.hid hg
    clear hg
    go_enter func104, ntmps104
    go_wp2_with fail
    refine (ycJ A es cap n _ (he.keep (by repeat (first | exact Keeps.refl _ _ | assumption | refine Keeps.drew ?_ | refine Keeps.drewN ?_ _ | refine Keeps.alloc ?_ _ | refine Keeps.setRow ?_ (by simp) _ | refine Keeps.setRow ?_ (by simp; omega) _ | refine Keeps.setCell ?_ (by simp) _ | refine Keeps.setCell ?_ (by simp; omega) _))) hel).mono ?_
    rintro e w1 ⟨rfl, hp1⟩
    go_wp2
    go_ret
    exact ⟨ycl (yd3 (by rw [yaD, if_neg HG.out])), Pure.after (by repeat (first | exact Keeps.refl _ _ | assumption | refine Keeps.drew ?_ | refine Keeps.drewN ?_ _ | refine Keeps.alloc ?_ _ | refine Keeps.setRow ?_ (by simp) _ | refine Keeps.setRow ?_ (by simp; omega) _ | refine Keeps.setCell ?_ (by simp) _ | refine Keeps.setCell ?_ (by simp; omega) _)) hp1⟩
  have hb := neF hg
  by_cases hc : yde n es = true
  case neg =>
    have hc' : decide (yat n es = 0 ∧ yde n es = true) = false := by simp [hg]; simpa using hc
    have HG := Lib.hid hg
    have HC := Lib.hid hc
    clear hg hc
    go_enter func104, ntmps104
    go_wp2_with fail
    refine (ycJ A es cap n _ (he.keep (by repeat (first | exact Keeps.refl _ _ | assumption | refine Keeps.drew ?_ | refine Keeps.drewN ?_ _ | refine Keeps.alloc ?_ _ | refine Keeps.setRow ?_ (by simp) _ | refine Keeps.setRow ?_ (by simp; omega) _ | refine Keeps.setCell ?_ (by simp) _ | refine Keeps.setCell ?_ (by simp; omega) _))) hel).mono ?_
    rintro e w1 ⟨rfl, hp1⟩
    rw [hc']
    clear hc'
    go_wp2
    go_ret
    exact ⟨ycl (yd3 (by rw [yaD, if_pos HG.out, if_neg HC.out])), Pure.after (by repeat (first | exact Keeps.refl _ _ | assumption | refine Keeps.drew ?_ | refine Keeps.drewN ?_ _ | refine Keeps.alloc ?_ _ | refine Keeps.setRow ?_ (by simp) _ | refine Keeps.setRow ?_ (by simp; omega) _ | refine Keeps.setCell ?_ (by simp) _ | refine Keeps.setCell ?_ (by simp; omega) _)) hp1⟩
  have hc' : decide (yat n es = 0 ∧ yde n es = true) = true := by simp [hg, hc]
  have HG := Lib.hid hg
  have HC := Lib.hid hc
  clear hg hc
  by_cases hq : 0 ≤ q ∧ q < n
  · obtain ⟨hq0, hq1⟩ := hq
    have t1 : decide (q < 0) = false := by simp; omega
    have t2 : decide (n ≤ q) = false := by simp; omega
    go_enter func104, ntmps104
    go_wp2_with fail
    refine (ycJ A es cap n _ (he.keep (by repeat (first | exact Keeps.refl _ _ | assumption | refine Keeps.drew ?_ | refine Keeps.drewN ?_ _ | refine Keeps.alloc ?_ _ | refine Keeps.setRow ?_ (by simp) _ | refine Keeps.setRow ?_ (by simp; omega) _ | refine Keeps.setCell ?_ (by simp) _ | refine Keeps.setCell ?_ (by simp; omega) _))) hel).mono ?_
    rintro e w1 ⟨rfl, hp1⟩
    rw [hc']
    clear hc'
    have r0 := hp1.row (Row.new w #[.int .i64 n, .slice A es.length cap] 24) id
    have c0 := Row.cell r0 (i := 0) rfl
    have p1 : Pure w w1 := Pure.after (by repeat (first | exact Keeps.refl _ _ | assumption | refine Keeps.drew ?_ | refine Keeps.drewN ?_ _ | refine Keeps.alloc ?_ _ | refine Keeps.setRow ?_ (by simp) _ | refine Keeps.setRow ?_ (by simp; omega) _ | refine Keeps.setCell ?_ (by simp) _ | refine Keeps.setCell ?_ (by simp; omega) _)) hp1
    have hd1 := hd.keep p1
    go_wp2_with (go_at_call 120; refine (ygR D d cd n _ hd1 hdl).mono ?_; rintro e w' ⟨rfl, rfl⟩)
    go_ret
    exact ⟨ycl (yd3 (by rw [yaD, if_pos HG.out, if_pos HC.out, if_pos ⟨hq0, hq1⟩])), p1⟩
  · go_enter func104, ntmps104
    go_wp2_with fail
    refine (ycJ A es cap n _ (he.keep (by repeat (first | exact Keeps.refl _ _ | assumption | refine Keeps.drew ?_ | refine Keeps.drewN ?_ _ | refine Keeps.alloc ?_ _ | refine Keeps.setRow ?_ (by simp) _ | refine Keeps.setRow ?_ (by simp; omega) _ | refine Keeps.setCell ?_ (by simp) _ | refine Keeps.setCell ?_ (by simp; omega) _))) hel).mono ?_
    rintro e w1 ⟨rfl, hp1⟩
    rw [hc']
    clear hc'
    have r0 := hp1.row (Row.new w #[.int .i64 n, .slice A es.length cap] 24) id
    have c0 := Row.cell r0 (i := 0) rfl
    have p1 : Pure w w1 := Pure.after (by repeat (first | exact Keeps.refl _ _ | assumption | refine Keeps.drew ?_ | refine Keeps.drewN ?_ _ | refine Keeps.alloc ?_ _ | refine Keeps.setRow ?_ (by simp) _ | refine Keeps.setRow ?_ (by simp; omega) _ | refine Keeps.setCell ?_ (by simp) _ | refine Keeps.setCell ?_ (by simp; omega) _)) hp1
    go_wp2
    all_goals try (exfalso; omega)
    all_goals go_ret
    all_goals exact ⟨ycl (yd3 (by rw [yaD, if_pos HG.out, if_pos HC.out, if_neg hq])), p1⟩
end Go.Proofs.YtncilechkclmbaaGreat

/- The package's own functions: Reduce, Lend. -/
namespace Go.Proofs.YtncilechkclmbaaGreat
open Go Go.Proofs.Tryz
set_option linter.unusedVariables false
set_option linter.unusedSectionVars false
theorem yev {d : List Int} {n : Nat} (h : yaJ d n = 0) : d.length = n ∧ 1 ≤ n ∧ n ≤ 12 ∧ ∀ j, j < n → -1048576 ≤ gi d j ∧ gi d j ≤ 1048576 := by
  unfold yaJ yeM at h
  by_cases c : 1 ≤ (n : Int) ∧ (n : Int) ≤ 12
  · rw [if_pos c, if_pos rfl] at h
    by_cases c2 : (d.length : Int) = n
    · rw [if_pos c2] at h
      by_cases c3 : d.all inF = true
      · refine ⟨by omega, by omega, by omega, fun j hj => ?_⟩
        have := (ycA inF d).1 c3 j (by omega)
        simpa [inF] using this
      · rw [if_neg c3] at h; omega
    · rw [if_neg c2] at h; omega
  · rw [if_neg c, if_neg (by omega)] at h; omega
theorem yfN {d : List Int} {n : Nat} (hl : d.length = n) (h1 : 1 ≤ n) (h12 : n ≤ 12) (h : ∀ j, j < n → -1048576 ≤ gi d j ∧ gi d j ≤ 1048576) : yaJ d n = 0 := by
  unfold yaJ yeM
  rw [if_pos (show 1 ≤ (n : Int) ∧ (n : Int) ≤ 12 by omega), if_pos rfl, if_pos (show (d.length : Int) = n by omega), if_pos]
  rw [ycA]
  intro j hj
  have := h j (by omega)
  simpa [inF] using this
theorem yb7 {n : Int} {es : List E3} {q : Int} {d : List Int} (h : yaD n es q d = 0) : yat n es = 0 ∧ yde n es = true ∧ 0 ≤ q ∧ q < n ∧ yaJ d n = 0 := by
  unfold yaD at h
  split at h
  · rename_i c1
    split at h
    · rename_i c2
      split at h
      · rename_i c3; exact ⟨c1, c2, c3.1, c3.2, h⟩
      · omega
    · omega
  · exact absurd h (by assumption)
structure Leads (n : Nat) (es : List E3) (q : Nat) (d d' s' : List Int) : Prop where
  dl : d'.length = n
  sl : s'.length = n
  lp : ∀ v, v < n → gi d' v = gi d v - Lp n es (gi s') v
  sq : gi s' q = 0
  pos : ∀ v, v < n → v ≠ q → 0 ≤ gi d' v
  bd : ∀ v, v < n → -600000 ≤ gi d' v ∧ gi d' v ≤ 600000
  bs : ∀ v, v < n → -600000 ≤ gi s' v ∧ gi s' v ≤ 600000
structure Lends (n : Nat) (es : List E3) (q : Nat) (d d' s' : List Int) : Prop extends Leads n es q d d' s' where
  same : (∀ v, v < n → v ≠ q → 0 ≤ gi d v) → d' = d
structure Reduces (n : Nat) (es : List E3) (q : Nat) (d d' s' : List Int) : Prop extends Leads n es q d d' s' where
  red : Red n es q d'
theorem Lp_norm {n : Nat} {es : List E3} {s : List Int} {q : Nat} (hs : s.length = n) {v : Nat} (hv : v < n) : Lp n es (gi (ydd s q)) v = Lp n es (gi s) v := by
  rw [yd5 (b := fun i => gi s i + (- gi s q)) (fun i hi => by show gi (ydd s q) i = gi s i + - gi s q; rw [ygH (by omega)]; omega) hv, yfM, yeW]; omega
theorem ygd (s : List Int) (q : Nat) : (ydd s q).length = s.length := by simp [ydd]
def ygX (P : Nat → Nat → List Int → List Int → Prop) (n : Int) (es : List E3) (q : Int) (d : List Int) (w : World) (A1 : Option Addr) (l1 c1 : Nat) (A2 : Option Addr) (l2 c2 : Nat) (er : Int) (w' : World) : Prop :=
  Pure w w' ∧ er = yaD n es q d ∧ (er ≠ 0 → ResNil A1 l1 c1 A2 l2 c2) ∧ (er = 0 → ∃ gd gs cd cs d' s', P n.toNat q.toNat d' s' ∧ ResOk gd gs n.toNat cd cs d' s' A1 l1 c1 A2 l2 c2 w' ∧ w.heap.size ≤ gd ∧ w.heap.size ≤ gs ∧ gd ≠ gs ∧ cd ≤ maxLen ∧ cs ≤ maxLen)
structure Small (n : Int) (es : List E3) (d : List Int) : Prop where
  el : es.length ≤ 40
  g : yat n es = 0 → n ≤ 6 ∧ (es.map (·.2.2)).sum ≤ 9
  d : yaJ d n = 0 → ∀ v : Nat, (v : Int) < n → -200 ≤ gi d v ∧ gi d v ≤ 200
theorem GS.leads {n : Nat} {es : List E3} {q : Nat} {d0 : List Int} (hE : EOk n es) (hn : n ≤ 6) (hq : q < n) (hC : Conn n es q) (hd0 : ∀ v, v < n → -200 ≤ gi d0 v ∧ gi d0 v ≤ 200) {m : Nat} {d s : List Int} {e : Int} (h : GS n es q 200 d0 m d s e) :
    Leads n es q d0 d (ydd s q) := by
  obtain ⟨-, h0, -⟩ := h
  obtain ⟨b1, b2, b3⟩ := h0.bnd hE hn hq (by omega) (by omega) hC hd0
  have hsq := h0.sq
  refine ⟨h0.dl, by rw [ygd, h0.sl], fun v hv => by rw [Lp_norm h0.sl hv]; exact h0.lp v hv, by rw [ygH (by rw [h0.sl]; exact hq)]; omega, h0.pos, fun v hv => ?_, fun v hv => ?_⟩
  · have := b2 v hv; omega
  · have := b1 v hv; have := h0.s0 v hv; rw [ygH (by rw [h0.sl]; exact hv)]; omega
section
variable {n : Nat} {es : List E3} {q : Nat} {d0 : List Int} (hE : EOk n es) (hn : n ≤ 6) (hn1 : 1 ≤ n) (hq : q < n) (hC : Conn n es q) (hsum : (es.map (·.2.2)).sum ≤ 9) (hel : es.length ≤ 40) (hd0 : ∀ v, v < n → -200 ≤ gi d0 v ∧ gi d0 v ≤ 200) (hdl : d0.length = n)
include hE hn hn1 hq hC hsum hel hd0 hdl
theorem lend_state (X gd gs : Nat) (A : Option Addr) (cap cd cs : Nat) (w : World) (hS : ydV w X gd gs n A es cap cd cs q d0 (List.replicate n 0) 0) (hes : ycx w A es) (heg : ∀ b off, A = some ⟨b, off, none⟩ → 0 < es.length → b ≠ gd ∧ b ≠ gs ∧ b ≠ X) :
    Calls Tryz.prog 106 #[.pointer (some ⟨X, 0, none⟩)] w fun e' w' => e' = .returned (.tuple #[]) ∧
      ∃ m d s, GS n es q 200 d0 m d s 0 ∧ ((∀ v, v < n → v ≠ q → 0 ≤ gi d0 v) → d = d0) ∧ ydV w' X gd gs n A es cap cd cs q d s 0 ∧ Keeps (fun j => j = gd ∨ j = gs ∨ j = X) w w' := by
  have hc : ∀ o, Dist n es q o → ∀ v, v < n → 0 ≤ gi o v := fun o hD => dist_pos hE hn1 (by omega) hC hD
  have ht : tot n es ≤ 18 := by have := tot_le hE hn1 (by omega); omega
  refine (lend_any (fun o k d s e => GL n es q 200 d0 o k d s e) X gd gs n A es cap cd cs q d0 (List.replicate n 0) 0 w hS hes heg hq (by omega) hE.range (fun x hx => (hE x hx).2.2.2.2.1) (by omega)
    (fun o hD => GL.start hE hn hq ht (by omega) (by omega) hc hd0 hdl o hD)
    (fun o k d s e h => ?_) (fun o k d s hD h hl hl2 => GL.step hE hn hq ht (by omega) (by omega) hc hd0 hdl hD h)).mono ?_
  · have := GL.bnd hE hn hq ht (by omega) (by omega) hc hd0 hdl h
    exact ⟨fun i => by have := this.1 i; omega, fun i => by have := this.2 i; omega⟩
  · rintro _ w1 ⟨rfl, o, k, d, s, e, hD, hg, hS1, hk, K⟩
    have he := hg.e0
    subst he
    have hk0 : k = 0 := by rcases hk with h | h
                           · exact h
                           · exact absurd rfl h
    subst hk0
    exact ⟨rfl, _, d, s, hg.settle hE hn hq (by omega) (by omega) hC hd0 hD (hc o hD) ht, fun h => (hg.same h).1, hS1, K⟩
theorem settle_state (X gd gs : Nat) (A : Option Addr) (cap cd cs : Nat) (m : Nat) (d s : List Int) (w : World) (hG : GS n es q 200 d0 m d s 0) (hS : ydV w X gd gs n A es cap cd cs q d s 0) (hes : ycx w A es) (heg : ∀ b off, A = some ⟨b, off, none⟩ → 0 < es.length → b ≠ gd ∧ b ≠ gs ∧ b ≠ X) :
    Calls Tryz.prog 107 #[.pointer (some ⟨X, 0, none⟩)] w fun e' w' => e' = .returned (.tuple #[]) ∧
      ∃ m d s, GS n es q 200 d0 m d s 0 ∧ Red n es q d ∧ ydV w' X gd gs n A es cap cd cs q d s 0 ∧ Keeps (fun j => j = gd ∨ j = gs ∨ j = X) w w' := by
  refine (settle_any (fun m d s e => GS n es q 200 d0 m d s e) X gd gs n A es cap cd cs q m d s 0 w hS hes heg hq (by omega) hE.range (by omega) hG (fun m d s e h => ?_)
    (fun m d s burnt h hl hl2 hB hany => GS.step hE hn hq (by omega) (by omega) hC hd0 h hB hany)).mono ?_
  · have := GS.bnd hE hn hq (by omega) (by omega) hC hd0 h
    exact ⟨fun i => by have := this.1 i; omega, fun i => by have := this.2 i; omega⟩
  · rintro _ w1 ⟨rfl, m, d, s, e, hg, hS1, hb, K⟩
    have he := hg.1
    subst he
    rcases hb with h | ⟨burnt, hB, hany⟩
    · exact absurd rfl h
    · exact ⟨rfl, m, d, s, hg, hg.2.1.red hE hn hq (by omega) (by omega) hC hd0 hB hany, hS1, K⟩
theorem result_state (X gd gs : Nat) (A : Option Addr) (cap cd cs : Nat) (m : Nat) (d s : List Int) (w : World) (hG : GS n es q 200 d0 m d s 0) (hS : ydV w X gd gs n A es cap cd cs q d s 0) :
    Calls Tryz.prog 108 #[.pointer (some ⟨X, 0, none⟩)] w fun e' w' => ∃ A1 l1 c1 A2 l2 c2, e' = .returned (.tuple #[.slice A1 l1 c1, .slice A2 l2 c2, .int .i64 0]) ∧
      Keeps (fun j => j = gs) w w' ∧ ResOk gd gs n cd cs d (ydd s q) A1 l1 c1 A2 l2 c2 w' ∧ Leads n es q d0 d (ydd s q) := by
  have hL := hG.leads hE hn hq hC hd0
  have hb := GS.bnd hE hn hq (by omega) (by omega) hC hd0 hG
  refine (result_any X gd gs n A es cap cd cs q d s 0 w hS hq (by omega) (fun _ i => by have := hb.2 i; omega)).mono ?_
  rintro _ w1 ⟨A1, l1, c1, A2, l2, c2, er, rfl, K, h⟩
  have k1 : yaJ d n = 0 := yfN hL.dl hn1 (by omega) (fun j hj => by have := hL.bd j hj; omega)
  have k2 : yaJ (ydd s q) n = 0 := yfN hL.sl hn1 (by omega) (fun j hj => by have := hL.bs j hj; omega)
  rcases h with h | h | h
  · exact absurd rfl h.1
  · rcases h.2.1 with h | h
    · exact absurd k1 h
    · exact absurd k2 h
  · obtain ⟨-, -, -, rfl, hr⟩ := h
    exact ⟨A1, l1, c1, A2, l2, c2, rfl, K, hr, hL⟩
end
theorem reduce_any (A D : Option Addr) (es : List E3) (d : List Int) (cap cd : Nat) (n q : Int) (w : World) (he : ycx w A es) (hd : Ints w D d) (hdl : d.length ≤ 1000000000) (hsm : Small n es d) :
    Calls Tryz.prog 42 #[.agg #[.int .i64 n, .slice A es.length cap], .int .i64 q, .slice D d.length cd] w fun e w' => ∃ A1 l1 c1 A2 l2 c2 er, e = .returned (.tuple #[.slice A1 l1 c1, .slice A2 l2 c2, .int .i64 er]) ∧
      ygX (fun n q d' s' => Reduces n es q d d' s') n es q d w A1 l1 c1 A2 l2 c2 er w' := by
  refine ydR n A es.length cap q D d.length cd w (ygX (fun n q d' s' => Reduces n es q d d' s') n es q d w) ?_
  unfold ycj
  intro g2 w2 hN
  have pN : Pure w w2 := hN.keeps _
  refine (ygJ A D es d cap cd n q w2 (he.keep pN) (by have := hsm.el; omega) (hd.keep pN) hdl).mono ?_
  rintro _ w3 ⟨rfl, p3⟩
  have p03 := pN.trans p3
  refine ⟨_, rfl, p3.kp (by simp), fun h0 => ?_, fun h0 => ⟨p03, rfl, fun _ => ⟨rfl, rfl, rfl, rfl, rfl, rfl⟩, fun h => absurd h h0⟩⟩
  obtain ⟨k1, k2, k3, k4, k5⟩ := yb7 h0
  have hs6 := hsm.g k1
  obtain ⟨n, rfl⟩ : ∃ n' : Nat, n = (n' : Int) := ⟨n.toNat, by omega⟩
  obtain ⟨q, rfl⟩ : ∃ q' : Nat, q = (q' : Int) := ⟨q.toNat, by omega⟩
  obtain ⟨hE, hn1, hn12⟩ := yc9 k1
  obtain ⟨hdn, -, -, -⟩ := yev k5
  have hC : Conn n es q := (yko hE hn1 hn12 (by omega)).1 k2
  have hd0 : ∀ v, v < n → -200 ≤ gi d v ∧ gi d v ≤ 200 := fun v hv => hsm.d k5 v (by omega)
  have hes3 := he.keep p03
  refine (ygI A D es d cap cd n q w3 (hd.keep p03) hdn hn1 hn12).mono ?_
  rintro _ w4 ⟨X, gd, gs, cd', rfl, hX, hgd, hgs, hS, p4, hcm⟩
  have sz := hN.size
  have ag := hN.at_
  have s3 := p3.size
  refine ⟨_, rfl, p4.kp (by simp), ?_⟩
  have heg : ∀ b off, A = some ⟨b, off, none⟩ → 0 < es.length → b ≠ gd ∧ b ≠ gs ∧ b ≠ X := fun b off hA h0 => by
    obtain ⟨b', off', hA', hb, -⟩ := hes3 h0
    rw [hA] at hA'; cases hA'; omega
  have hes4 := hes3.keep p4
  have ks : ∀ {S : Nat → Prop} {a b : World}, Keeps S a b → (∀ k, S k → w3.heap.size ≤ k) → Kp a b g2 := fun K hS => K.kp (fun h => by have := hS _ h; omega)
  have hfr : ∀ k, (k = gd ∨ k = gs ∨ k = X) → w3.heap.size ≤ k := fun k hk => by rcases hk with rfl | rfl | rfl <;> omega
  refine (lend_state hE (by omega) hn1 (by omega) hC hs6.2 hsm.el hd0 hdn X gd gs A cap cd' n w4 hS hes4 heg).mono ?_
  rintro _ w5 ⟨rfl, m, d5, s5, hG5, -, hS5, K5⟩
  refine ⟨rfl, ks K5 hfr, ?_⟩
  have hes5 := hes4.keepL K5 (fun b off h h0 => by have := heg b off h h0; omega)
  refine (settle_state hE (by omega) hn1 (by omega) hC hs6.2 hsm.el hd0 hdn X gd gs A cap cd' n m d5 s5 w5 hG5 hS5 hes5 heg).mono ?_
  rintro _ w6 ⟨rfl, m6, d6, s6, hG6, hR6, hS6, K6⟩
  refine ⟨rfl, ks K6 hfr, ?_⟩
  refine (result_state hE (by omega) hn1 (by omega) hC hs6.2 hsm.el hd0 hdn X gd gs A cap cd' n m6 d6 s6 w6 hG6 hS6).mono ?_
  rintro _ w7 ⟨A1, l1, c1, A2, l2, c2, rfl, K7, hr, hL⟩
  refine ⟨_, _, _, _, _, _, _, rfl, ks K7 (fun k hk => by rw [hk]; omega), ?_⟩
  have pf : ∀ {S : Nat → Prop} {a b c : World}, Pure a b → Keeps S b c → (∀ k, S k → a.heap.size ≤ k) → Pure a c := fun p K h => (p.mono (fun _ _ => False.elim)).then K (fun k hk hs => by have := h k hs; omega)
  have sw := p03.size
  have hfr0 : ∀ k, (k = gd ∨ k = gs ∨ k = X) → w.heap.size ≤ k := fun k hk => by have := hfr k hk; omega
  refine ⟨pf (pf (pf (p03.trans p4) K5 hfr0) K6 hfr0) K7 (fun k hk => by rw [hk]; omega), h0.symm, fun h => absurd rfl h, fun _ => ⟨gd, gs, cd', n, d6, ydd s6 q, ⟨?_, hR6⟩, ?_, by omega, by omega, hS.2.2.2.1, hcm, by unfold maxLen; omega⟩⟩
  · simpa using hL
  · simpa using hr
end Go.Proofs.YtncilechkclmbaaGreat

/- The package's own functions: IsReduced, Unburnt. -/
namespace Go.Proofs.YtncilechkclmbaaGreat
open Go Go.RowKit Go.Proofs.Tryz
set_option linter.unusedVariables false
set_option linter.unusedSectionVars false
def OInts (w : World) (B : Nat) (A : Option Addr) (l c : Nat) (xs : List Int) : Prop := OwnS w B 3 1 A l c (xs.map (Value.int .i64))
theorem OInts.nil (w : World) (B : Nat) : OInts w B none 0 0 [] := OwnS.nil w B _ 1
theorem OInts.push {w w1 : World} {B : Nat} {A : Option Addr} {l c : Nat} {xs : List Int} (h : OInts w B A l c xs) {g : Nat} {x : Int} (hN : New w g w1 #[.int .i64 x] 3) (hB : B ≤ w.heap.size) (hl : l + 1 ≤ 1000000000)
    {K : Option Addr → Nat → World → Prop}
    (hK : ∀ A' c' w2, OInts w2 B A' (l + 1) c' (xs ++ [x]) → w1.grownBy w2 (A.map (·.block)) → K A' c' w2) :
    ∃ (B : Nat) (xs nw : List Value) (ad : Addr), OwnS w1 B 3 1 A l c xs ∧ (some (⟨g, 0, none⟩ : Addr)) = some ad ∧ nw.length = 1 * 1 ∧ (∀ j u, nw[j]? = some u → w1.cell? (ad.add j) = some u) ∧ (∀ u ∈ nw, u.oneCell' = true) ∧ l + 1 ≤ maxLen ∧ (l + 1) * 8 ≤ 140737488355328 ∧ B ≤ w1.heap.size ∧
      ∀ A' c' w2, OwnS w2 B 3 1 A' (l + 1) c' (xs ++ nw) → w1.grownBy w2 (A.map (·.block)) → (A'.map (·.block) = A.map (·.block) ∨ A'.map (·.block) = some w1.heap.size) → K A' c' w2 := by
  have s := hN.size
  have at' := hN.at_
  have b : ∀ k, k < w.heap.size → w1.heap[k]? = w.heap[k]? := fun k hk => by rw [hN.to_]; exact Below.heap_alloc _ _ _ hk
  refine ⟨B, xs.map (Value.int .i64), [.int .i64 x], ⟨g, 0, none⟩, OwnS.keep h (fun a ha => b _ (OwnS.lt h ha).2), rfl, rfl, fun j u hj => ?_, by simp [Value.oneCell'], by unfold maxLen; omega, by omega, by omega, fun A' c' w2 h1 h2 _ => hK A' c' w2 ?_ h2⟩
  · cases j with
    | zero => simp only [List.getElem?_cons_zero, Option.some.injEq] at hj; subst hj; exact Row.cell hN.row (i := 0) rfl
    | succ j => simp at hj
  · unfold OInts; rw [List.map_append]; exact h1
theorem red_iff {n : Nat} {es : List E3} {q : Nat} {d : List Int} {burnt : List Bool} (hE : EOk n es) (hq : q < n) (hB : Burns n es q d burnt) (hpos : ∀ v, v < n → v ≠ q → 0 ≤ gi d v) : Red n es q d ↔ (yar burnt).any id = false := by
  constructor
  · intro hR
    cases hany : (yar burnt).any id with
    | false => rfl
    | true =>
      exfalso
      obtain ⟨x, hx, hxt⟩ := List.any_eq_true.1 hany
      obtain ⟨i, hi, hxi⟩ := List.mem_iff_getElem.1 hx
      have hin : i < n := by simpa [yar, hB.len] using hi
      obtain ⟨v, hv, hSv, hlt⟩ := hR.no (gb (yar burnt)) (by rw [yeC hB.len hq, hB.at_q]; rfl) ⟨i, hin, by rw [ybx hi, hxi]; simpa using hxt⟩
      have h1 := hB.closed v hv (by rw [yeC hB.len hv] at hSv; simpa using hSv)
      rw [yc3 hE] at h1
      have h2 : sm n (fun u => if gb (yar burnt) u = true then 0 else W es v u) = sm n (fun u => if gb burnt (u : Int).toNat = true then W es v u else 0) := yau fun u hu => by
        rw [yeC hB.len hu, Int.toNat_natCast]
        by_cases c : gb burnt u = true
        · simp [c]
        · simp [c]
      omega
  · intro hany
    refine ⟨hpos, fun S hS ⟨v, hv, hSv⟩ => ?_⟩
    apply Classical.byContradiction
    intro hno
    have h1 := hB.forced S hS (fun x hx hSx => by
      apply Int.not_lt.1
      intro hlt
      rw [yc3 hE] at hlt
      refine hno ⟨x, hx, hSx, Int.lt_of_lt_of_le hlt (Int.le_of_eq (yau fun u hu => ?_))⟩
      simp only [Int.toNat_natCast]
      by_cases hs : S u = true
      · simp [hs]
      · simp [hs]) v hv hSv
    have h2 : gb (yar burnt) v = true := by rw [yeC hB.len hv, h1]; rfl
    have hvl : v < (yar burnt).length := by simp [yar, hB.len, hv]
    rw [ybx hvl] at h2
    have h3 : (yar burnt).any id = true := List.any_eq_true.2 ⟨_, List.getElem_mem hvl, h2⟩
    rw [hany] at h3; cases h3
end Go.Proofs.YtncilechkclmbaaGreat

/- The chapter's examples come out right. -/
namespace Go.Proofs.YtncilechkclmbaaGreat
open Go Go.RowKit Go.Shelf Go.Proofs.Tryz
set_option linter.unusedVariables false
set_option linter.unusedSectionVars false
set_option linter.unusedSimpArgs false
def es3 : List E3 := [(0, 1, 1), (0, 2, 1), (1, 2, 1)]
theorem W3 : W es3 0 0 = 0 ∧ W es3 0 1 = 1 ∧ W es3 0 2 = 1 ∧ W es3 1 0 = 1 ∧ W es3 1 1 = 0 ∧ W es3 1 2 = 1 ∧ W es3 2 0 = 1 ∧ W es3 2 1 = 1 ∧ W es3 2 2 = 0 := by decide
end Go.Proofs.YtncilechkclmbaaGreat

/- Plain facts on graphs that the references need: checks, weights, connectedness, sets as bits. No program in sight. -/
namespace Go.Proofs.YtncilechkclmbaaGreat
open Go Go.RowKit Go.Shelf Go.Proofs.Tryz
set_option linter.unusedVariables false
set_option linter.unusedSectionVars false
set_option linter.unusedSimpArgs false
def yfq (n a b : Int) (x : E3) : Int := if (0 ≤ x.1 ∧ x.1 < n) ∧ (0 ≤ x.2.1 ∧ x.2.1 < n) ∧ 1 ≤ x.2.2 ∧ x.2.2 ≤ 50 then (if x.1 ≤ x.2.1 ∧ yiU a b x.1 x.2.1 < 0 then 0 else 9) else 2
theorem ydU (n a b : Int) (x : E3) (t : List E3) : gchk n a b (x :: t) = if yfq n a b x = 0 then gchk n x.1 x.2.1 t else yfq n a b x := by
  rw [gchk]
  unfold yfq
  by_cases c : (0 ≤ x.1 ∧ x.1 < n) ∧ (0 ≤ x.2.1 ∧ x.2.1 < n) ∧ 1 ≤ x.2.2 ∧ x.2.2 ≤ 50
  · rw [if_pos c, if_pos c]
    by_cases c2 : x.1 ≤ x.2.1 ∧ yiU a b x.1 x.2.1 < 0
    · rw [if_pos c2, if_pos c2, if_pos rfl]
    · rw [if_neg c2, if_neg c2, if_neg (by omega)]
  · rw [if_neg c, if_neg c, if_neg (by omega)]
theorem yfo (a b c d : Int) : yiU a b c d < 0 ↔ a < c ∨ (a = c ∧ b < d) := by
  unfold yiU orF cmpF
  by_cases h1 : a < c
  · simp [h1]
  · by_cases h2 : c < a
    · simp [h1, h2]; omega
    · have : a = c := by omega
      subst this
      simp
      by_cases h3 : b < d
      · simp [h3]
      · by_cases h4 : d < b <;> simp [h3, h4]
def pre (es : List E3) (k : Nat) : Int × Int := if k = 0 then (-1, -1) else ((ge es (k - 1)).1, (ge es (k - 1)).2.1)
theorem gchk_lt {n : Int} : ∀ (es : List E3) (a b : Int), gchk n a b es = 0 → ∀ x ∈ es, (a < x.1 ∨ (a = x.1 ∧ b < x.2.1)) ∧ x.1 ≤ x.2.1
  | [], _, _, _ => by simp
  | x :: t, a, b, h => by
    rw [ydU] at h
    by_cases h0 : yfq n a b x = 0
    · rw [if_pos h0] at h
      have hx : x.1 ≤ x.2.1 ∧ (a < x.1 ∨ (a = x.1 ∧ b < x.2.1)) := by
        unfold yfq at h0
        split at h0
        · split at h0
          · rename_i c; exact ⟨c.1, (yfo _ _ _ _).1 c.2⟩
          · omega
        · omega
      intro y hy
      rcases List.mem_cons.1 hy with rfl | hy
      · exact ⟨hx.2, hx.1⟩
      · have := gchk_lt t _ _ h y hy
        omega
    · rw [if_neg h0] at h; exact absurd h h0
theorem yiT {n : Int} (u v : Nat) (huv : u ≠ v) : ∀ (es : List E3) (a b : Int), gchk n a b es = 0 → ((es.find? fun x => decide (x.1 = mnF (u : Int) v ∧ x.2.1 = mxF (u : Int) v)).map (·.2.2)).getD 0 = W es u v
  | [], _, _, _ => rfl
  | x :: t, a, b, h => by
    have hlt := gchk_lt (x :: t) a b h
    rw [ydU] at h
    by_cases h0 : yfq n a b x = 0
    · rw [if_pos h0] at h
      have ih := yiT u v huv t _ _ h
      have ht := gchk_lt t _ _ h
      have hx := (hlt x (by simp)).2
      have hmn : mnF (u : Int) v = if (u : Int) < v then (u : Int) else v := by unfold mnF; split <;> (try split) <;> omega
      have hmx : mxF (u : Int) v = if (u : Int) < v then (v : Int) else u := by unfold mxF; split <;> (try split) <;> omega
      rw [List.find?_cons, yfb]
      by_cases c : x.1 = mnF (u : Int) v ∧ x.2.1 = mxF (u : Int) v
      · have hnone : t.find? (fun x => decide (x.1 = mnF (u : Int) v ∧ x.2.1 = mxF (u : Int) v)) = none := by
          rw [List.find?_eq_none]
          intro y hy
          have := ht y hy
          simp only [decide_eq_true_eq]
          omega
        rw [hnone] at ih
        have hw : w1 x u v = x.2.2 := by
          unfold w1
          rw [if_pos]
          rw [hmn, hmx] at c
          by_cases q : (u : Int) < v
          · rw [if_pos q, if_pos q] at c; omega
          · rw [if_neg q, if_neg q] at c; omega
        rw [decide_eq_true c, hw, ← ih]
        simp
      · have hw : w1 x u v = 0 := by
          unfold w1
          rw [if_neg]
          intro q
          apply c
          rw [hmn, hmx]
          by_cases q2 : (u : Int) < v
          · rw [if_pos q2, if_pos q2]; omega
          · rw [if_neg q2, if_neg q2]; omega
        rw [decide_eq_false c, hw, ← ih]
        simp
    · rw [if_neg h0] at h; exact absurd h h0
theorem ygD {n : Int} {es : List E3} (h : yat n es = 0) : gchk n (-1) (-1) es = 0 := by
  unfold yat at h
  split at h
  · exact h
  · omega
def ynl (n : Int) (es : List E3) (a b : Int) : Bool := decide (es.length ≤ 40 ∧ (yat n es = 0 → n ≤ a ∧ (es.map (·.2.2)).sum ≤ b))
theorem gb_rep (n v : Nat) : gb (List.replicate n false) v = false := by
  rcases Nat.lt_or_ge v n with h | h
  · rw [ybx (by simpa using h)]; simp
  · exact gb_ge (by simpa using h)
theorem set_same {l : List Bool} {v : Nat} (h : gb l v = true) : l.set v true = l := by
  rcases Nat.lt_or_ge v l.length with hv | hv
  · rw [ybx hv] at h
    rw [← h]; exact List.set_getElem_self hv
  · rw [gb_ge hv] at h; cases h
def Cl (n : Nat) (es : List E3) (o : List Bool) : Prop := ∀ a b, a < n → b < n → gb o a = true → 0 < W es a b → gb o b = true
theorem root_W {n : Nat} {es : List E3} (hE : EOk n es) (hn : 1 ≤ n) (h12 : n ≤ 12) {a b : Nat} (h : 0 < W es a b) : root (yay es) a = root (yay es) b := by
  obtain ⟨m, hm⟩ := (W_adj hE).1 h
  obtain ⟨x, hx, q1, q2, q3, q4⟩ := ybv.1 hm
  have h1 := root_edge es (hE.ends hn h12) x hx
  have hbx := hE x hx
  rcases q2 with q2 | q2
  · rwa [show x.1.toNat = a by omega, show x.2.1.toNat = b by omega] at h1
  · rw [show x.1.toNat = b by omega, show x.2.1.toNat = a by omega] at h1; exact h1.symm
theorem conn_root {n : Nat} {es : List E3} (hE : EOk n es) (hn : 1 ≤ n) (h12 : n ≤ 12) : yde n es = true ↔ ∀ v, v < n → root (yay es) v = root (yay es) 0 := by
  have hF := yb0 es (hE.ends hn h12)
  unfold yde
  rw [beq_iff_eq, Int.toNat_natCast]
  exact nroots_one hF hn h12
theorem cl_root {n : Nat} {es : List E3} (hE : EOk n es) (hn : 1 ≤ n) (h12 : n ≤ 12) {o : List Bool} (hC : Cl n es o) {v : Nat} (hv : v < n) (hvo : gb o v = true) (hs : ∀ u, u < n → gb o u = true → root (yay es) u = root (yay es) v) :
    ∀ u, u < n → gb o u = decide (root (yay es) u = root (yay es) v) := by
  have hcl : ∀ x ∈ es, gb o x.1.toNat = gb o x.2.1.toNat := fun x hx => by
    have hb := hE x hx
    by_cases e : x.1 = x.2.1
    · rw [e]
    · have hw := W_edge hE hn h12 hx e
      cases h1 : gb o x.1.toNat <;> cases h2 : gb o x.2.1.toNat
      · rfl
      · rw [hC _ _ (by omega) (by omega) h2 (by rw [yfK]; exact hw)] at h1; cases h1
      · rw [hC _ _ (by omega) (by omega) h1 hw] at h2; cases h2
      · rfl
  have hside := root_side (n := n) (S := gb o) es (hE.ends hn h12) hcl
  intro u hu
  cases h : gb o u with
  | true => exact (decide_eq_true (hs u hu h)).symm
  | false =>
    symm
    rw [decide_eq_false_iff_not]
    intro e
    have h1 := hside u (by omega)
    have h2 := hside v (by omega)
    rw [e, h2, hvo] at h1
    rw [h] at h1; cases h1
def yb2 (n : Int) (es : List E3) : Int := if yat n es = 0 then (if yde n es = true then 0 else 13) else yat n es
def outS (n : Nat) (es : List E3) (S : Nat → Bool) (v : Nat) : Int := sm n (fun u => if S u = true then 0 else W es v u)
def mayF (n : Nat) (es : List E3) (d : List Int) (S : Nat → Bool) : Prop := ∀ v, v < n → S v = true → outS n es S v ≤ gi d v
def yes (S : Nat → Bool) : Nat → Nat
  | 0 => 0
  | k + 1 => yes S k ||| (if S k = true then 2 ^ k else 0)
theorem yfy (S : Nat → Bool) : ∀ k i, (yes S k).testBit i = (decide (i < k) && S i)
  | 0, i => by simp [yes]
  | k + 1, i => by
    rw [yes, Nat.testBit_or, yfy S k i]
    by_cases hS : S k = true
    · rw [if_pos hS, Nat.testBit_two_pow]
      by_cases e : k = i
      · subst e; simp [hS]
      · have : (i < k + 1) ↔ i < k := by omega
        simp [e, this]
    · rw [if_neg hS]
      by_cases e : k = i
      · subst e; simp [hS]
      · have : (i < k + 1) ↔ i < k := by omega
        simp [this]
theorem mask_lt (S : Nat → Bool) : ∀ k, yes S k < 2 ^ k
  | 0 => by simp [yes]
  | k + 1 => by
    rw [yes]
    have h1 := mask_lt S k
    have h2 : 2 ^ k < 2 ^ (k + 1) := Nat.pow_lt_pow_right (by omega) (by omega)
    refine Nat.or_lt_two_pow (by omega) ?_
    split
    · exact h2
    · exact Nat.lt_trans (Nat.two_pow_pos k) h2
theorem outS_congr {n : Nat} {es : List E3} {S T : Nat → Bool} (h : ∀ v, v < n → S v = T v) (v : Nat) : outS n es S v = outS n es T v := yau fun u hu => by rw [h u hu]
theorem mask_may {n : Nat} {es : List E3} {d : List Int} (S : Nat → Bool) : mayF n es d (yes S n).testBit ↔ mayF n es d S := by
  have h : ∀ v, v < n → (yes S n).testBit v = S v := fun v hv => by rw [yfy]; simp [hv]
  unfold mayF
  constructor
  · intro h1 v hv hS; rw [← outS_congr h]; exact h1 v hv (by rw [h v hv]; exact hS)
  · intro h1 v hv hS; rw [outS_congr h]; exact h1 v hv (by rw [← h v hv]; exact hS)
theorem tight_red {n : Nat} {es : List E3} {q : Nat} {d : List Int} (hq : q < n) (hpos : ∀ v, v < n → v ≠ q → 0 ≤ gi d v) : (∀ m, 1 ≤ m → m < 2 ^ n → m.testBit q = false → ¬ mayF n es d m.testBit) ↔ Red n es q d := by
  constructor
  · intro h
    refine ⟨hpos, fun S hS ⟨v, hv, hSv⟩ => ?_⟩
    apply Classical.byContradiction
    intro hno
    refine h (yes S n) ?_ (mask_lt S n) (by rw [yfy, hS]; simp) ((mask_may S).2 fun x hx hSx => ?_)
    · apply Nat.one_le_iff_ne_zero.2
      intro e
      have := yfy S n v
      rw [e, hSv] at this
      simp [hv] at this
    · apply Int.not_lt.1
      intro hlt
      exact hno ⟨x, hx, hSx, hlt⟩
  · intro hR m h1 h2 h3 hmay
    obtain ⟨i, hi⟩ := Nat.exists_testBit_of_ne_zero (show m ≠ 0 by omega)
    have hin : i < n := by
      apply Nat.lt_of_not_le
      intro hle
      have := Nat.testBit_lt_two_pow (Nat.lt_of_lt_of_le h2 (Nat.pow_le_pow_right (by omega) hle))
      rw [this] at hi; cases hi
    obtain ⟨v, hv, hSv, hlt⟩ := hR.no m.testBit h3 ⟨i, hin, hi⟩
    have := hmay v hv hSv
    unfold outS at this
    omega
end Go.Proofs.YtncilechkclmbaaGreat

/- Reduce of a divisor that is reduced already: it is the form, and the script is 0. -/
namespace Go.Proofs.YtncilechkclmbaaGreat
open Go Go.Proofs.Tryz
set_option linter.unusedVariables false
set_option linter.unusedSectionVars false
theorem reduce_red_any (A D : Option Addr) (es : List E3) (d : List Int) (cap cd : Nat) (n q : Int) (w : World) (he : ycx w A es) (hd : Ints w D d) (hdl : d.length ≤ 1000000000) (hel : es.length ≤ 40) (hred : yaD n es q d = 0 → Red n.toNat es q.toNat d ∧ ∀ v : Nat, (v : Int) < n → -600000 ≤ gi d v ∧ gi d v ≤ 600000) :
    Calls Tryz.prog 42 #[.agg #[.int .i64 n, .slice A es.length cap], .int .i64 q, .slice D d.length cd] w fun e w' => ∃ A1 l1 c1 A2 l2 c2 er, e = .returned (.tuple #[.slice A1 l1 c1, .slice A2 l2 c2, .int .i64 er]) ∧
      ygX (fun n q d' s' => Reduces n es q d d' s') n es q d w A1 l1 c1 A2 l2 c2 er w' := by
  refine ydR n A es.length cap q D d.length cd w (ygX (fun n q d' s' => Reduces n es q d d' s') n es q d w) ?_
  unfold ycj
  intro g2 w2 hN
  have pN : Pure w w2 := hN.keeps _
  refine (ygJ A D es d cap cd n q w2 (he.keep pN) (by omega) (hd.keep pN) hdl).mono ?_
  rintro _ w3 ⟨rfl, p3⟩
  have p03 := pN.trans p3
  refine ⟨_, rfl, p3.kp (by simp), fun h0 => ?_, fun h0 => ⟨p03, rfl, fun _ => ⟨rfl, rfl, rfl, rfl, rfl, rfl⟩, fun h => absurd h h0⟩⟩
  obtain ⟨k1, k2, k3, k4, k5⟩ := yb7 h0
  have hrr := hred h0
  obtain ⟨n, rfl⟩ : ∃ n' : Nat, n = (n' : Int) := ⟨n.toNat, by omega⟩
  obtain ⟨q, rfl⟩ : ∃ q' : Nat, q = (q' : Int) := ⟨q.toNat, by omega⟩
  obtain ⟨hE, hn1, hn12⟩ := yc9 k1
  obtain ⟨hdn, -, -, -⟩ := yev k5
  have hC : Conn n es q := (yko hE hn1 hn12 (by omega)).1 k2
  simp only [Int.toNat_natCast] at hrr
  obtain ⟨hRd, hbd⟩ := hrr
  have hes3 := he.keep p03
  refine (ygI A D es d cap cd n q w3 (hd.keep p03) hdn hn1 hn12).mono ?_
  rintro _ w4 ⟨X, gd, gs, cd', rfl, hX, hgd, hgs, hS, p4, hcm⟩
  have sz := hN.size
  have ag := hN.at_
  have s3 := p3.size
  refine ⟨_, rfl, p4.kp (by simp), ?_⟩
  have heg : ∀ b off, A = some ⟨b, off, none⟩ → 0 < es.length → b ≠ gd ∧ b ≠ gs ∧ b ≠ X := fun b off hA h0 => by
    obtain ⟨b', off', hA', hb, -⟩ := hes3 h0
    rw [hA] at hA'; cases hA'; omega
  have hes4 := hes3.keep p4
  have ks : ∀ {S : Nat → Prop} {a b : World}, Keeps S a b → (∀ k, S k → w3.heap.size ≤ k) → Kp a b g2 := fun K hS => K.kp (fun h => by have := hS _ h; omega)
  have hfr : ∀ k, (k = gd ∨ k = gs ∨ k = X) → w3.heap.size ≤ k := fun k hk => by rcases hk with rfl | rfl | rfl <;> omega
  have hz : ∀ i, gi (List.replicate n (0 : Int)) i = 0 := fun i => by
    rcases Nat.lt_or_ge i n with h | h
    · rw [yaY (by simpa using h)]; simp
    · exact gi_ge (by simpa using h)
  have hB1 : Bnd 600000 d := fun i => by
    by_cases hi : i < n
    · exact hbd i (by omega)
    · rw [gi_ge (by omega)]; omega
  refine (lend_any (fun o k d' s' e => d' = d ∧ s' = List.replicate n 0 ∧ e = 0) X gd gs n A es cap cd' n q d (List.replicate n 0) 0 w4 hS hes4 heg (by omega) (by omega) hE.range (fun x hx => (hE x hx).2.2.2.2.1) (by omega) (fun o hD => ⟨rfl, rfl, rfl⟩)
    (fun o k d' s' e ⟨h1, h2, h3⟩ => ⟨fun i => by have := hB1 i; rw [h1]; omega, fun i => by rw [h2, hz]; omega⟩) (fun o k d' s' hD ⟨h1, h2, h3⟩ hl hl2 => ?_)).mono ?_
  · have hzero : ybe es o ((k : Int) + 1) d' n = 0 := yfp n fun v hv hk => by
      rw [h1]
      by_cases e : v = q
      · rw [e, hD.q0] at hk; omega
      · exact hRd.pos v hv e
    rw [hzero]
    exact ⟨by omega, fun h => absurd h (by omega), fun _ => ⟨h1, h2, rfl⟩⟩
  rintro _ w5 ⟨rfl, o, k, d5, s5, e5, hD, ⟨rfl, rfl, rfl⟩, hS5, hk, K5⟩
  refine ⟨rfl, ks K5 hfr, ?_⟩
  have hes5 := hes4.keepL K5 (fun b off h h0 => by have := heg b off h h0; omega)
  refine (settle_any (fun m d' s' e => d' = d5 ∧ s' = List.replicate n 0 ∧ e = 0) X gd gs n A es cap cd' n q 0 d5 (List.replicate n 0) 0 w5 hS5 hes5 heg (by omega) (by omega) hE.range (by omega) ⟨rfl, rfl, rfl⟩
    (fun m d' s' e ⟨h1, h2, h3⟩ => ⟨fun i => by have := hB1 i; rw [h1]; omega, fun i => by rw [h2, hz]; omega⟩) (fun m d' s' burnt ⟨h1, h2, h3⟩ hl hl2 hB hany => ?_)).mono ?_
  · exfalso
    rw [h1] at hB
    have := (red_iff hE (by omega) hB hRd.pos).1 hRd
    rw [this] at hany; cases hany
  rintro _ w6 ⟨rfl, m6, d6, s6, e6, ⟨rfl, rfl, rfl⟩, hS6, hb6, K6⟩
  refine ⟨rfl, ks K6 hfr, ?_⟩
  have hnz : ∀ v, v < n → gi (ydd (List.replicate n (0 : Int)) q) v = 0 := fun v hv => by rw [ygH (by simpa using hv), hz, hz]; omega
  have hL : Leads n es q d6 d6 (ydd (List.replicate n 0) q) := ⟨hdn, by rw [ygd]; simp, fun v hv => by
    rw [yd5 (b := fun _ => 0) (fun i hi => hnz i hi) hv, yeW]; omega, hnz q (by omega), hRd.pos, fun v hv => hbd v (by omega), fun v hv => by rw [hnz v hv]; omega⟩
  refine (result_any X gd gs n A es cap cd' n q d6 (List.replicate n 0) 0 w6 hS6 (by omega) (by omega) (fun _ i => by rw [hz]; omega)).mono ?_
  rintro _ w7 ⟨A1, l1, c1, A2, l2, c2, er, rfl, K7, h⟩
  have k2' : yaJ (ydd (List.replicate n 0) q) n = 0 := yfN hL.sl hn1 (by omega) (fun j hj => by rw [hnz j hj]; omega)
  rcases h with h | h | h
  · exact absurd rfl h.1
  · rcases h.2.1 with h | h
    · exact absurd k5 h
    · exact absurd k2' h
  obtain ⟨-, -, -, rfl, hr⟩ := h
  refine ⟨_, _, _, _, _, _, _, rfl, ks K7 (fun k hk => by rw [hk]; omega), ?_⟩
  have pf : ∀ {S : Nat → Prop} {a b c : World}, Pure a b → Keeps S b c → (∀ k, S k → a.heap.size ≤ k) → Pure a c := fun p K h => (p.mono (fun _ _ => False.elim)).then K (fun k hk hs => by have := h k hs; omega)
  have sw := p03.size
  have hfr0 : ∀ k, (k = gd ∨ k = gs ∨ k = X) → w.heap.size ≤ k := fun k hk => by have := hfr k hk; omega
  refine ⟨pf (pf (pf (p03.trans p4) K5 hfr0) K6 hfr0) K7 (fun k hk => by rw [hk]; omega), h0.symm, fun h => absurd rfl h, fun _ => ⟨gd, gs, cd', n, d6, ydd (List.replicate n 0) q, ⟨?_, ?_⟩, ?_, by omega, by omega, hS.2.2.2.1, hcm, by unfold maxLen; omega⟩⟩
  · simpa using hL
  · simpa using hRd
  · simpa using hr
end Go.Proofs.YtncilechkclmbaaGreat

/- Pure forms of functions whose walks were proved by hand: reduced's, connect.Connected, the law's awake. -/
namespace Go.Proofs.YtncilechkclmbaaGreat
open Go Go.RowKit Go.Shelf Go.Proofs.Tryz
set_option linter.unusedVariables false
set_option linter.unusedSectionVars false
theorem sl_ints {A : Option Addr} {l cap : Nat} {xs : List Int} {O : Nat → Prop} {w : World} (h : (FP.sl cI A l cap xs).P O w) : l = xs.length ∧ Ints w A xs := by
  obtain ⟨h1, h2, h3⟩ := h
  refine ⟨h1, fun h0 => ?_⟩
  obtain ⟨b, off, e, hb, ho, hc⟩ := h3 h0
  refine ⟨b, off, e, hb, fun k hk => ?_⟩
  obtain ⟨vs, hv, hu⟩ := hc k _ (ybs hk)
  have hv : vs = [.int .i64 (gi xs k)] := hv
  subst hv
  have := hu 0 _ rfl
  simpa [cI, Fl.cod, fI] using this
theorem sl_edges {A : Option Addr} {l cap : Nat} {es : List E3} {O : Nat → Prop} {w : World} (h : (FP.sl c3 A l cap es).P O w) : l = es.length ∧ ycx w A es := by
  obtain ⟨h1, h2, h3⟩ := h
  refine ⟨h1, fun h0 => ?_⟩
  obtain ⟨b, off, e, hb, ho, hc⟩ := h3 h0
  refine ⟨b, off, e, hb, fun k hk => ?_⟩
  obtain ⟨vs, hv, hu⟩ := hc k _ (yd6 hk)
  have hv : vs = [.int .i64 (ge es k).1, .int .i64 (ge es k).2.1, .int .i64 (ge es k).2.2] := hv
  subst hv
  exact ⟨hu 0 _ rfl, hu 1 _ rfl, hu 2 _ rfl⟩
theorem sep_pure {w w' : World} {O : Nat → Prop} (hO : ∀ k, O k → k < w.heap.size) (h : Pure w w') : Sep w no O w' (rl []) := (Sep.start w hO).pur h
theorem ownC_ints {B : Nat} {O : Nat → Prop} {w : World} {e : TypeId} {A : Option Addr} {l cap : Nat} {xs : List Int} (h : OwnS w B e 1 A l cap (xs.map (Value.int .i64))) : OwnC cI 0 O w e A l cap xs := by
  have hl := h.1
  simp at hl
  refine ⟨hl.symm, _, h.base (Nat.zero_le _), fun k x hx => ⟨_, rfl, fun j u hj => ?_⟩⟩
  have hj0 : j = 0 := by
    have := (List.getElem?_eq_some_iff.1 hj).1
    simp [fI] at this; exact this
  subst hj0
  have hu : u = .int .i64 x := by
    have : (some (Value.int .i64 x)) = some u := hj
    simpa using this.symm
  rw [hu]
  show (xs.map (Value.int .i64))[k * 1 + 0]? = _
  rw [Nat.mul_one, Nat.add_zero, List.getElem?_map, hx]; rfl
theorem row_ownS {w : World} {g : Nat} {e : TypeId} {cap : Nat} {xs : List Int} (h : IRow w g e cap xs) (hc : cap ≤ maxLen) {B : Nat} (hB : B ≤ g) : OwnS w B e 1 (some ⟨g, 0, none⟩) xs.length cap (xs.map (Value.int .i64)) := by
  have hle := IRow.le h
  obtain ⟨cur, h1, h2, h3⟩ := h
  refine ⟨by simp, .inr ⟨g, 0, cur, rfl, hB, h1, hle, hc, by omega, ?_⟩⟩
  rw [List.drop_zero, Nat.mul_one]
  simpa using h3
theorem sep_two {w w' : World} {O : Nat → Prop} (hO : ∀ k, O k → k < w.heap.size) (p : Pure w w') {e : TypeId} {A1 A2 : Option Addr} {l1 c1 l2 c2 : Nat} {xs ys : List Int} (o1 : OwnS w' w.heap.size e 1 A1 l1 c1 (xs.map (Value.int .i64))) (o2 : OwnS w' w.heap.size e 1 A2 l2 c2 (ys.map (Value.int .i64)))
    (hne : ∀ k, A1.map (·.block) = some k → A2.map (·.block) = some k → False) : Sep w no O w' (rl [.own cI e A1 l1 c1 xs, .own cI e A2 l2 c2 ys]) := by
  have hb : ∀ i k, (rl [.own cI e A1 l1 c1 xs, .own cI e A2 l2 c2 ys] i).blk = some k → (i = 0 ∧ A1.map (·.block) = some k) ∨ (i = 1 ∧ A2.map (·.block) = some k) := fun i k hk => by
    match i with
    | 0 => exact .inl ⟨rfl, hk⟩
    | 1 => exact .inr ⟨rfl, hk⟩
    | i + 2 => cases hk
  refine ⟨p, fun k hk => ⟨hO k hk, id⟩, fun i => ?_, fun i k hk => ?_, fun i j k hi hj => ?_⟩
  · match i with
    | 0 => exact ownC_ints o1
    | 1 => exact ownC_ints o2
    | i + 2 => trivial
  · rcases hb i k hk with ⟨_, q⟩ | ⟨_, q⟩
    · exact .inl (o1.at_ q).1
    · exact .inl (o2.at_ q).1
  · rcases hb i k hi with ⟨e1, q1⟩ | ⟨e1, q1⟩ <;> rcases hb j k hj with ⟨e2, q2⟩ | ⟨e2, q2⟩
    · omega
    · exact (hne k q1 q2).elim
    · exact (hne k q2 q1).elim
    · omega
section
variable {O : Nat → Prop} {w : World} {n : Int} {es : List E3} {q : Int} {d : List Int} {A : Option Addr} {l c : Nat} {D : Option Addr} {ld cd : Nat}
def yco (n : Int) (es : List E3) (R : Bool → Int → Prop) : Prop := es.length ≤ 1000000000 ∧ R (decide (yat n es = 0 ∧ yde n es = true)) (yat n es)
theorem yc5 {R : Bool → Int → Prop} (h : yco n es R) (hO : ∀ k, O k → k < w.heap.size) (a0 : (FP.sl c3 A l c es).P O w) :
    Calls Tryz.prog 147 #[.agg #[.int .i64 n, .slice A l c]] w fun e w' => ∃ r : Bool, ∃ r2 : Int, e = .returned (.tuple #[.bool r, .int .i64 r2]) ∧ Sep w no O w' (rl []) ∧ R r r2 := by
  obtain ⟨h1, h3⟩ := h
  obtain ⟨rfl, he⟩ := sl_edges a0
  refine (ycJ A es c n w he h1).mono ?_
  rintro _ w' ⟨rfl, p⟩
  exact ⟨_, _, rfl, sep_pure hO p, h3⟩
def outPf0 (P : Nat → Nat → List Int → List Int → Prop) (n : Int) (es : List E3) (q : Int) (d : List Int) (R : List Int → List Int → Int → Prop) : Prop :=
  d.length ≤ 1000000000 ∧ (yaD n es q d ≠ 0 → R [] [] (yaD n es q d)) ∧ (yaD n es q d = 0 → ∀ d' s', P n.toNat q.toNat d' s' → d'.length = n.toNat → s'.length = n.toNat → R d' s' 0)
def RedIn (n : Int) (es : List E3) (q : Int) (d : List Int) : Prop := es.length ≤ 40 ∧ (yaD n es q d = 0 → Red n.toNat es q.toNat d ∧ ∀ v : Nat, (v : Int) < n → -600000 ≤ gi d v ∧ gi d v ≤ 600000)
theorem outPf_ok {P : Nat → Nat → List Int → List Int → Prop} {R : List Int → List Int → Int → Prop} (h : outPf0 P n es q d R) (hO : ∀ k, O k → k < w.heap.size) {w' : World} {A1 : Option Addr} {l1 c1 : Nat} {A2 : Option Addr} {l2 c2 : Nat} {er : Int} (ho : ygX P n es q d w A1 l1 c1 A2 l2 c2 er w') (hlen : ∀ d' s', P n.toNat q.toNat d' s' → d'.length = n.toNat ∧ s'.length = n.toNat) :
    ∃ r r2 : List Int, ∃ r3 : Int, ∃ Ar : Option Addr, ∃ lr cr : Nat, ∃ As : Option Addr, ∃ ls cs : Nat, Ending.returned (.tuple #[.slice A1 l1 c1, .slice A2 l2 c2, .int .i64 er]) = .returned (.tuple #[.slice Ar lr cr, .slice As ls cs, .int .i64 r3]) ∧ Sep w no O w' (rl [.own cI 3 Ar lr cr r, .own cI 3 As ls cs r2]) ∧ R r r2 r3 := by
  obtain ⟨-, h3, h4⟩ := h
  obtain ⟨p, rfl, k1, k2⟩ := ho
  by_cases h0 : yaD n es q d = 0
  · obtain ⟨gd, gs, cd', cs', d', s', hP, hr, b1, b2, b3, m1, m2⟩ := k2 h0
    obtain ⟨q1, q2⟩ := hlen d' s' hP
    obtain ⟨rfl, rfl, rfl, rfl, rfl, rfl, r1, r2⟩ := hr
    have o1 := row_ownS r1 m1 b1
    have o2 := row_ownS r2 m2 b2
    rw [q1] at o1
    rw [q2] at o2
    exact ⟨d', s', _, _, _, _, _, _, _, rfl, sep_two hO p o1 o2 (fun k h1 h2 => by simp at h1 h2; omega), by rw [h0]; exact h4 h0 d' s' hP q1 q2⟩
  · obtain ⟨rfl, rfl, rfl, rfl, rfl, rfl⟩ := k1 h0
    exact ⟨[], [], _, none, 0, 0, none, 0, 0, rfl, ((((Sep.start w hO).pur p).nil 0 rfl cI 3).nil 1 rfl cI 3).sel [0, 1] (by decide), h3 h0⟩
def ycV (n : Int) (es : List E3) (q : Int) (d : List Int) (R : List Int → List Int → Int → Prop) : Prop := (Small n es d ∨ RedIn n es q d) ∧ outPf0 (fun n q d' s' => Reduces n es q d d' s') n es q d R
theorem ydC {R : List Int → List Int → Int → Prop} (h : ycV n es q d R) (hO : ∀ k, O k → k < w.heap.size) (a0 : (FP.sl c3 A l c es).P O w) (a1 : (FP.sl cI D ld cd d).P O w) :
    Calls Tryz.prog 42 #[.agg #[.int .i64 n, .slice A l c], .int .i64 q, .slice D ld cd] w fun e w' => ∃ r r2 : List Int, ∃ r3 : Int, ∃ Ar : Option Addr, ∃ lr cr : Nat, ∃ As : Option Addr, ∃ ls cs : Nat, e = .returned (.tuple #[.slice Ar lr cr, .slice As ls cs, .int .i64 r3]) ∧ Sep w no O w' (rl [.own cI 3 Ar lr cr r, .own cI 3 As ls cs r2]) ∧ R r r2 r3 := by
  obtain ⟨rfl, he⟩ := sl_edges a0
  obtain ⟨rfl, hd⟩ := sl_ints a1
  rcases h.1 with h1 | h1
  · refine (reduce_any A D es d c cd n q w he hd h.2.1 h1).mono ?_
    rintro _ w' ⟨A1, l1, c1, A2, l2, c2, er, rfl, ho⟩
    exact outPf_ok h.2 hO ho fun d' s' hP => ⟨hP.dl, hP.sl⟩
  · refine (reduce_red_any A D es d c cd n q w he hd h.2.1 h1.1 h1.2).mono ?_
    rintro _ w' ⟨A1, l1, c1, A2, l2, c2, er, rfl, ho⟩
    exact outPf_ok h.2 hO ho fun d' s' hP => ⟨hP.dl, hP.sl⟩
end
end Go.Proofs.YtncilechkclmbaaGreat

/- What the arguments of the laws read as: numbers, lists, graphs; and what is handed back. -/
namespace Go.Proofs.YtncilechkclmbaaGreat
open Go Go.ChangeShapes Go.WideShapes Go.ChangeAt Go.RowKit Go.Joins Go.Deep Go.Proofs.Tryz
theorem own : ownKnob Tryz.prog.godebug = none := by kernel_rfl
theorem laidOut : laidOutB Tryz.prog = true := by kernel_rfl
theorem ygN : Tryz.prog.cellsOf 3 = 1 := by kernel_rfl
theorem cells_graph : Tryz.prog.cellsOf 24 = 2 := by kernel_rfl
theorem cells_edge : Tryz.prog.cellsOf 95 = 3 := by kernel_rfl
theorem cells3 {w : World} {base : Nat} {a : Addr} {cs : List Value} (h : w.cells? base a 3 = some cs) : ∃ x y z, cs = [x, y, z] ∧ w.cell? a = some x ∧ w.cell? (a.add 1) = some y ∧ w.cell? (a.add 2) = some z := by
  unfold World.cells? at h
  split at h
  · have e : List.range 3 = [0, 1, 2] := rfl
    rw [e] at h
    cases h0 : w.cell? (a.add 0) with
    | none => simp [h0] at h
    | some x =>
      cases h1 : w.cell? (a.add 1) with
      | none => simp [h0, h1] at h
      | some y =>
        cases h2 : w.cell? (a.add 2) with
        | none => simp [h0, h1, h2] at h
        | some z =>
          simp [h0, h1, h2] at h
          exact ⟨x, y, z, h.symm, h0, rfl, rfl⟩
  · cases h
theorem ints_sl {W : World} {A : Option Addr} {xs : List Int} {c : Nat} (hc : xs.length ≤ c) (h : Ints W A xs) : (FP.sl cI A xs.length c xs).P no W := by
  refine ⟨rfl, hc, fun h0 => ?_⟩
  obtain ⟨b, off, e, hb, hcell⟩ := h h0
  refine ⟨b, off, e, hb, id, fun k x hx => ⟨_, rfl, fun j u hj => ?_⟩⟩
  have hk : k < xs.length := (List.getElem?_eq_some_iff.1 hx).1
  have hj0 : j = 0 := by
    have := (List.getElem?_eq_some_iff.1 hj).1
    simp [fI] at this; exact this
  subst hj0
  have hu : u = .int .i64 x := by
    have : (some (Value.int .i64 x)) = some u := hj
    simpa using this.symm
  rw [ybs hk] at hx
  cases hx
  rw [hu]
  have := hcell k hk
  simpa [cI, Fl.cod, fI] using this
theorem edges_sl {W : World} {A : Option Addr} {xs : List E3} {c : Nat} (hc : xs.length ≤ c) (h : ycx W A xs) : (FP.sl c3 A xs.length c xs).P no W := by
  refine ⟨rfl, hc, fun h0 => ?_⟩
  obtain ⟨b, off, e, hb, hcell⟩ := h h0
  refine ⟨b, off, e, hb, id, fun k x hx => ⟨_, rfl, fun j u hj => ?_⟩⟩
  have hk : k < xs.length := (List.getElem?_eq_some_iff.1 hx).1
  rw [yd6 hk] at hx
  cases hx
  obtain ⟨q0, q1, q2⟩ := hcell k hk
  match j, hj with
  | 0, hj =>
    have : (some (Value.int .i64 (ge xs k).1)) = some u := hj
    cases this; exact q0
  | 1, hj =>
    have : (some (Value.int .i64 (ge xs k).2.1)) = some u := hj
    cases this; exact q1
  | 2, hj =>
    have : (some (Value.int .i64 (ge xs k).2.2)) = some u := hj
    cases this; exact q2
  | j + 3, hj => cases hj
set_option maxRecDepth 100000
variable {H : Type} {enc : TypeId × Value → H} {W : World} {r : Reach} {b0 : Nat}
theorem open_list {t : TypeId} (ht : Tryz.prog.underlying t = some (.slice 3)) {v : Value} {d : DataW H} {p : List MemPlace} (hv : Value.okWide Tryz.prog W r b0 t v) (h : DataW.Trod enc Tryz.prog W 0 (fun _ => true) true t v d p) :
    ∃ (A : Option Addr) (l : List Int) (c : Nat), v = .slice A l.length c ∧ (FP.sl cI A l.length c l).P no W := by
  suffices h : ∃ (A : Option Addr) (l : List Int) (c : Nat), v = .slice A l.length c ∧ l.length ≤ c ∧ Ints W A l by
    obtain ⟨A, l, c, e, hlc, hi⟩ := h
    exact ⟨A, l, c, e, ints_sl hlc hi⟩
  obtain ⟨a0, len, cap, rfl⟩ := okWide_slice ht hv
  obtain ⟨fuel, hf⟩ := h
  rcases open_ints ht underlying3 ygN hf with ⟨hcs, hx⟩ | ⟨a, len', cap', zs, hcs, _, hl, hm, hz, hx, hcell, hwz⟩
  · simp [Value.cells] at hcs
    obtain ⟨rfl, rfl, rfl⟩ := hcs
    exact ⟨none, [], 0, rfl, Nat.le_refl _, Ints.nil _ _⟩
  · simp [Value.cells] at hcs
    obtain ⟨rfl, rfl, rfl⟩ := hcs
    simp only [if_true] at hz
    refine ⟨some a, zs.take len, cap, by rw [List.length_take, Nat.min_eq_left (by omega)], by rw [List.length_take]; omega, fun hp => ?_⟩
    rw [List.length_take, Nat.min_eq_left (by omega)] at hp ⊢
    obtain ⟨b, off, rfl, hc⟩ := ints_at hcell (by omega)
    refine ⟨b, off, rfl, ?_, fun k hk => ?_⟩
    · have := hc 0 (by omega)
      apply Nat.lt_of_not_le
      intro hle
      unfold World.cell? at this
      rw [Array.getElem?_eq_none hle] at this
      simp at this
    · rw [hc k (by omega), yaY (by rw [List.length_take]; omega), List.getElem_take, List.getD_eq_getElem?_getD, List.getElem?_eq_getElem (by omega)]
      rfl
theorem open_edge {fuel base : Nat} {spare : Nat → Bool} {held : Bool} {x y z : Value} {o : DataW H × List MemPlace} (h : DataW.trod enc Tryz.prog W base spare held fuel 95 [x, y, z] = some o) : ∃ a b c : Int, x = .int .i64 a ∧ y = .int .i64 b ∧ z = .int .i64 c := by
  obtain ⟨xs, n, _, rfl, hl, hlen, hf⟩ := DataW.trod_struct underlying95 h
  obtain ⟨x0, x1, x2, rfl⟩ : ∃ x0 x1 x2, xs = [x0, x1, x2] := by
    match xs, hlen with
    | [x0, x1, x2], _ => exact ⟨_, _, _, rfl⟩
  have f0 := hf 0 _ rfl
  have f1 := hf 1 _ rfl
  have f2 := hf 2 _ rfl
  simp [ygN] at f0 f1 f2
  obtain ⟨a, e0, -, -⟩ := DataW.trod_int underlying3 f0
  obtain ⟨b, e1, -, -⟩ := DataW.trod_int underlying3 f1
  obtain ⟨c, e2, -, -⟩ := DataW.trod_int underlying3 f2
  simp at e0 e1 e2
  exact ⟨a, b, c, e0, e1, e2⟩
theorem open_graph {v : Value} {d : DataW H} {p : List MemPlace} (hv : Value.okWide Tryz.prog W r b0 24 v) (h : DataW.Trod enc Tryz.prog W 0 (fun _ => true) true 24 v d p) :
    ∃ (n : Int) (A : Option Addr) (es : List E3) (c : Nat), v = .agg #[.int .i64 n, .slice A es.length c] ∧ (FP.sl c3 A es.length c es).P no W := by
  suffices h : ∃ (n : Int) (A : Option Addr) (es : List E3) (c : Nat), v = .agg #[.int .i64 n, .slice A es.length c] ∧ es.length ≤ c ∧ ycx W A es by
    obtain ⟨n, A, l, c, e, hlc, hi⟩ := h
    exact ⟨n, A, l, c, e, edges_sl hlc hi⟩
  obtain ⟨c0, c1, y0, y1, m, rfl, rfl, rfl, hy0, hy1⟩ := open_agg2 underlying24 (by kernel_rfl) cells_graph hv h
  obtain ⟨n, e0, -, -⟩ := DataW.trod_int underlying3 hy0
  simp at e0
  subst e0
  rcases open_slice underlying22 hy1 with ⟨hcs, -⟩ | ⟨a, len, cap, mm, nn, D, Pl, hcs, -, hl, hm, hmm, -, hel⟩
  · simp at hcs
    subst hcs
    exact ⟨n, none, [], 0, rfl, Nat.le_refl _, fun h => absurd h (by simp)⟩
  · simp at hcs
    subst hcs
    simp only [if_true] at hmm
    have hex : ∀ i, i < len → ∃ e : E3, W.cell? (a.add (i * 3)) = some (.int .i64 e.1) ∧ W.cell? ((a.add (i * 3)).add 1) = some (.int .i64 e.2.1) ∧ W.cell? ((a.add (i * 3)).add 2) = some (.int .i64 e.2.2) := fun i hi => by
      obtain ⟨cs', hc, ht⟩ := hel i (by omega)
      rw [cells_edge] at hc
      obtain ⟨x, y, z, rfl, k0, k1, k2⟩ := cells3 hc
      obtain ⟨xa, xb, xc, rfl, rfl, rfl⟩ := open_edge ht
      exact ⟨(xa, xb, xc), k0, k1, k2⟩
    let f : Nat → E3 := fun i => if h : i < len then Classical.choose (hex i h) else (0, 0, 0)
    have hf : ∀ i, i < len → W.cell? (a.add (i * 3)) = some (.int .i64 (f i).1) ∧ W.cell? ((a.add (i * 3)).add 1) = some (.int .i64 (f i).2.1) ∧ W.cell? ((a.add (i * 3)).add 2) = some (.int .i64 (f i).2.2) := fun i hi => by
      show _ ∧ _ ∧ _
      have e : f i = Classical.choose (hex i hi) := dif_pos hi
      rw [e]
      exact Classical.choose_spec (hex i hi)
    have hlen : ((List.range len).map f).length = len := by simp
    refine ⟨n, some a, (List.range len).map f, cap, by rw [hlen], by rw [hlen]; omega, fun hp => ?_⟩
    rw [hlen] at hp ⊢
    obtain ⟨b, off, spot⟩ := a
    have hspot : spot = none := by simpa [Addr.add] using World.cell?_spot (hf 0 hp).1
    subst hspot
    refine ⟨b, off, rfl, ?_, fun k hk => ?_⟩
    · have := (hf 0 hp).1
      apply Nat.lt_of_not_le
      intro hle
      unfold World.cell? at this
      rw [Array.getElem?_eq_none (by simpa [Addr.add] using hle)] at this
      simp at this
    · have hg : ge ((List.range len).map f) k = f k := by rw [ydL (by rw [hlen]; exact hk)]; simp
      rw [hg]
      have := hf k hk
      simpa [Addr.add_mid] using this
end Go.Proofs.YtncilechkclmbaaGreat

/- What arguments read as: lists of lists, pairs of lists. -/
namespace Go.Proofs.YtncilechkclmbaaGreat
open Go Go.ChangeShapes Go.WideShapes Go.ChangeAt Go.RowKit Go.Joins Go.Deep Go.Proofs.Tryz
set_option maxRecDepth 100000
set_option linter.unusedVariables false
variable {H : Type} {enc : TypeId × Value → H} {W : World} {r : Reach} {b0 : Nat}
end Go.Proofs.YtncilechkclmbaaGreat

/- Iterators: what a generator and the loop over it owe each other; each side has its own blocks. No program in sight. -/
namespace Go.Proofs.YtncilechkclmbaaGreat
open Go Go.RowKit Go.Shelf Go.Proofs.Tryz
set_option linter.unusedVariables false
set_option linter.unusedSimpArgs false
set_option linter.unusedSectionVars false
theorem n_yield {P : Program} {E : Env} {w : World} {d : Option Tmp} {ty : TypeId} {ps : String} {af : Array Edge} {g : Option (Nat × Bool)} {K : Value → World → Prop} {l m : Nat} {args : Array Operand} {ats : Array TypeId} {vs : Array Value} {fo : Operand}
    (hf : evE E fo = .func (.yield l) #[] #[]) (ha : args.map (evE E) = vs) (h : YieldAt Fence.wide m P l vs w fun e w'' => ∃ v, e = .returned v ∧ K v w'') : yaZ P ⟨d, .call ⟨.value fo, args, ats⟩, ty, ps, af, g⟩ (evE E) w K := by
  obtain ⟨fn, tmps, assign, body, hy, hR⟩ := h
  unfold yaZ execOp
  simp only [resolve, hf, ha, Deferred.ofValue, Sem.run_bind, Sem.run_pure, Result.andThen, invoke, Array.empty_append, Array.append_empty, hy]
  exact ⟨trivial, fun c cs _ => hR.2 c cs (room_wide _)⟩
theorem WTa.ofx {F : Fence} {n : Nat} {P : Program} {Q : Exit → Act → World → Prop} {a : Act} {w : World} {t : List Item} {c : Code}
    (h : c.wpIn F n P (fun e a' w' => match e with
      | .normal => WTa F n P t Q a' w'
      | .ret => Q .ret a' w'
      | .exit id => (match exitTo id t with | some k' => WTa F n P k' Q a' w' | none => Q (.exit id) a' w')
      | _ => False) a w) : WTa F n P (.code c :: t) Q a w := by
  intro b k cs hro hb hr
  obtain ⟨e, a', w', hw, harr⟩ := h b (t ++ k) cs hro hb hr
  cases e with
  | normal =>
    obtain ⟨e2, a2, w2, hq, harr2⟩ := hw b k cs hro hb hr
    exact ⟨e2, a2, w2, hq, .of_steps harr harr2⟩
  | ret => exact ⟨.ret, a', w', hw, harr⟩
  | exit id =>
    cases he : exitTo id t with
    | some k' =>
      simp only [he] at hw
      obtain ⟨e2, a2, w2, hq, harr2⟩ := hw b k cs hro hb hr
      exact ⟨e2, a2, w2, hq, .of_steps (harr.1 _ (ydm k he)) harr2⟩
    | none =>
      simp only [he] at hw
      refine ⟨.exit id, a', w', hw, ?_⟩
      have h1 := harr.1
      have h2 := harr.2
      rw [ydx k he] at h1 h2
      exact ⟨h1, h2⟩
  | goto l => exact hw.elim
  | panic ch => exact hw.elim
  | outgrown => exact hw.elim
theorem Keeps.trans' {A B T S : Nat → Prop} {a b c d : World} (h : Keeps A a b) (k : Keeps B b c) (l : Keeps S c d) (h1 : ∀ k, A k → T k) (h2 : ∀ k, B k → T k) (h3 : ∀ k, S k → T k) : Keeps T a d :=
  ((h.mono fun k _ e => h1 k e).trans (k.mono fun k _ e => h2 k e)).trans (l.mono fun k _ e => h3 k e)
abbrev BS := Nat → Prop
structure RK (T : BS) (W : World) (T' : BS) (W' : World) : Prop where
  keeps : Keeps T W W'
  sub : ∀ k, T' k → T k ∨ W.heap.size ≤ k
  lt : ∀ k, T' k → k < W'.heap.size
def ye4 {α : Type} (J : BS → BS → List α → World → Prop) : Prop :=
  ∀ {T G G' : BS} {pre : List α} {W W' : World}, J T G pre W → Keeps G W W' → (∀ k, G' k → G k ∨ W.heap.size ≤ k) → (∀ k, G' k → k < W'.heap.size) → J T G' pre W'
def ye6 {α : Type} (J : BS → BS → List α → World → Prop) : Prop :=
  ∀ {T G : BS} {pre : List α} {W : World}, J T G pre W → (∀ k, T k → ¬ G k ∧ k < W.heap.size) ∧ ∀ k, G k → k < W.heap.size
structure Sess (P : Program) (l : Nat) {α : Type} (enc : α → Array Value) (pass : α → FP) (Pr : List α → Prop) (J Jx : BS → BS → List α → World → Prop) : Prop where
  gen : ye4 J
  genx : ye4 Jx
  two : ye6 J
  twox : ye6 Jx
  yld : ∀ {T G : BS} {pre : List α} {x : α} {W : World}, J T G pre W → Pr (pre ++ [x]) → (pass x).P (fun k => T k ∨ G k) W →
    YieldAt Fence.wide 1 P l (enc x) W fun e W' => ∃ T', RK T W T' W' ∧ ((e = .returned (.bool true) ∧ J T' G (pre ++ [x]) W') ∨ (e = .returned (.bool false) ∧ Jx T' G (pre ++ [x]) W'))
def ykB (P : Program) (gf : FuncId) (lb : Array Value) {α : Type} (enc : α → Array Value) (pass : α → FP) (Pr R : List α → Prop) (T0 G0 : BS) (w : World) : Prop :=
  ∀ (l : Nat) (J Jx : BS → BS → List α → World → Prop) (T1 : BS) (w1 : World), Sess P l enc pass Pr J Jx → J T1 G0 [] w1 → Pure w w1 → (∀ k, T1 k → T0 k ∨ w.heap.size ≤ k) →
    CallsIn Fence.wide 2 P gf (#[.func (.yield l) #[] #[]] ++ lb) w1 fun e w' => (∃ v, e = .returned v) ∧ ((∃ xs T G, R xs ∧ J T G xs w') ∨ ∃ pre T G, Jx T G pre w')
structure RL1 (l : Nat) (busy : Obj) (T : BS) (W : World) (T' : BS) (W' : World) : Prop where
  keeps : Keeps (fun k => T k ∨ k = l) W W'
  sub : ∀ k, T' k → T k ∨ W.heap.size ≤ k
  lt : ∀ k, T' k → k < W'.heap.size
  at_ : W'.heap[l]? = some busy
def rndPost (l : Nat) (busy : Obj) {α : Type} (I : BS → BS → List α → World → Prop) (Ix : Option Nat → BS → BS → List α → World → Prop) (T G : BS) (xs : List α) (W : World) : Exit → Act → World → Prop
  | .normal, _, W' => ∃ T', RL1 l busy T W T' W' ∧ I T' G xs W'
  | .ret, _, W' => ∃ T', RL1 l busy T W T' W' ∧ Ix none T' G xs W'
  | .exit id, _, W' => ∃ T', RL1 l busy T W T' W' ∧ Ix (some id) T' G xs W'
  | _, _, _ => False
def jumpOf : Option Nat → Code
  | none => .ret
  | some id => .exit id
theorem ycW (W : World) (l : Nat) (o : Obj) : (W.putObj l o).heap.size = W.heap.size := by simp
theorem yc8 (W : World) (l : Nat) (o : Obj) : Keeps (fun k => k = l) W (W.putObj l o) :=
  ⟨rfl, rfl, rfl, by simp, fun k hk hn => World.putObj_heap_other hn⟩
def JumpTo (P : Program) (N : Nat) (t : List Item) (Q : Exit → Act → World → Prop) (E : Env) (ds : List Deferred) (w : World) : Option Nat → Prop
  | none => ∀ a, Rep N E ds a → Q .ret a w
  | some id => match exitTo id t with
    | some k' => WT Fence.wide 3 P N k' Q E ds w
    | none => ∀ a, Rep N E ds a → Q (.exit id) a w
theorem wpIn_iter {P : Program} {N : Nat} {Q : Exit → Act → World → Prop} {E : Env} {ds : List Deferred} {w : World} {t : List Item} {fo : Operand} {ps : Array Tmp} {assign body : Code} {gf : FuncId} {lb : Array Value} {a : Act}
    (hr : a.eval fo = .func (.func gf) #[] lb) (he : Enters P gf) {α : Type} {enc : α → Array Value} {pass : α → FP} {Pr R : List α → Prop} (hps : ∀ x, (enc x).size = ps.size)
    (T0 G0 : BS) (I : BS → BS → List α → World → Prop) (Ix : Option Nat → BS → BS → List α → World → Prop) (hI : ye4 I) (hI2 : ye6 I) (hIx : ∀ c, ye4 (Ix c)) (hIx2 : ∀ c, ye6 (Ix c)) (h0 : I T0 G0 [] w)
    (hgen : ykB P gf lb enc pass Pr R T0 G0 w)
    (hround : ∀ (l : Nat) (T G : BS) (pre : List α) (x : α) (W : World) (rdy busy : Obj), I T G pre W → Pr (pre ++ [x]) → (pass x).P (fun k => T k ∨ G k) W → G l → W.heap[l]? = some rdy →
      assign.wpIn (Fence.wide.inRound l) 1 P (Exit.then (fun a1 W1 => W1.heap[l]? = some rdy ∧ ∀ W2, W2 = W1.putObj l busy → body.wpIn (Fence.wide.inRound l) 1 P (rndPost l busy I Ix T G (pre ++ [x]) W) a1 W2) (fun _ _ _ => False))
        { tmps := (ps.zip (enc x)).foldl (fun t (p, v) => t.setIfInBounds p v) a.tmps, defers := [] } W)
    (hdone : ∀ (D : Nat) (T G : BS) (xs : List α) (W : World), w.heap.size ≤ D → ¬ T D → G D → R xs → I T G xs W → W.heap[D]? = some (.deferred (some [])) → Q .normal { a with defers := { target := .collected D, args := #[] } :: a.defers } W)
    (hstop : ∀ (D : Nat) (T G : BS) (c : Option Nat) (xs : List α) (W : World), w.heap.size ≤ D → ¬ T D → G D → Ix c T G xs W → W.heap[D]? = some (.deferred (some [])) → (jumpOf c).wpIn Fence.wide 3 P Q { a with defers := { target := .collected D, args := #[] } :: a.defers } W) :
    (Code.rangeFunc fo ps assign body).wpIn Fence.wide 3 P Q a w := by
  refine wpIn_rangeFunc ?_
  intro fn hfn
  obtain ⟨D, hD⟩ : ∃ D, D = w.heap.size := ⟨_, rfl⟩
  obtain ⟨L, hL⟩ : ∃ L, L = w.heap.size + 1 := ⟨_, rfl⟩
  obtain ⟨rec, hrec⟩ : ∃ rec : LoopState → Option Code → Loop, rec = fun st pe => { state := st, pending := pe, fn, tmps := a.tmps, params := ps, assign, body, defers := w.heap.size } := ⟨_, rfl⟩
  obtain ⟨W1, hW1⟩ : ∃ W1, (w.alloc (.deferred (some []))).alloc (.loop (rec .ready none)) = W1 := ⟨_, rfl⟩
  have hL1 : W1.heap[L]? = some (.loop (rec .ready none)) := by
    rw [← hW1, hL]; have := World.alloc_heap_new (w.alloc (.deferred (some []))) (.loop (rec .ready none)); rwa [World.size_alloc] at this
  have hK1 : W1.heap[D]? = some (.deferred (some [])) := by
    rw [← hW1, hD]; exact (Below.heap_alloc _ _ _ (by simp)).trans (World.alloc_heap_new w _)
  have hP1 : Pure w W1 := by rw [← hW1]; exact ((Keeps.refl _ _).alloc _).alloc _
  have hs1 : W1.heap.size = w.heap.size + 2 := by rw [← hW1]; simp
  have two0 := hI2 h0
  refine ⟨L, [{ target := .collected D, args := #[] }], W1, { target := .fn (.func gf) lb, args := #[.func (.yield L) #[] #[]] }, W1, gf, #[.func (.yield L) #[] #[]] ++ lb, W1, ?_, ?_, fun _ _ => trivial, ?_, fun h => (by cases h), ?_⟩
  · rw [← hW1, hrec, hL, hD]; exact run_enterLoop_outer _ _ _ _ _
  · simp only [resolve, hr]
    simp [go_sem]
  · simp [invoke, go_sem, he _ _]
  · have key := hgen L
      (fun Tg G pre W => ∃ T, (∀ k, Tg k ↔ T k ∨ k = L ∨ k = D) ∧ I T (fun k => G k ∨ k = L ∨ k = D) pre W ∧ W.heap[L]? = some (.loop (rec .ready none)) ∧ W.heap[D]? = some (.deferred (some [])) ∧ ¬ G L ∧ ¬ G D ∧ ¬ T D)
      (fun Tg G pre W => ∃ T c, (∀ k, Tg k ↔ T k ∨ k = L ∨ k = D) ∧ Ix c T (fun k => G k ∨ k = L ∨ k = D) pre W ∧ W.heap[L]? = some (.loop (rec .done (some (jumpOf c)))) ∧ W.heap[D]? = some (.deferred (some [])) ∧ ¬ G L ∧ ¬ G D ∧ ¬ T D)
      (fun k => T0 k ∨ k = L ∨ k = D) W1 ⟨?_, ?_, ?_, ?_, ?_⟩ ⟨T0, fun _ => Iff.rfl, ?_, hL1, hK1, ?_, ?_, ?_⟩ hP1 (fun k hk => ?_)
    · refine (show CallsIn Fence.wide (3 - 1) P gf _ W1 _ from key).mono ?_
      rintro e W2 ⟨⟨v, rfl⟩, (⟨xs, Tg, G, hR, T, hT, hi, hl, hd, g1, g2, g3⟩ | ⟨pre, Tg, G, T, c, hT, hi, hl, hd, g1, g2, g3⟩)⟩
      · refine ⟨none, W2.putObj L (.loop { rec .ready none with state := .exhausted }), by have := run_endLoop (P := P) hl (by rw [hrec]; simp); rw [hrec] at this ⊢; exact this, ?_⟩
        have hLl : L < W2.heap.size := (Array.getElem?_eq_some_iff.1 hl).1
        have hlt := (hI2 hi).2
        exact hdone D T _ xs _ (by omega) g3 (.inr (.inr rfl)) hR (hI hi ((yc8 _ _ _).mono fun k _ e => .inr (.inl e)) (fun k h => .inl h) (fun k h => by rw [ycW]; exact hlt k h)) ((World.putObj_heap_other (by omega)).trans hd)
      · refine ⟨some (jumpOf c), W2.putObj L (.loop { rec .done (some (jumpOf c)) with state := .exhausted }), by have := run_endLoop (P := P) hl (by rw [hrec]; simp); rw [hrec] at this ⊢; exact this, ?_⟩
        have hlt := (hIx2 c hi).2
        exact hstop D T _ c pre _ (by omega) g3 (.inr (.inr rfl)) (hIx c hi ((yc8 _ _ _).mono fun k _ e => .inr (.inl e)) (fun k h => .inl h) (fun k h => by rw [ycW]; exact hlt k h)) ((World.putObj_heap_other (by omega)).trans hd)
    · -- the generator's steps
      rintro Tg G G' pre W W' ⟨T, hT, hi, hl, hd, g1, g2, g3⟩ hK hG hGl
      have lL := (Array.getElem?_eq_some_iff.1 hl).1
      have lD := (Array.getElem?_eq_some_iff.1 hd).1
      refine ⟨T, hT, hI hi (hK.mono fun k _ h => .inl h) (fun k h => ?_) (fun k h => ?_), (hK.block L lL g1).trans hl, (hK.block D lD g2).trans hd, fun h => ?_, fun h => ?_, g3⟩
      · rcases h with h | h
        · rcases hG k h with q | q
          · exact .inl (.inl q)
          · exact .inr q
        · exact .inl (.inr h)
      · rcases h with h | h | h
        · exact hGl k h
        · rw [h]; exact Nat.lt_of_lt_of_le lL hK.size
        · rw [h]; exact Nat.lt_of_lt_of_le lD hK.size
      · rcases hG L h with q | q
        · exact g1 q
        · omega
      · rcases hG D h with q | q
        · exact g2 q
        · omega
    · rintro Tg G G' pre W W' ⟨T, c, hT, hi, hl, hd, g1, g2, g3⟩ hK hG hGl
      have lL := (Array.getElem?_eq_some_iff.1 hl).1
      have lD := (Array.getElem?_eq_some_iff.1 hd).1
      refine ⟨T, c, hT, hIx c hi (hK.mono fun k _ h => .inl h) (fun k h => ?_) (fun k h => ?_), (hK.block L lL g1).trans hl, (hK.block D lD g2).trans hd, fun h => ?_, fun h => ?_, g3⟩
      · rcases h with h | h
        · rcases hG k h with q | q
          · exact .inl (.inl q)
          · exact .inr q
        · exact .inl (.inr h)
      · rcases h with h | h | h
        · exact hGl k h
        · rw [h]; exact Nat.lt_of_lt_of_le lL hK.size
        · rw [h]; exact Nat.lt_of_lt_of_le lD hK.size
      · rcases hG L h with q | q
        · exact g1 q
        · omega
      · rcases hG D h with q | q
        · exact g2 q
        · omega
    · rintro Tg G pre W ⟨T, hT, hi, hl, hd, g1, g2, g3⟩
      have lL := (Array.getElem?_eq_some_iff.1 hl).1
      refine ⟨fun k hk => ?_, fun k hk => (hI2 hi).2 k (.inl hk)⟩
      rcases (hT k).1 hk with q | q
      · exact ⟨fun hg => ((hI2 hi).1 k q).1 (.inl hg), ((hI2 hi).1 k q).2⟩
      · rcases q with q | q
        · rw [q]; exact ⟨g1, lL⟩
        · rw [q]; exact ⟨g2, (Array.getElem?_eq_some_iff.1 hd).1⟩
    · rintro Tg G pre W ⟨T, c, hT, hi, hl, hd, g1, g2, g3⟩
      have lL := (Array.getElem?_eq_some_iff.1 hl).1
      refine ⟨fun k hk => ?_, fun k hk => (hIx2 c hi).2 k (.inl hk)⟩
      rcases (hT k).1 hk with q | q
      · exact ⟨fun hg => ((hIx2 c hi).1 k q).1 (.inl hg), ((hIx2 c hi).1 k q).2⟩
      · rcases q with q | q
        · rw [q]; exact ⟨g1, lL⟩
        · rw [q]; exact ⟨g2, (Array.getElem?_eq_some_iff.1 hd).1⟩
    · -- one round
      rintro Tg G pre x W ⟨T, hT, hi, hl, hd, g1, g2, g3⟩ hPr hpass
      have lL := (Array.getElem?_eq_some_iff.1 hl).1
      have lD := (Array.getElem?_eq_some_iff.1 hd).1
      have hy := run_yield (P := P) (args := enc x) hl (by rw [hrec]; exact hps x)
      rw [hrec] at hy
      have hp2 : (pass x).P (fun k => T k ∨ (G k ∨ k = L ∨ k = D)) W := (pass x).sub hpass (fun k _ h => by
        rcases h with h | h | h
        · exact .inl ((hT k).2 (.inl h))
        · exact .inr h
        · exact .inl ((hT k).2 (.inr h)))
      refine ⟨fn, _, assign, body, hy, roundIn_of_wpIn hfn (wpIn_mono (hround L T _ pre x W _ (.loop { rec .ready none with state := .busy }) hi hPr hp2 (.inr (.inl rfl)) hl) ?_)⟩
      rintro e1 a1 V1 hq
      cases e1 with
      | exit id => exact hq.elim
      | ret => exact hq.elim
      | goto l => exact hq.elim
      | panic c => exact hq.elim
      | outgrown => exact hq.elim
      | normal =>
      obtain ⟨hl1, hb1⟩ := hq
      refine ⟨_, run_beginRound hl1 (by rw [hrec]), wpIn_mono (hb1 _ rfl) ?_⟩
      have fin : ∀ (T' : BS) (jump : Option Code) (W3 : World), RL1 L (.loop { rec .ready none with state := .busy }) T W T' W3 →
          (Instr.endRound L jump).run P W3 = .ok (.bool jump.isNone) (W3.putObj L (.loop (rec (if jump.isNone then .ready else .done) jump))) ∧
          (W3.putObj L (.loop (rec (if jump.isNone then .ready else .done) jump))).heap[L]? = some (.loop (rec (if jump.isNone then .ready else .done) jump)) ∧
          (W3.putObj L (.loop (rec (if jump.isNone then .ready else .done) jump))).heap[D]? = some (.deferred (some [])) ∧
          RK Tg W (fun k => T' k ∨ k = L ∨ k = D) (W3.putObj L (.loop (rec (if jump.isNone then .ready else .done) jump))) ∧ Keeps (fun k => k = L) W3 (W3.putObj L (.loop (rec (if jump.isNone then .ready else .done) jump))) ∧ L < W3.heap.size ∧ ¬ T' D := fun T' jump W3 hk3 => by
        have hl3 : W3.heap[L]? = some (.loop { rec .ready none with state := .busy }) := hk3.at_
        have hd3 : W3.heap[D]? = some (.deferred (some [])) := (hk3.keeps.block D (by omega) (fun h => h.elim g3 (fun e => by omega))).trans hd
        have lL3 := (Array.getElem?_eq_some_iff.1 hl3).1
        have hrun := run_endRound (P := P) jump hl3
        rw [hrec] at hrun ⊢
        have hkk := yc8 W3 L (.loop ((fun st pe => ({ state := st, pending := pe, fn, tmps := a.tmps, params := ps, assign, body, defers := w.heap.size } : Loop)) (if jump.isNone then .ready else .done) jump))
        refine ⟨hrun, World.putObj_heap_same lL3, (World.putObj_heap_other (by omega)).trans hd3, ⟨(Keeps.refl (fun _ => False) W).trans' hk3.keeps hkk (T := Tg) (fun k e => e.elim) (fun k e => e.elim (fun e => (hT k).2 (.inl e)) (fun e => (hT k).2 (.inr (.inl e)))) (fun k e => (hT k).2 (.inr (.inl e))), fun k h => ?_, fun k h => ?_⟩, hkk, lL3, fun h => ?_⟩
        · rcases h with h | h
          · rcases hk3.sub k h with q | q
            · exact .inl ((hT k).2 (.inl q))
            · exact .inr (by omega)
          · exact .inl ((hT k).2 (.inr h))
        · rw [ycW]
          rcases h with h | h
          · exact hk3.lt k h
          · rcases h with h | h
            · rw [h]; exact lL3
            · rw [h]; exact (Array.getElem?_eq_some_iff.1 hd3).1
        · rcases hk3.sub D h with q | q
          · exact g3 q
          · omega
      rintro e a3 W3 hp
      cases e with
      | normal =>
        obtain ⟨T', hk3, hi3⟩ := hp
        obtain ⟨hr3, hl4, hd4, hrk, hkk, lL3, hTD⟩ := fin T' none W3 hk3
        exact ⟨_, _, hr3, _, hrk, .inl ⟨rfl, T', fun _ => Iff.rfl, hI hi3 (hkk.mono fun k _ e => .inr (.inl e)) (fun k h => .inl h) (fun k h => by rw [ycW]; exact (hI2 hi3).2 k h), hl4, hd4, g1, g2, hTD⟩⟩
      | ret =>
        obtain ⟨T', hk3, hi3⟩ := hp
        obtain ⟨hr3, hl4, hd4, hrk, hkk, lL3, hTD⟩ := fin T' (some .ret) W3 hk3
        exact ⟨_, _, hr3, _, hrk, .inr ⟨rfl, T', none, fun _ => Iff.rfl, hIx none hi3 (hkk.mono fun k _ e => .inr (.inl e)) (fun k h => .inl h) (fun k h => by rw [ycW]; exact (hIx2 none hi3).2 k h), hl4, hd4, g1, g2, hTD⟩⟩
      | exit id =>
        obtain ⟨T', hk3, hi3⟩ := hp
        obtain ⟨hr3, hl4, hd4, hrk, hkk, lL3, hTD⟩ := fin T' (some (.exit id)) W3 hk3
        exact ⟨_, _, hr3, _, hrk, .inr ⟨rfl, T', some id, fun _ => Iff.rfl, hIx (some id) hi3 (hkk.mono fun k _ e => .inr (.inl e)) (fun k h => .inl h) (fun k h => by rw [ycW]; exact (hIx2 (some id) hi3).2 k h), hl4, hd4, g1, g2, hTD⟩⟩
      | goto t => exact hp.elim
      | panic ch => exact hp.elim
      | outgrown => exact hp.elim
    · have hsz : ∀ k, G0 k → k < w.heap.size := two0.2
      exact hI h0 (G := G0) (hP1.mono fun k _ h => h.elim) (fun k h => h.elim .inl (fun e => .inr (by omega))) (fun k h => h.elim (fun h => by have := hsz k h; omega) (fun e => by omega))
    · intro h; have := two0.2 L h; omega
    · intro h; have := two0.2 D h; omega
    · intro h; have := (two0.1 D h).2; omega
    · rcases hk with h | h
      · exact .inl h
      · exact .inr (by omega)
theorem wt_iter {P : Program} {N : Nat} {Q : Exit → Act → World → Prop} {E : Env} {ds : List Deferred} {w : World} {t : List Item} {fo : Operand} {ps : Array Tmp} {assign body : Code} {gf : FuncId} {lb : Array Value}
    (hr : evE E fo = .func (.func gf) #[] lb) (he : Enters P gf) {α : Type} {val : α → Array Value} {pass : α → FP} {Pr R : List α → Prop} (hps : ∀ x, (val x).size = ps.size) (hpN : ps.toList.all (fun p => Nat.blt p N) = true)
    (T0 G0 : BS) (I : BS → BS → List α → World → Prop) (Ix : Option Nat → BS → BS → List α → World → Prop) (hI : ye4 I) (hI2 : ye6 I) (hIx : ∀ c, ye4 (Ix c)) (hIx2 : ∀ c, ye6 (Ix c)) (h0 : I T0 G0 [] w)
    (hgen : ykB P gf lb val pass Pr R T0 G0 w)
    (hround : ∀ (l : Nat) (T G : BS) (pre : List α) (x : α) (W : World) (rdy busy : Obj), I T G pre W → Pr (pre ++ [x]) → (pass x).P (fun k => T k ∨ G k) W → G l → W.heap[l]? = some rdy →
      WT (Fence.wide.inRound l) 1 P N [.code assign] (fun e a1 W1 => e = .normal ∧ ∃ E1, Rep N E1 [] a1 ∧ W1.heap[l]? = some rdy ∧ ∀ W2, W2 = W1.putObj l busy → WT (Fence.wide.inRound l) 1 P N [.code body] (rndPost l busy I Ix T G (pre ++ [x]) W) E1 [] W2) (setE E (ps.toList.zip (val x).toList)) [] W)
    (hdone : ∀ (D : Nat) (T G : BS) (xs : List α) (W : World), w.heap.size ≤ D → ¬ T D → G D → R xs → I T G xs W → W.heap[D]? = some (.deferred (some [])) → WT Fence.wide 3 P N t Q E ({ target := .collected D, args := #[] } :: ds) W)
    (hstop : ∀ (D : Nat) (T G : BS) (c : Option Nat) (xs : List α) (W : World), w.heap.size ≤ D → ¬ T D → G D → Ix c T G xs W → W.heap[D]? = some (.deferred (some [])) → JumpTo P N t Q E ({ target := .collected D, args := #[] } :: ds) W c) :
    WT Fence.wide 3 P N (.code (.rangeFunc fo ps assign body) :: t) Q E ds w := by
  intro a ra
  let mk : Env → Act := fun E' => { tmps := Array.ofFn (n := N) fun i => E' i, defers := [] }
  have hmk : ∀ E' : Env, (∀ t, N ≤ t → E' t = undef) → Rep N E' [] (mk E') := by
    intro E' h
    refine ⟨by simp [mk], fun t => ?_, rfl⟩
    simp only [mk, Array.getD_eq_getD_getElem?]
    rcases Nat.lt_or_ge t N with ht | ht
    · simp [ht]
    · simp [ht, h t ht]
  have hun : ∀ {E' : Env} {ds' : List Deferred} {a' : Act}, Rep N E' ds' a' → ∀ t, N ≤ t → E' t = undef := by
    intro E' ds' a' h t ht
    rw [← h.get t]
    simp [Array.getD_eq_getD_getElem?, h.size, ht]
  have hpr : ∀ x, Rep N (setE E (ps.toList.zip (val x).toList)) [] { tmps := (ps.zip (val x)).foldl (fun t (p, v) => t.setIfInBounds p v) a.tmps, defers := [] } := by
    intro x
    have h1 : Rep N E [] { tmps := a.tmps, defers := [] } := ⟨ra.size, ra.get, rfl⟩
    have h2 := setE_rep (ps.toList.zip (val x).toList) E [] _ h1 (fun p hp => by
      have := List.all_eq_true.1 hpN p.1 (List.of_mem_zip hp).1
      simpa using this)
    have h3 : (ps.zip (val x)).foldl (fun t (p, v) => t.setIfInBounds p v) a.tmps = (ps.toList.zip (val x).toList).foldl (fun t p => t.setIfInBounds p.1 p.2) a.tmps := by
      rw [← Array.foldl_toList, Array.toList_zip]
    rw [h3]; exact h2
  refine WTa.ofx (wpIn_iter (N := N) (E := E) (ds := ds) (t := t) (a := a) (by rw [ra.eval, hr]) he hps T0 G0 I Ix hI hI2 hIx hIx2 h0 hgen ?_ ?_ ?_)
  · intro l T G pre x W rdy busy hi hp hq hg hl
    refine wpIn_mono (WTa.code (hround l T G pre x W rdy busy hi hp hq hg hl _ (hpr x))) ?_
    rintro e a1 W1 ⟨rfl, E1, r1, h1, h2⟩
    exact ⟨h1, fun W2 hW => WTa.code (h2 W2 hW _ r1)⟩
  · intro D T G xs W hD hT hG hR hi hd
    exact hdone D T G xs W hD hT hG hR hi hd _ ⟨ra.size, ra.get, by rw [ra.defers]⟩
  · intro D T G c xs W hD hT hG hi hd
    have hj := hstop D T G c xs W hD hT hG hi hd
    have ra2 : Rep N E ({ target := .collected D, args := #[] } :: ds) { a with defers := { target := .collected D, args := #[] } :: a.defers } := ⟨ra.size, ra.get, by rw [ra.defers]⟩
    cases c with
    | none => exact WTa.code (WTa.ret (hj _ ra2))
    | some id =>
      refine WTa.code (WTa.leave rfl ?_)
      unfold JumpTo at hj
      cases hq : exitTo id t with
      | none => simp only [hq] at hj ⊢; exact hj _ ra2
      | some k' => simp only [hq] at hj ⊢; exact hj _ ra2
def OwnB (L : Hold) : BS := fun k => ∃ i, (L i).blk = some k
structure Two (w0 : World) (S O G : BS) (W : World) (L : Hold) : Prop where
  pure : Keeps S w0 W
  lt : ∀ k, O k → k < w0.heap.size ∧ ¬ S k
  g : ∀ k, G k → k < W.heap.size ∧ (w0.heap.size ≤ k ∨ S k) ∧ ∀ i, (L i).blk ≠ some k
  ok : ∀ i, (L i).ok 0 (Bl (fun k => O k ∨ G k) L) W
  bd : ∀ i k, (L i).blk = some k → w0.heap.size ≤ k ∨ S k
  nd : ∀ i j k, (L i).blk = some k → (L j).blk = some k → i = j
section
variable {w0 w w' W W' : World} {S O G G' T : BS} {L L' : Hold}
theorem yg2 {js : List Nat} {i k : Nat} (h : (rl (js.map L) i).blk = some k) : ∃ j, js[i]? = some j ∧ (L j).blk = some k := by
  rw [rl_map] at h
  cases hq : js[i]? with
  | none => rw [hq] at h; cases h
  | some j => rw [hq] at h; exact ⟨j, rfl, h⟩
theorem Sep.give (h : Sep w0 S O w L) (js gs : List Nat) (hj : js.Nodup) (hg : gs.Nodup) (hf : allJ (fun j => (j ∉ js) ∨ (L j).blk = none) gs) :
    Two w0 S O (OwnB (rl (gs.map L))) w (rl (js.map L)) ∧ Sep w (OwnB (rl (gs.map L))) (Bl O (rl (js.map L))) w (rl (gs.map L)) := by
  have hdis : ∀ a b k, (rl (js.map L) a).blk = some k → (rl (gs.map L) b).blk = some k → False := fun a b k ha hb => by
    obtain ⟨j1, e1, b1⟩ := yg2 ha
    obtain ⟨j2, e2, b2⟩ := yg2 hb
    have := h.nd j1 j2 k b1 b2
    subst this
    rcases hf.out j1 (List.mem_of_getElem? e2) with q | q
    · exact q (List.mem_of_getElem? e1)
    · rw [q] at b1; cases b1
  have hO : ∀ k, (OwnB L) k → ¬ O k := fun k ⟨i, hi⟩ hk => by
    have := h.lt k hk
    rcases h.bd i k hi with q | q
    · omega
    · exact this.2 q
  have hsz : ∀ i k, (L i).blk = some k → k < w.heap.size := fun i k hk => ((h.ok i).lt hk).2
  have ndl : ∀ (l : List Nat), l.Nodup → ∀ a b k, (rl (l.map L) a).blk = some k → (rl (l.map L) b).blk = some k → a = b := fun l hl a b k ha hb => by
    obtain ⟨j1, e1, b1⟩ := yg2 ha
    obtain ⟨j2, e2, b2⟩ := yg2 hb
    have := h.nd j1 j2 k b1 b2
    subst this
    obtain ⟨l1, q1⟩ := List.getElem?_eq_some_iff.1 e1
    obtain ⟨l2, q2⟩ := List.getElem?_eq_some_iff.1 e2
    exact (List.getElem_inj hl).1 (q1.trans q2.symm)
  have okl : ∀ (l : List Nat) (O' : BS), (∀ k, O' k → Bl O L k) → ∀ i, (rl (l.map L) i).ok 0 O' w := fun l O' ho i => by
    rw [rl_map]
    cases hq : l[i]? with
    | none => trivial
    | some j => exact (h.ok j).sub fun k _ hk => ho k hk
  have inl : ∀ (l : List Nat) k, OwnB (rl (l.map L)) k → OwnB L k := fun l k ⟨i, hi⟩ => by
    obtain ⟨j, _, hb⟩ := yg2 hi
    exact ⟨j, hb⟩
  refine ⟨⟨h.pure, h.lt, fun k hk => ?_, ?_, fun i k hk => ?_, ndl js hj⟩, ⟨Keeps.refl _ _, fun k hk => ?_, ?_, fun i k hk => .inr ⟨i, hk⟩, ndl gs hg⟩⟩
  · obtain ⟨j, hb⟩ := inl gs k hk
    obtain ⟨i, hi⟩ := hk
    exact ⟨hsz j k hb, h.bd j k hb, fun a ha => hdis a i k ha hi⟩
  · refine okl js _ fun k hk => ?_
    rcases hk with (q | q) | q
    · exact .inl q
    · exact .inr (inl gs k q)
    · exact .inr (inl js k q)
  · obtain ⟨j, _, hb⟩ := yg2 hk
    exact h.bd j k hb
  · rcases hk with q | ⟨i, q⟩
    · exact ⟨Nat.lt_of_lt_of_le (h.lt k q).1 h.pure.size, fun hg => hO k (inl gs k hg) q⟩
    · obtain ⟨j, _, hb⟩ := yg2 q
      exact ⟨hsz j k hb, fun ⟨b, hb2⟩ => hdis i b k q hb2⟩
  · refine okl gs _ fun k hk => ?_
    rcases hk with (q | q) | q
    · exact .inl q
    · exact .inr (inl js k q)
    · exact .inr (inl gs k q)
theorem Two.gen (h : Two w0 S O G W L) (hK : Keeps G W W') (hG : ∀ k, G' k → G k ∨ W.heap.size ≤ k) (hl : ∀ k, G' k → k < W'.heap.size) : Two w0 S O G' W' L := by
  have hlt : ∀ i k, (L i).blk = some k → k < W.heap.size := fun i k hk => ((h.ok i).lt hk).2
  refine ⟨h.pure.then hK (fun k hk q => (h.g k q).2.1.elim (fun r => by omega) id), h.lt, fun k hk => ⟨hl k hk, ?_, fun i hi => ?_⟩, fun i => ?_, h.bd, h.nd⟩
  · rcases hG k hk with q | q
    · exact (h.g k q).2.1
    · exact .inl (Nat.le_trans h.pure.size q)
  · rcases hG k hk with q | q
    · exact (h.g k q).2.2 i hi
    · have := hlt i k hi; omega
  · refine (h.ok i).keep hK (fun k hk hg => (h.g k hg).2.2 i hk) (fun k _ hg => .inl (.inr hg)) fun k hk hO => ?_
    rcases hO with (q | q) | q
    · exact .inl (.inl q)
    · rcases hG k q with r | r
      · exact .inl (.inr r)
      · omega
    · exact .inr q
theorem Two.round (h : Two w0 S O G W L) : Sep W (OwnB L) (fun k => O k ∨ G k) W L := by
  refine ⟨Keeps.refl _ _, fun k hk => ?_, h.ok, fun i k hk => .inr ⟨i, hk⟩, h.nd⟩
  rcases hk with q | q
  · refine ⟨Nat.lt_of_lt_of_le (h.lt k q).1 h.pure.size, fun ⟨i, hi⟩ => ?_⟩
    rcases h.bd i k hi with r | r
    · have := (h.lt k q).1; omega
    · exact (h.lt k q).2 r
  · exact ⟨(h.g k q).1, fun ⟨i, hi⟩ => (h.g k q).2.2 i hi⟩
theorem Two.back (h : Two w0 S O G W L) (hS : Sep W (OwnB L) (fun k => O k ∨ G k) W' L') : Two w0 S O G W' L' ∧ RK (Bl O L) W (Bl O L') W' := by
  have hbd : ∀ i k, (L' i).blk = some k → OwnB L k ∨ W.heap.size ≤ k := fun i k hk => (hS.bd i k hk).symm
  refine ⟨⟨h.pure.then hS.pure (fun k hk ⟨i, hi⟩ => (h.bd i k hi).elim (fun r => by omega) id), h.lt, fun k hk => ⟨Nat.lt_of_lt_of_le (h.g k hk).1 hS.pure.size, (h.g k hk).2.1, fun i hi => ?_⟩, hS.ok, fun i k hk => ?_, hS.nd⟩, ⟨hS.pure.mono fun k _ q => .inr q, fun k hk => ?_, fun k hk => ?_⟩⟩
  · rcases hbd i k hi with ⟨j, q⟩ | q
    · exact (h.g k hk).2.2 j q
    · have := (h.g k hk).1; omega
  · rcases hbd i k hk with ⟨j, q⟩ | q
    · exact h.bd j k q
    · exact .inl (Nat.le_trans h.pure.size q)
  · rcases hk with q | ⟨i, q⟩
    · exact .inl (.inl q)
    · rcases hbd i k q with r | r
      · exact .inl (.inr r)
      · exact .inr r
  · rcases hk with q | ⟨i, q⟩
    · exact Nat.lt_of_lt_of_le (h.lt k q).1 (Nat.le_trans h.pure.size hS.pure.size)
    · exact ((hS.ok i).lt q).2
end
def IV {α : Type} (w0 : World) (S O : BS) (V : List α → List Res → Prop) : BS → BS → List α → World → Prop := fun T G pre W => ∃ LL, T = Bl O (rl LL) ∧ Two w0 S O G W (rl LL) ∧ V pre LL
theorem IV.gen {α : Type} (w0 : World) (S O : BS) (V : List α → List Res → Prop) : ye4 (IV w0 S O V) := by
  rintro T G G' pre W W' ⟨L, rfl, h, hV⟩ hK hG hl
  exact ⟨L, rfl, h.gen hK hG hl, hV⟩
theorem IV.two {α : Type} (w0 : World) (S O : BS) (V : List α → List Res → Prop) : ye6 (IV w0 S O V) := by
  rintro T G pre W ⟨L, rfl, h, hV⟩
  refine ⟨fun k hk => ?_, fun k hk => (h.g k hk).1⟩
  rcases hk with q | ⟨i, q⟩
  · refine ⟨fun hg => ?_, Nat.lt_of_lt_of_le (h.lt k q).1 h.pure.size⟩
    rcases (h.g k hg).2.1 with r | r
    · have := (h.lt k q).1; omega
    · exact (h.lt k q).2 r
  · exact ⟨fun hg => (h.g k hg).2.2 i q, ((h.ok i).lt q).2⟩
def dfr (D : Nat) : Res := .obj D (.deferred (some []))
theorem yg4 : ∀ (LL : List Res) (r : Res), rl (LL ++ [r]) = stl (rl LL) LL.length r
  | [], r => by funext i; cases i <;> rfl
  | x :: t, r => by
    funext i
    cases i with
    | zero => rfl
    | succ i =>
      show rl (t ++ [r]) i = _
      rw [yg4 t r]
      by_cases e : i = t.length
      · subst e; rw [yaT, List.length_cons, yaT]
      · rw [yaG _ _ e, List.length_cons, yaG _ _ (by omega)]; rfl
theorem ycS : ∀ (LL : List Res), rl LL LL.length = .gone
  | [] => rfl
  | _ :: t => ycS t
theorem Two.take {w0 W : World} {S O G : BS} {L : Hold} (h : Two w0 S O G W L) {D i : Nat} {o : Obj} (hi : L i = .gone) (hD : G D) (hd : W.heap[D]? = some o) :
    (∀ j, (stl L i (.obj D o) j).ok 0 (Bl (fun k => O k ∨ G k) L) W) ∧ (∀ k, Bl (fun k => O k ∨ (G k ∧ k ≠ D)) (stl L i (.obj D o)) k → Bl (fun k => O k ∨ G k) L k) ∧ (∀ a b k, (stl L i (.obj D o) a).blk = some k → (stl L i (.obj D o) b).blk = some k → a = b) ∧ ∀ j k, (stl L i (.obj D o) j).blk = some k → OwnB L k ∨ k = D := by
  refine ⟨fun j => ?_, ?_, fun a b k ha hb' => ?_, fun j k hk => ?_⟩
  · by_cases e : j = i
    · subst e; rw [yaT]; exact ⟨Nat.zero_le _, hd⟩
    · rw [yaG _ _ e]; exact h.ok j
  · rintro k ((q | q) | ⟨j, q⟩)
    · exact .inl (.inl q)
    · exact .inl (.inr q.1)
    · by_cases e : j = i
      · subst e; rw [yaT] at q; cases q; exact .inl (.inr hD)
      · rw [yaG _ _ e] at q; exact .inr ⟨j, q⟩
  · have key : ∀ a b, a ≠ i → b = i → (stl L i (.obj D o) a).blk = some k → (stl L i (.obj D o) b).blk = some k → False := fun a b h1 h2 ha hb' => by
      subst h2
      rw [yaG _ _ h1] at ha
      rw [yaT] at hb'
      cases hb'
      exact (h.g D hD).2.2 a ha
    by_cases e1 : a = i
    · by_cases e2 : b = i
      · omega
      · exact (key b a e2 e1 hb' ha).elim
    · by_cases e2 : b = i
      · exact (key a b e1 e2 ha hb').elim
      · rw [yaG _ _ e1] at ha; rw [yaG _ _ e2] at hb'; exact h.nd _ _ k ha hb'
  · by_cases e : j = i
    · subst e; rw [yaT] at hk; cases hk; exact .inr rfl
    · rw [yaG _ _ e] at hk; exact .inl ⟨j, hk⟩
theorem Two.mark {w0 W : World} {S O G : BS} {LL : List Res} (h : Two w0 S O G W (rl LL)) {D : Nat} (hD : G D) (hd : W.heap[D]? = some (.deferred (some []))) : Sep w0 S O W (rl (LL ++ [dfr D])) := by
  obtain ⟨h1, h2, h3, h4⟩ := h.take (ycS LL) hD hd
  rw [yg4]
  refine ⟨h.pure, h.lt, fun j => (h1 j).sub fun k _ hk => h2 k (hk.elim (fun q => .inl (.inl q)) .inr), fun j k hk => ?_, h3⟩
  rcases h4 j k hk with ⟨i, q⟩ | q
  · exact h.bd i k q
  · rw [q]; exact (h.g D hD).2.1
theorem Two.open_ {w0 W : World} {S O G : BS} {LL : List Res} (h : Two w0 S O G W (rl LL)) {l : Nat} {o : Obj} (hG : G l) (hl : W.heap[l]? = some o) : Sep W (fun k => OwnB (rl LL) k ∨ k = l) (fun k => O k ∨ (G k ∧ k ≠ l)) W (rl (LL ++ [.obj l o])) := by
  obtain ⟨h1, h2, h3, h4⟩ := h.take (ycS LL) hG hl
  rw [yg4]
  have hr := h.round
  refine ⟨Keeps.refl _ _, fun k hk => ?_, fun j => (h1 j).sub fun k _ hk => h2 k hk, fun j k hk => .inr (h4 j k hk), h3⟩
  rcases hk with q | q
  · have := hr.lt k (.inl q)
    refine ⟨this.1, fun h5 => h5.elim this.2 fun e => ?_⟩
    subst e
    rcases (h.g k hG).2.1 with r | r
    · have := (h.lt k q).1; omega
    · exact (h.lt k q).2 r
  · have := hr.lt k (.inr q.1)
    exact ⟨this.1, fun h5 => h5.elim this.2 q.2⟩
theorem Sep.flip {w0 w w' : World} {S O : BS} {L : Hold} (h : Sep w0 S O w L) (i : Nat) {l : Nat} {o : Obj} (hi : L i = .obj l o) (o' : Obj) (hw : w' = w.putObj l o') : Sep w0 S O w' (stl L i (.obj l o')) := by
  have hl : w.heap[l]? = some o := by have := h.ok i; rw [hi] at this; exact this.2
  subst hw
  exact h.upd i _ (T := fun k => k = l) (yc8 _ _ _) (fun k _ e => by rw [hi, e]; rfl) (fun k hk => by cases hk; rw [hi]; exact .inl rfl) ⟨Nat.zero_le _, World.putObj_heap_same (Array.getElem?_eq_some_iff.1 hl).1⟩
theorem Two.close {w0 W W' : World} {S O G : BS} {LL LL' : List Res} (h : Two w0 S O G W (rl LL)) {l : Nat} {busy : Obj} (hG : G l)
    (hS : Sep W (fun k => OwnB (rl LL) k ∨ k = l) (fun k => O k ∨ (G k ∧ k ≠ l)) W' (rl (LL' ++ [.obj l busy]))) : Two w0 S O G W' (rl LL') ∧ RL1 l busy (Bl O (rl LL)) W (Bl O (rl LL')) W' := by
  rw [yg4] at hS
  have ho : ∀ i, i ≠ LL'.length → stl (rl LL') LL'.length (.obj l busy) i = rl LL' i := fun i hi => yaG _ _ hi
  have hne : ∀ i k, (rl LL' i).blk = some k → i ≠ LL'.length := fun i k hk e => by rw [e, ycS] at hk; cases hk
  have hbl : ∀ k, Bl (fun k => O k ∨ G k) (rl LL') k → Bl (fun k => O k ∨ (G k ∧ k ≠ l)) (stl (rl LL') LL'.length (.obj l busy)) k := by
    rintro k ((q | q) | ⟨j, q⟩)
    · exact .inl (.inl q)
    · by_cases e : k = l
      · exact .inr ⟨LL'.length, by rw [yaT, e]; rfl⟩
      · exact .inl (.inr ⟨q, e⟩)
    · exact .inr ⟨j, by rw [ho j (hne j k q)]; exact q⟩
  have hnl : ∀ i k, (rl LL' i).blk = some k → k ≠ l := fun i k hk e => by
    subst e
    have := hS.nd i LL'.length k (by rw [ho i (hne i k hk)]; exact hk) (by rw [yaT]; rfl)
    exact hne i k hk this
  have hbd : ∀ i k, (rl LL' i).blk = some k → OwnB (rl LL) k ∨ W.heap.size ≤ k := fun i k hk => by
    rcases hS.bd i k (by rw [ho i (hne i k hk)]; exact hk) with q | q | q
    · exact .inr q
    · exact .inl q
    · exact absurd q (hnl i k hk)
  have hok : ∀ i, (rl LL' i).ok 0 (Bl (fun k => O k ∨ G k) (rl LL')) W' := fun i => by
    by_cases e : i = LL'.length
    · rw [e, ycS]; trivial
    · have := hS.ok i
      rw [ho i e] at this
      exact this.sub fun k _ hk => hbl k hk
  have hat : W'.heap[l]? = some busy := by have := hS.ok LL'.length; rw [yaT] at this; exact this.2
  refine ⟨⟨h.pure.then hS.pure (fun k hk q => ?_), h.lt, fun k hk => ⟨Nat.lt_of_lt_of_le (h.g k hk).1 hS.pure.size, (h.g k hk).2.1, fun i hi => ?_⟩, hok, fun i k hk => ?_, fun i j k hi hj => hS.nd i j k (by rw [ho i (hne i k hi)]; exact hi) (by rw [ho j (hne j k hj)]; exact hj)⟩, ⟨hS.pure.mono fun k _ q => q.elim (fun q => .inl (.inr q)) .inr, fun k hk => ?_, fun k hk => ?_, hat⟩⟩
  · rcases q with ⟨i, q⟩ | q
    · exact (h.bd i k q).elim (fun r => by omega) id
    · rw [q] at hk ⊢; exact (h.g l hG).2.1.elim (fun r => by omega) id
  · rcases hbd i k hi with ⟨j, q⟩ | q
    · exact (h.g k hk).2.2 j q
    · have := (h.g k hk).1; omega
  · rcases hbd i k hk with ⟨j, q⟩ | q
    · exact h.bd j k q
    · exact .inl (Nat.le_trans h.pure.size q)
  · rcases hk with q | ⟨i, q⟩
    · exact .inl (.inl q)
    · rcases hbd i k q with r | r
      · exact .inl (.inr r)
      · exact .inr r
  · rcases hk with q | ⟨i, q⟩
    · exact Nat.lt_of_lt_of_le (h.lt k q).1 (Nat.le_trans h.pure.size hS.pure.size)
    · exact ((hok i).lt q).2
def rndS {α : Type} (l : Nat) (busy : Obj) (W : World) (S O : BS) (V : List α → List Res → Prop) (Vx : Option Nat → List α → List Res → Prop) (xs : List α) : Exit → Act → World → Prop
  | .normal, _, W' => ∃ LL, V xs LL ∧ Sep W S O W' (rl (LL ++ [.obj l busy]))
  | .ret, _, W' => ∃ LL, Vx none xs LL ∧ Sep W S O W' (rl (LL ++ [.obj l busy]))
  | .exit id, _, W' => ∃ LL, Vx (some id) xs LL ∧ Sep W S O W' (rl (LL ++ [.obj l busy]))
  | _, _, _ => False
theorem wt_iterS {P : Program} {N : Nat} {Q : Exit → Act → World → Prop} {E : Env} {ds : List Deferred} {w0 w : World} {S O : BS} {L : Hold} {t : List Item} {fo : Operand} {ps : Array Tmp} {assign body : Code} {gf : FuncId} {lb : Array Value}
    (hS : Sep w0 S O w L) (js gs : List Nat) (hj : js.Nodup) (hg : gs.Nodup) (hf : allJ (fun j => (j ∉ js) ∨ (L j).blk = none) gs)
    (hr : evE E fo = .func (.func gf) #[] lb) (he : Enters P gf) {α : Type} {val : α → Array Value} {pass : α → FP} {Pr R : List α → Prop} (hps : ∀ x, (val x).size = ps.size) (hpN : ps.toList.all (fun p => Nat.blt p N) = true)
    (V : List α → List Res → Prop) (Vx : Option Nat → List α → List Res → Prop) (h0 : V [] (js.map L))
    (hgen : ∀ T G, Sep w G T w (rl (gs.map L)) → ykB P gf lb val pass Pr R T G w)
    (hround : ∀ (l : Nat) (rdy busy : Obj) (S1 O1 : BS) (pre : List α) (x : α) (W : World) (LL : List Res), V pre LL → Pr (pre ++ [x]) → (pass x).P (Bl O1 (rl (LL ++ [.obj l rdy]))) W → Sep W S1 O1 W (rl (LL ++ [.obj l rdy])) →
      WT (Fence.wide.inRound l) 1 P N [.code assign] (fun e a1 W1 => e = .normal ∧ ∃ E1 L1, Rep N E1 [] a1 ∧ Sep W S1 O1 W1 L1 ∧ (∃ i, L1 i = .obj l rdy) ∧ ∀ W2, W2 = W1.putObj l busy → WT (Fence.wide.inRound l) 1 P N [.code body] (rndS l busy W S1 O1 V Vx (pre ++ [x])) E1 [] W2) (setE E (ps.toList.zip (val x).toList)) [] W)
    (hdone : ∀ (D : Nat) (xs : List α) (W : World) (LL : List Res), R xs → V xs LL → Sep w0 S O W (rl (LL ++ [dfr D])) → WT Fence.wide 3 P N t Q E (mark D :: ds) W)
    (hstop : ∀ (D : Nat) (c : Option Nat) (xs : List α) (W : World) (LL : List Res), Vx c xs LL → Sep w0 S O W (rl (LL ++ [dfr D])) → JumpTo P N t Q E (mark D :: ds) W c) :
    WT Fence.wide 3 P N (.code (.rangeFunc fo ps assign body) :: t) Q E ds w := by
  obtain ⟨hT, hG⟩ := hS.give js gs hj hg hf
  refine wt_iter hr he hps hpN (Bl O (rl (js.map L))) (OwnB (rl (gs.map L))) (IV w0 S O V) (fun c => IV w0 S O (Vx c)) (IV.gen _ _ _ _) (IV.two _ _ _ _) (fun c => IV.gen _ _ _ _) (fun c => IV.two _ _ _ _) ⟨_, rfl, hT, h0⟩ (hgen _ _ hG) ?_ ?_ ?_
  · rintro l T G pre x W rdy busy ⟨LL, rfl, h, hV⟩ hPr hp hGl hl
    have hb := hround l rdy busy (fun k => OwnB (rl LL) k ∨ k = l) (fun k => O k ∨ (G k ∧ k ≠ l)) pre x W LL hV hPr ((pass x).sub hp fun k _ hk => by
      rw [yg4] at hk
      rcases (h.take (ycS LL) hGl hl).2.1 k hk with (q | q) | q
      · exact .inl (.inl q)
      · exact .inr q
      · exact .inl (.inr q)) (h.open_ hGl hl)
    intro a ra b k cs h1 h2 h3
    obtain ⟨e, a', w', ⟨rfl, E1, L1, r1, s1, ⟨i, hi⟩, hq⟩, harr⟩ := hb a ra b k cs h1 h2 h3
    refine ⟨.normal, a', w', ⟨rfl, E1, r1, by have := s1.ok i; rw [hi] at this; exact this.2, fun W2 hW2 => ?_⟩, harr⟩
    intro a2 ra2 b2 k2 cs2 g1 g2 g3
    obtain ⟨e, a3, w3, hq, harr3⟩ := hq W2 hW2 a2 ra2 b2 k2 cs2 g1 g2 g3
    refine ⟨e, a3, w3, ?_, harr3⟩
    cases e with
    | normal => obtain ⟨L2, v2, s2⟩ := hq; obtain ⟨t2, r2⟩ := h.close hGl s2; exact ⟨_, r2, L2, rfl, t2, v2⟩
    | ret => obtain ⟨L2, v2, s2⟩ := hq; obtain ⟨t2, r2⟩ := h.close hGl s2; exact ⟨_, r2, L2, rfl, t2, v2⟩
    | exit id => obtain ⟨L2, v2, s2⟩ := hq; obtain ⟨t2, r2⟩ := h.close hGl s2; exact ⟨_, r2, L2, rfl, t2, v2⟩
    | goto t => exact hq.elim
    | panic ch => exact hq.elim
    | outgrown => exact hq.elim
  · rintro D T G xs W hD hTD hGD hR ⟨L', rfl, h, hV⟩ hd
    exact hdone D xs W L' hR hV (h.mark hGD hd)
  · rintro D T G c xs W hD hTD hGD ⟨L', rfl, h, hV⟩ hd
    exact hstop D c xs W L' hV (h.mark hGD hd)
section
variable {P : Program} {l : Nat} {α : Type} {val : α → Array Value} {pass : α → FP} {Pr : List α → Prop} {J Jx K : BS → BS → List α → World → Prop}
theorem Sep.yielded {wb w W' : World} {G T T' : BS} {L : Hold} (h : Sep wb G T w L) (hr : RK T w T' W') : Sep W' (OwnB L) T' W' L := by
  have hlt : ∀ i k, (L i).blk = some k → k < w.heap.size := fun i k hk => ((h.ok i).lt hk).2
  have hnT : ∀ i k, (L i).blk = some k → ¬ T k := fun i k hk hT => by
    rcases h.bd i k hk with r | r
    · have := (h.lt k hT).1; omega
    · exact (h.lt k hT).2 r
  refine ⟨Keeps.refl _ _, fun k hk => ⟨hr.lt k hk, fun ⟨i, hi⟩ => ?_⟩, fun i => ?_, fun i k hk => .inr ⟨i, hk⟩, h.nd⟩
  · rcases hr.sub k hk with q | q
    · exact hnT i k hi q
    · have := hlt i k hi; omega
  · refine (h.ok i).keep hr.keeps (fun k hk => hnT i k hk) (fun k _ hk => .inl hk) fun k hk hO => ?_
    rcases hO with q | q
    · rcases hr.sub k q with r | r
      · exact .inl r
      · omega
    · exact .inr q
theorem gen_yield (hs : Sess P l val pass Pr J Jx) {T G : BS} {pre : List α} {x : α} {wb w : World} {L : Hold} (hJ : J T G pre wb) (hS : Sep wb G T w L) (hPr : Pr (pre ++ [x])) (hp : (pass x).P (Bl T L) w)
    {Rr : Ending → World → Prop} (h1 : ∀ T' W', J T' (OwnB L) (pre ++ [x]) W' → Sep W' (OwnB L) T' W' L → Rr (.returned (.bool true)) W') (h2 : ∀ T' W', Jx T' (OwnB L) (pre ++ [x]) W' → Sep W' (OwnB L) T' W' L → Rr (.returned (.bool false)) W') :
    YieldAt Fence.wide 1 P l (val x) w Rr := by
  have hJ2 : J T (OwnB L) pre w := hs.gen hJ hS.pure (fun k ⟨i, hi⟩ => (hS.bd i k hi).elim (fun q => .inr (by have := hS.pure.size; omega)) .inl) (fun k ⟨i, hi⟩ => ((hS.ok i).lt hi).2)
  obtain ⟨fn, tmps, assign, body, hy, hR⟩ := hs.yld hJ2 hPr hp
  refine ⟨fn, tmps, assign, body, hy, hR.mono ?_⟩
  rintro e W' ⟨T', hr, (⟨rfl, hj⟩ | ⟨rfl, hj⟩)⟩
  · exact h1 T' W' hj (hS.yielded hr)
  · exact h2 T' W' hj (hS.yielded hr)
theorem gen_end (hs : Sess P l val pass Pr J Jx) {T G : BS} {pre : List α} {wb w : World} {L : Hold} {R : List α → Prop} (hJ : J T G pre wb) (hS : Sep wb G T w L) (hR : R pre) :
    (∃ xs T G, R xs ∧ J T G xs w) ∨ ∃ pre T G, Jx T G pre w :=
  .inl ⟨pre, T, OwnB L, hR, hs.gen hJ hS.pure (fun k ⟨i, hi⟩ => (hS.bd i k hi).elim (fun q => .inr (by have := hS.pure.size; omega)) .inl) (fun k ⟨i, hi⟩ => ((hS.ok i).lt hi).2)⟩
theorem gen_endx (hs : Sess P l val pass Pr J Jx) {T G : BS} {pre : List α} {wb w : World} {L : Hold} {R : List α → Prop} (hJ : Jx T G pre wb) (hS : Sep wb G T w L) :
    (∃ xs T G, R xs ∧ J T G xs w) ∨ ∃ pre T G, Jx T G pre w :=
  .inr ⟨pre, T, OwnB L, hs.genx hJ hS.pure (fun k ⟨i, hi⟩ => (hS.bd i k hi).elim (fun q => .inr (by have := hS.pure.size; omega)) .inl) (fun k ⟨i, hi⟩ => ((hS.ok i).lt hi).2)⟩
end
theorem gen_start {P : Program} {l : Nat} {α : Type} {val : α → Array Value} {pass : α → FP} {Pr : List α → Prop} {J Jx : BS → BS → List α → World → Prop} {T T1 G : BS} {w w1 : World} {L : Hold}
    (h : Sep w G T w L) (hs : Sess P l val pass Pr J Jx) (hJ : J T1 G [] w1) (hp : Pure w w1) (hT : ∀ k, T1 k → T k ∨ w.heap.size ≤ k) : ∃ G1, J T1 G1 [] w1 ∧ Sep w1 G1 T1 w1 L := by
  have hS := h.yielded (T' := T1) ⟨hp.mono fun k _ q => q.elim, hT, fun k hk => ((hs.two hJ).1 k hk).2⟩
  refine ⟨OwnB L, hs.gen hJ (Keeps.refl _ _) (fun k ⟨i, hi⟩ => ?_) (fun k ⟨i, hi⟩ => ((hS.ok i).lt hi).2), hS⟩
  rcases h.bd i k hi with q | q
  · have := ((h.ok i).lt hi).2; omega
  · exact .inl q
theorem yjY {P : Program} {f : FuncId} {fn : Func} {c : Code} {args : Array Value} {l : List Value} {w : World} {R : Ending → World → Prop} {N : Nat} (hf : P.funcs[f]? = some fn) (hb : fn.body = some c) (hN : fn.ntmps = N) (hl : l.length ≤ N) (ha : args = l.toArray)
    (h : WT Fence.wide 2 P N [.code c] (bodyPost P fn R) (lenv l) [] w) : CallsIn Fence.wide 2 P f args w R := by
  subst ha
  refine callsIn_of_wp hf hb trivial (WTa.code (h _ ⟨?_, lenv_eq l _, rfl⟩)) rfl
  simp
  omega
def FP.tt : FP := ⟨fun _ _ => True, fun h _ => h, fun h _ => h⟩
theorem yfD {F : Fence} {n : Nat} {P : Program} {fn : Func} {tmps : Array Value} {R : Ending → World → Prop} : ∀ (rs : List Nat) (W : World), rs.Nodup → (∀ r ∈ rs, W.heap[r]? = some (Obj.deferred (some []))) →
    (∀ W' : World, Keeps (fun k => k ∈ rs) W W' → LeavesIn F n P fn tmps R [] .returning W') → LeavesInM F n P fn tmps R (rs.map mark) .returning W := by
  intro rs
  induction rs with
  | nil => intro W _ _ h; exact h W (Keeps.refl _ _)
  | cons r rs ih =>
    intro W hn hd h
    have hr := hd r (by simp)
    have hnr := List.nodup_cons.1 hn
    refine ⟨by simp, .inl ⟨r, _, rfl, run_takeDeferred hr, ?_⟩⟩
    refine ih (W.putObj r (.deferred none)) hnr.2 (fun q hq => ?_) fun W' hK => ?_
    · rw [World.putObj_heap_other (by rintro rfl; exact hnr.1 hq)]; exact hd q (by simp [hq])
    · exact h W' (((yc8 W r _).mono fun k _ e => by subst e; simp).trans (hK.mono fun k _ e => by simp [e]))
theorem Sep.unmark {w0 w w' : World} {S O : BS} {L : Hold} (h : Sep w0 S O w L) {rs : List Nat} (is js : List Nat) (hj : js.Nodup) (hd : ∀ i ∈ is, i ∉ js) (hm : ∀ r ∈ rs, ∃ i ∈ is, (L i).blk = some r) (hK : Keeps (fun k => k ∈ rs) w w') : Sep w0 S O w' (rl (js.map L)) := by
  have h2 := h.step (w' := w') (L' := fun j => if j ∈ is then .gone else L j) (T := fun k => k ∈ rs) hK (fun k _ hk => by obtain ⟨i, _, hi⟩ := hm k hk; exact ⟨i, hi⟩)
    (fun j k hk => by
      by_cases e : j ∈ is
      · simp only [if_pos e] at hk; cases hk
      · simp only [if_neg e] at hk; exact .inl ⟨j, hk⟩)
    (fun j => by
      by_cases e : j ∈ is
      · simp only [if_pos e]; exact .inr trivial
      · refine .inl ⟨j, by simp only [if_neg e], fun k hk hr => ?_⟩
        obtain ⟨i, hi, hb⟩ := hm k hr
        have := h.nd i j k hb hk
        subst this
        exact e hi)
    (fun a b k ha hb => by
      by_cases e1 : a ∈ is
      · simp only [if_pos e1] at ha; cases ha
      · by_cases e2 : b ∈ is
        · simp only [if_pos e2] at hb; cases hb
        · simp only [if_neg e1] at ha; simp only [if_neg e2] at hb; exact h.nd a b k ha hb)
  have h3 := h2.sel js hj
  have e : js.map (fun j => if j ∈ is then Res.gone else L j) = js.map L := List.map_congr_left fun j hjj => by
    rw [if_neg fun q => hd j q hjj]
  rw [e] at h3
  exact h3
section
variable {P : Program} {fn : Func} {N : Nat} {t : List Item} {R : Ending → World → Prop} {E : Env} {w : World} {rs : List Nat} {a : Act}
theorem wt_retn (hn : rs.Nodup) (hd : ∀ r ∈ rs, w.heap[r]? = some (Obj.deferred (some []))) (h : ∀ a, Rep N E (rs.map mark) a → ∀ W', Keeps (fun k => k ∈ rs) w W' → LeavesIn Fence.wide 3 P fn a.tmps R [] .returning W') : WT Fence.wide 3 P N (.code .ret :: t) (bodyPostM Fence.wide 3 P fn R) E (rs.map mark) w :=
  yfJ fun a r => by
    have hd' := r.defers
    show LeavesInM _ _ _ _ _ _ a.defers _ _
    rw [hd']
    exact yfD rs w hn hd fun W' hk => h a r W' hk
theorem wt_retk2 {t1 t2 : Tmp} {v1 v2 : Value} (hn : rs.Nodup) (hd : ∀ r ∈ rs, w.heap[r]? = some (Obj.deferred (some []))) (hr : fn.results = #[.tmp t1, .tmp t2]) (h1 : E t1 = v1) (h2 : E t2 = v2) (h : ∀ w', Keeps (fun k => k ∈ rs) w w' → R (.returned (.tuple #[v1, v2])) w') : WT Fence.wide 3 P N (.code .ret :: t) (bodyPostM Fence.wide 3 P fn R) E (rs.map mark) w :=
  wt_retn hn hd fun a r W' hk => ⟨_, results_tmp2 hr _ _ _, by rw [r.get, r.get, h1, h2]; exact h W' hk⟩
end
theorem Sep.marked {w0 w : World} {S O : BS} {L : Hold} (h : Sep w0 S O w L) (i : Nat) {D : Nat} (hi : L i = dfr D) : ∀ r ∈ [D], w.heap[r]? = some (Obj.deferred (some [])) := fun r hr => by
  rw [List.mem_singleton] at hr
  subst hr
  have := h.ok i
  rw [hi] at this
  exact this.2
theorem ykd {L : Hold} (i : Nat) {D : Nat} (hi : L i = dfr D) : ∀ r ∈ [D], ∃ j ∈ [i], (L j).blk = some r := fun r hr => by
  rw [List.mem_singleton] at hr
  subst hr
  exact ⟨i, by simp, by rw [hi]; rfl⟩
section
variable {P : Program} {fn : Func} {N : Nat} {t : List Item} {R : Ending → World → Prop} {E : Env} {w : World} {rs : List Nat}
end
end Go.Proofs.YtncilechkclmbaaGreat

/- Maps of one's own, keyed by arrays of numbers: what they hold as a list of pairs. No program in sight. -/
namespace Go.Proofs.YtncilechkclmbaaGreat
open Go Go.RowKit Go.Shelf Go.Proofs.Tryz
set_option linter.unusedVariables false
set_option linter.unusedSimpArgs false
def kE (l : List Int) : Value := .agg (l.map (Value.int .i64)).toArray
theorem kE_inj {a b : List Int} (h : kE a = kE b) : a = b := by
  unfold kE at h
  simp only [Value.agg.injEq] at h
  have h2 : a.map (Value.int .i64) = b.map (Value.int .i64) := by simpa using congrArg Array.toList h
  exact (List.map_inj_right (fun x y hxy => by simpa using hxy)).1 h2
section
variable {τ : Type}
def mEs (vE : τ → Value) : Nat → List (List Int × τ) → List MapEntry
  | _, [] => []
  | i, p :: t => ⟨kE p.1, vE p.2, i⟩ :: mEs vE (i + 1) t
def mapO (vE : τ → Value) (m : List (List Int × τ)) : Obj := .map (mEs vE 0 m).toArray m.length
def mget : List (List Int × τ) → List Int → Option τ
  | [], _ => none
  | p :: t, k => if p.1 = k then some p.2 else mget t k
def mput : List (List Int × τ) → List Int → τ → List (List Int × τ)
  | [], k, v => [(k, v)]
  | p :: t, k, v => if p.1 = k then (k, v) :: t else p :: mput t k v
def yfx (n : Nat) (k : List Int) : Prop := k.length = n ∧ ∀ x ∈ k, In64 x
def KOk (n : Nat) (m : List (List Int × τ)) : Prop := m.Pairwise (fun p q => p.1 ≠ q.1) ∧ ∀ p ∈ m, yfx n p.1
theorem KOk.nil (n : Nat) : KOk n ([] : List (List Int × τ)) := ⟨.nil, fun p h => by simp at h⟩
theorem mput_mem {m : List (List Int × τ)} {k : List Int} {v : τ} {p : List Int × τ} (h : p ∈ mput m k v) : p.1 = k ∨ p ∈ m := by
  induction m with
  | nil => simp [mput] at h; left; rw [h]
  | cons a t ih =>
    unfold mput at h
    split at h
    · rcases List.mem_cons.1 h with h | h
      · left; rw [h]
      · right; exact List.mem_cons_of_mem _ h
    · rcases List.mem_cons.1 h with h | h
      · right; rw [h]; exact List.mem_cons_self
      · rcases ih h with h | h
        · exact .inl h
        · exact .inr (List.mem_cons_of_mem _ h)
theorem KOk.put {n : Nat} {m : List (List Int × τ)} (h : KOk n m) {k : List Int} (hk : yfx n k) (v : τ) : KOk n (mput m k v) := by
  refine ⟨?_, fun p hp => ?_⟩
  · obtain ⟨h1, -⟩ := h
    induction m with
    | nil => exact .cons (fun _ h => by simp at h) .nil
    | cons a t ih =>
      unfold mput
      rw [List.pairwise_cons] at h1
      split
      · rename_i e
        rw [List.pairwise_cons]
        exact ⟨fun q hq => by have := h1.1 q hq; rw [e] at this; exact this, h1.2⟩
      · rename_i e
        rw [List.pairwise_cons]
        refine ⟨fun q hq => ?_, ih h1.2⟩
        rcases mput_mem hq with h | h
        · rw [h]; exact e
        · exact h1.1 q h
  · rcases mput_mem hp with h1 | h1
    · rw [h1]; exact hk
    · exact h.2 p h1
theorem mget_put {m : List (List Int × τ)} {k k' : List Int} {v : τ} : mget (mput m k v) k' = if k = k' then some v else mget m k' := by
  induction m with
  | nil => rfl
  | cons a t ih =>
    unfold mput
    by_cases e : a.1 = k
    · rw [if_pos e]
      show (if k = k' then some v else mget t k') = _
      by_cases e2 : k = k'
      · rw [if_pos e2, if_pos e2]
      · rw [if_neg e2, if_neg e2]
        show _ = if a.1 = k' then some a.2 else mget t k'
        rw [if_neg (by rw [e]; exact e2)]
    · rw [if_neg e]
      show (if a.1 = k' then some a.2 else mget (mput t k v) k') = _
      rw [ih]
      by_cases e2 : k = k'
      · subst e2; simp [e]
      · rw [if_neg e2, if_neg e2]; rfl
theorem mget_mem {m : List (List Int × τ)} {k : List Int} {v : τ} (h : mget m k = some v) : (k, v) ∈ m := by
  induction m with
  | nil => cases h
  | cons a t ih =>
    unfold mget at h
    split at h
    · rename_i e
      cases h
      rw [← e]; exact List.mem_cons_self
    · exact List.mem_cons_of_mem _ (ih h)
theorem mEs_len (vE : τ → Value) : ∀ (m : List (List Int × τ)) (i : Nat), (mEs vE i m).length = m.length
  | [], _ => rfl
  | p :: t, i => by rw [mEs, List.length_cons, List.length_cons, mEs_len vE t]
theorem yf1 (vE : τ → Value) : ∀ (m : List (List Int × τ)) (i j : Nat), (mEs vE i m)[j]? = m[j]?.map fun p => ⟨kE p.1, vE p.2, i + j⟩
  | [], _, _ => by simp [mEs]
  | p :: t, i, 0 => by simp [mEs]
  | p :: t, i, j + 1 => by
    rw [mEs, List.getElem?_cons_succ, List.getElem?_cons_succ, yf1 vE t (i + 1) j]
    congr 1
    funext p
    rw [Nat.add_assoc, Nat.add_comm 1 j]
theorem mget_none {m : List (List Int × τ)} {k : List Int} (h : ∀ p ∈ m, p.1 ≠ k) : mget m k = none := by
  induction m with
  | nil => rfl
  | cons a t ih =>
    unfold mget
    rw [if_neg (h a List.mem_cons_self)]
    exact ih fun p hp => h p (List.mem_cons_of_mem _ hp)
theorem mget_at {m : List (List Int × τ)} (hd : m.Pairwise (fun p q => p.1 ≠ q.1)) {k : List Int} {v : τ} {j : Nat} (h : m[j]? = some (k, v)) : mget m k = some v := by
  induction m generalizing j with
  | nil => simp at h
  | cons a t ih =>
    rw [List.pairwise_cons] at hd
    unfold mget
    cases j with
    | zero => simp at h; subst h; rw [if_pos rfl]
    | succ j =>
      rw [List.getElem?_cons_succ] at h
      rw [if_neg (hd.1 _ (List.mem_of_getElem? h))]
      exact ih hd.2 h
theorem mput_at {m : List (List Int × τ)} (hd : m.Pairwise (fun p q => p.1 ≠ q.1)) {k : List Int} {v v' : τ} {j : Nat} (h : m[j]? = some (k, v)) : mput m k v' = m.set j (k, v') := by
  induction m generalizing j with
  | nil => simp at h
  | cons a t ih =>
    rw [List.pairwise_cons] at hd
    unfold mput
    cases j with
    | zero => simp at h; subst h; rw [if_pos rfl]; rfl
    | succ j =>
      rw [List.getElem?_cons_succ] at h
      rw [if_neg (hd.1 _ (List.mem_of_getElem? h)), List.set_cons_succ, ih hd.2 h]
theorem mput_none {m : List (List Int × τ)} {k : List Int} {v : τ} (h : ∀ p ∈ m, p.1 ≠ k) : mput m k v = m ++ [(k, v)] := by
  induction m with
  | nil => rfl
  | cons a t ih =>
    unfold mput
    rw [if_neg (h a List.mem_cons_self), ih fun p hp => h p (List.mem_cons_of_mem _ hp)]
    rfl
end
section
variable {τ : Type} {P : Program} {w : World} {k e mt : TypeId} {n : Nat} {vE : τ → Value} {m : List (List Int × τ)} {b : Nat} {key : List Int}
structure KeyT (P : Program) (k : TypeId) (n : Nat) : Prop where
  law : Maps.Keyed P k
  of : ∀ l, yfx n l → ∃ t, keyOf P k (kE l) = some t
theorem find_m (T : KeyT P k n) (hm : KOk n m) (hk : yfx n key) :
    ((Instr.findKey k (kE key) (mEs vE 0 m)).run P w = .ok none w ∧ ∀ p ∈ m, p.1 ≠ key) ∨ ∃ j v, (Instr.findKey k (kE key) (mEs vE 0 m)).run P w = .ok (some (j, vE v)) w ∧ m[j]? = some (key, v) := by
  obtain ⟨t, ht⟩ := T.of key hk
  have hes : ∀ x ∈ mEs vE 0 m, ∃ p ∈ m, x.key = kE p.1 := fun x hx => by
    obtain ⟨j, hj⟩ := List.getElem?_of_mem hx
    rw [yf1] at hj
    cases hq : m[j]? with
    | none => rw [hq] at hj; cases hj
    | some p => rw [hq] at hj; cases hj; exact ⟨p, List.mem_of_getElem? hq, rfl⟩
  rcases T.law.find w ht (mEs vE 0 m) (fun x hx => by obtain ⟨p, hp, e⟩ := hes x hx; rw [e]; exact T.of _ (hm.2 p hp)) with ⟨h1, h2⟩ | ⟨j, x, h1, h2, h3⟩
  · refine .inl ⟨h1, fun p hp e => ?_⟩
    obtain ⟨j, hj⟩ := List.getElem?_of_mem hp
    have : (mEs vE 0 m)[j]? = some ⟨kE p.1, vE p.2, 0 + j⟩ := by rw [yf1, hj]; rfl
    exact h2 _ (List.mem_of_getElem? this) (by rw [e])
  · rw [yf1] at h2
    cases hq : m[j]? with
    | none => rw [hq] at h2; cases h2
    | some p =>
      rw [hq] at h2
      cases h2
      have e := kE_inj h3
      refine .inr ⟨j, p.2, h1, ?_⟩
      rw [← e]; exact hq
theorem run_mget (T : KeyT P k n) (hm : KOk n m) (hk : yfx n key) (hu : P.underlying mt = some (.map k e)) {x0 : τ} {by_ : Nat} (hz : (P.info? e).map (fun i => (i.zero, i.size, i.bytes)) = some (some (vE x0), 1, by_)) (hb : w.heap[b]? = some (mapO vE m)) :
    (Instr.lookup mt (.map (some b)) (kE key) true).run P w = .ok (.tuple #[vE ((mget m key).getD x0), .bool (mget m key).isSome]) w := by
  obtain ⟨t, ht⟩ := T.of key hk
  rcases find_m (vE := vE) (w := w) T hm hk with ⟨h1, h2⟩ | ⟨j, v, h1, h2⟩
  · rw [mget_none h2]
    simp [Instr.lookup, run_underlying hu, MapKept.run_getObj_map hb, T.law.check w _ ht, h1, ycg hz, Result.andThen]
  · rw [mget_at hm.1 h2]
    simp [Instr.lookup, run_underlying hu, MapKept.run_getObj_map hb, T.law.check w _ ht, h1, Result.andThen]
theorem run_mget1 (T : KeyT P k n) (hm : KOk n m) (hk : yfx n key) (hu : P.underlying mt = some (.map k e)) {x0 : τ} {by_ : Nat} (hz : (P.info? e).map (fun i => (i.zero, i.size, i.bytes)) = some (some (vE x0), 1, by_)) (hb : w.heap[b]? = some (mapO vE m)) :
    (Instr.lookup mt (.map (some b)) (kE key) false).run P w = .ok (vE ((mget m key).getD x0)) w := by
  obtain ⟨t, ht⟩ := T.of key hk
  rcases find_m (vE := vE) (w := w) T hm hk with ⟨h1, h2⟩ | ⟨j, v, h1, h2⟩
  · rw [mget_none h2]
    simp [Instr.lookup, run_underlying hu, MapKept.run_getObj_map hb, T.law.check w _ ht, h1, ycg hz, Result.andThen]
  · rw [mget_at hm.1 h2]
    simp [Instr.lookup, run_underlying hu, MapKept.run_getObj_map hb, T.law.check w _ ht, h1, Result.andThen]
theorem mEs_set (vE : τ → Value) {m : List (List Int × τ)} {j : Nat} {v v' : τ} (h : m[j]? = some (key, v)) : (mEs vE 0 m).toArray.modify j (fun x => { x with key := kE key, val := vE v' }) = (mEs vE 0 (m.set j (key, v'))).toArray := by
  apply Array.ext_getElem?
  intro i
  rw [Array.getElem?_modify]
  simp only [List.getElem?_toArray, yf1, List.getElem?_set]
  by_cases e : j = i
  · subst e
    rw [if_pos rfl, if_pos rfl, h, if_pos (List.getElem?_eq_some_iff.1 h).1]
    rfl
  · rw [if_neg e, if_neg e]
theorem mEs_push (vE : τ → Value) (m : List (List Int × τ)) (v : τ) : (mEs vE 0 m).toArray.push ⟨kE key, vE v, m.length⟩ = (mEs vE 0 (m ++ [(key, v)])).toArray := by
  have H : ∀ (m : List (List Int × τ)) (i : Nat), mEs vE i (m ++ [(key, v)]) = mEs vE i m ++ [⟨kE key, vE v, i + m.length⟩] := by
    intro m
    induction m with
    | nil => intro i; rfl
    | cons a t ih => intro i; simp only [List.cons_append, mEs, ih, List.length_cons]; rw [Nat.add_assoc, Nat.add_comm 1]
  rw [H]; simp
theorem run_mput (T : KeyT P k n) (hm : KOk n m) (hk : yfx n key) (hu : P.underlying mt = some (.map k e)) (hb : w.heap[b]? = some (mapO vE m)) (v : τ) :
    ∃ w', (Instr.mapUpdate mt (.map (some b)) (kE key) (vE v)).run P w = .ok () w' ∧ w'.heap[b]? = some (mapO vE (mput m key v)) ∧ Keeps (fun j => j = b) w w' := by
  obtain ⟨t, ht⟩ := T.of key hk
  have hKp : ∀ o : Obj, Keeps (fun j => j = b) w { w with heap := w.heap.setIfInBounds b o } := fun o => ⟨rfl, rfl, rfl, by simp, fun j _ hj => (MapKept.heap_set hb).2 j hj⟩
  have hb' : w.heap[b]? = some (.map (mEs vE 0 m).toArray m.length) := hb
  rcases find_m (vE := vE) (w := w) T hm hk with ⟨h1, h2⟩ | ⟨j, v0, h1, h2⟩
  · refine ⟨{ w with heap := w.heap.setIfInBounds b (.map ((mEs vE 0 m).toArray.push ⟨kE key, vE v, m.length⟩) (m.length + 1)) }, ?_, ?_, hKp _⟩
    · simp [Instr.mapUpdate, run_underlying hu, MapKept.run_getObj_map hb', T.law.check w _ ht, h1, MapKept.run_setObj_map _ hb', Result.andThen]
    · rw [(MapKept.heap_set hb').1, mput_none h2, mEs_push]
      simp [mapO]
  · have hj : (mEs vE 0 m)[j]? = some ⟨kE key, vE v0, 0 + j⟩ := by rw [yf1, h2]; rfl
    refine ⟨{ w with heap := w.heap.setIfInBounds b (.map ((mEs vE 0 m).toArray.modify j (fun x => { x with key := kE key, val := vE v })) m.length) }, ?_, ?_, hKp _⟩
    · simp [Instr.mapUpdate, run_underlying hu, MapKept.run_getObj_map hb', T.law.check w _ ht, h1, hj, T.law.stays w ht, MapKept.run_setObj_map _ hb', Result.andThen]
    · rw [(MapKept.heap_set hb').1, mput_at hm.1 h2, mEs_set vE h2]
      simp [mapO]
end
theorem n_val {P : Program} {o : Oper} {ρ : Operand → Value} {w : World} {K : Value → World → Prop} {v : Value} (h : (execOp ρ o).run P w = .ok (.value v) w) (hk : K v w) : yaZ P o ρ w K := by
  unfold yaZ; rw [h]; exact hk
section
variable {τ : Type} {P : Program} {E : Env} {w : World} {d : Option Tmp} {x y z : Operand} {ty xt k e : TypeId} {ps : String} {af : Array Edge} {g : Option (Nat × Bool)} {K : Value → World → Prop} {n b : Nat} {vE : τ → Value} {m : List (List Int × τ)} {key : List Int}
theorem n_mkmap {o : Option Operand} (hx : o = none) (h : ∀ g' w', g' = w.heap.size → w' = w.alloc (mapO vE ([] : List (List Int × τ))) → K (.map (some g')) w') : yaZ P ⟨d, .makeMap xt o, ty, ps, af, g⟩ (evE E) w K := by
  subst hx
  unfold yaZ execOp
  simp only [Instr.makeMap, newObj, Option.map_none, Sem.run_bind, Sem.run_pure, Result.andThen, Sem.run]
  exact h _ _ rfl rfl
theorem v_mget (T : KeyT P k n) (hm : KOk n m) (hk : yfx n key) (hx : evE E x = .map (some b)) (hy : evE E y = kE key) (hu : P.underlying xt = some (.map k e)) {x0 : τ} {by_ : Nat} (hz : (P.info? e).map (fun i => (i.zero, i.size, i.bytes)) = some (some (vE x0), 1, by_)) (hb : w.heap[b]? = some (mapO vE m)) :
    (execOp (evE E) ⟨d, .lookup xt x y true, ty, ps, af, g⟩).run P w = .ok (.value (.tuple #[vE ((mget m key).getD x0), .bool (mget m key).isSome])) w := by
  have := run_mget (w := w) T hm hk hu hz hb
  unfold execOp
  simp only [hx, hy, this, Sem.run_bind, Sem.run_pure, Result.andThen]
theorem v_mget1 (T : KeyT P k n) (hm : KOk n m) (hk : yfx n key) (hx : evE E x = .map (some b)) (hy : evE E y = kE key) (hu : P.underlying xt = some (.map k e)) {x0 : τ} {by_ : Nat} (hz : (P.info? e).map (fun i => (i.zero, i.size, i.bytes)) = some (some (vE x0), 1, by_)) (hb : w.heap[b]? = some (mapO vE m)) :
    (execOp (evE E) ⟨d, .lookup xt x y false, ty, ps, af, g⟩).run P w = .ok (.value (vE ((mget m key).getD x0))) w := by
  have := run_mget1 (w := w) T hm hk hu hz hb
  unfold execOp
  simp only [hx, hy, this, Sem.run_bind, Sem.run_pure, Result.andThen]
theorem v_mlen (hx : evE E x = .map (some b)) (hu : P.underlying xt = some (.map k e)) (hb : w.heap[b]? = some (mapO vE m)) : (execOp (evE E) ⟨d, .call ⟨.builtin .len, #[x], #[xt]⟩, ty, ps, af, g⟩).run P w = .ok (.value (.int .i64 ((m.length : Nat) : Int))) w := by
  have hb' : w.heap[b]? = some (.map (mEs vE 0 m).toArray m.length) := hb
  simp [execOp, hx, resolve, invoke, builtin, Builtin.len_, go_sem, underlying, hu, goInt, MapKept.run_getObj_map hb', mEs_len]
theorem n_mput (T : KeyT P k n) (hm : KOk n m) (hk : yfx n key) {v : τ} (hx : evE E x = .map (some b)) (hy : evE E y = kE key) (hz : evE E z = vE v) (hu : P.underlying xt = some (.map k e)) (hb : w.heap[b]? = some (mapO vE m))
    (h : ∀ w', w'.heap[b]? = some (mapO vE (mput m key v)) → Keeps (fun j => j = b) w w' → K undef w') : yaZ P ⟨d, .mapUpdate xt x y z, ty, ps, af, g⟩ (evE E) w K := by
  obtain ⟨w', h1, h2, h3⟩ := run_mput T hm hk hu hb v
  unfold yaZ execOp
  simp only [hx, hy, hz, h1, Sem.run_bind, Sem.run_pure, Result.andThen]
  exact h w' h2 h3
end
section
variable {τ : Type} {w0 w w' : World} {S O : Nat → Prop} {L : Hold} {vE : τ → Value} {m : List (List Int × τ)} {b : Nat}
theorem Sep.newm (h : Sep w0 S O w L) (i : Nat) (hi : L i = .gone) {g : Nat} {o : Obj} (h1 : g = w.heap.size) (h2 : w' = w.alloc o) : Sep w0 S O w' (stl L i (.obj g o)) := by
  subst h1
  refine h.add i hi _ (w' := w') (by rw [h2]; exact (Keeps.refl _ _).alloc _) (fun k hk => by cases hk; exact Nat.le_refl _) ⟨Nat.zero_le _, ?_⟩
  rw [h2]; exact heap_alloc_new w _
theorem Sep.mp (h : Sep w0 S O w L) (i : Nat) {g : Nat} {o : Obj} (hi : L i = .obj g o) : w.heap[g]? = some o := by
  have := h.ok i; rw [hi] at this; exact this.2
theorem Sep.mst (h : Sep w0 S O w L) (i : Nat) {g : Nat} {o o' : Obj} (hi : L i = .obj g o) (h1 : w'.heap[g]? = some o') (h2 : Keeps (fun j => j = g) w w') : Sep w0 S O w' (stl L i (.obj g o')) :=
  h.upd i _ h2 (fun k _ e => by rw [hi, e]; rfl) (fun k hk => by cases hk; rw [hi]; exact .inl rfl) ⟨Nat.zero_le _, h1⟩
end
section
variable {τ : Type} {c : Cod τ} {O : Nat → Prop} {w : World} {A : Option Addr} {l cap : Nat} {xs : List τ}
theorem arr_ix (h : (FP.sl c A l cap xs).P O w) {i : Int} (hx : 0 ≤ i ∧ i < (l : Int)) : 0 ≤ i ∧ i < ((xs.length : Nat) : Int) := ⟨hx.1, by rw [← ya2 h]; exact hx.2⟩
theorem ygv {P : Program} {xt : TypeId} {zo : Option Value} {b : Nat} {xs : List Int} (hi : (P.info? xt).map (fun i => (i.zero, i.size, i.bytes)) = some (zo, l, b)) (h : (FP.sl cI A l cap xs).P O w) :
    (P.info? xt).map (fun i => (i.zero, i.size, i.bytes)) = some (zo, (xs.map (Value.int .i64)).length, b) := by rw [hi, List.length_map, ya2 h]
theorem yfG {g : Nat} {xs : List Int} (h : (FP.sl cI (some ⟨g, 0, none⟩) l cap xs).P O w) : Cells w ⟨g, 0, none⟩ 0 (xs.map (Value.int .i64)) := by
  have H : ∀ (ys : List Int) (k : Nat), (∀ j, j < ys.length → xs[k + j]? = ys[j]?) → Cells w ⟨g, 0, none⟩ k (ys.map (Value.int .i64)) := by
    intro ys
    induction ys with
    | nil => intro k _; trivial
    | cons y t ih =>
      intro k hk
      have h0 := hk 0 (by simp)
      simp only [Nat.add_zero, List.getElem?_cons_zero] at h0
      have hlt := (List.getElem?_eq_some_iff.1 h0).1
      have hc := rd_1 (f := fI .i64) h (i := (k : Int)) (x := y) ⟨by omega, by omega⟩ (fun _ => by simpa using h0) (u := .int .i64 y) rfl
      refine ⟨?_, ih (k + 1) fun j hj => ?_⟩
      · have e : ixA (some (⟨g, 0, none⟩ : Addr)) (k : Int) (fI .i64).sz = (⟨g, 0, none⟩ : Addr).add k := by
          show (⟨g, 0, none⟩ : Addr).add ((k : Int).toNat * 1) = _
          rw [Int.toNat_natCast, Nat.mul_one]
        rwa [e] at hc
      · have := hk (j + 1) (by simpa using hj)
        rw [List.getElem?_cons_succ] at this
        rw [← this]; congr 1; omega
  exact H xs 0 fun j _ => by rw [Nat.zero_add]
end
section
variable {P : Program} {E : Env} {w : World} {d : Option Tmp} {x y z : Operand} {ty xt yt : TypeId} {ps : String} {af : Array Edge} {g : Option (Nat × Bool)} {K : Value → World → Prop}
theorem ykp {p : Addr} {l : Nat} {e : TypeId} {k : IntKind} {i : Int} {zo : Option Value} {n b : Nat} (hx : evE E x = .pointer (some p)) (hy : evE E y = .int k i) (hu : P.underlying xt = some (.array l e))
    (hi : (P.info? e).map (fun i => (i.zero, i.size, i.bytes)) = some (zo, n, b)) (h : 0 ≤ i ∧ i < (l : Int)) : (execOp (evE E) ⟨d, .indexAddr xt x y, ty, ps, af, g⟩).run P w = .ok (.value (.pointer (some (ixA (some p) i n)))) w :=
  v_iaddra hx hy hu hi h
theorem ykw {gb : Nat} {l : Nat} {e : TypeId} {zo : Option Value} {n b : Nat} (hx : evE E x = .pointer (some ⟨gb, 0, none⟩)) (hu : P.underlying xt = some (.array l e))
    (hi : (P.info? e).map (fun i => (i.zero, i.size, i.bytes)) = some (zo, n, b)) : (execOp (evE E) ⟨d, .slice xt x none none none, ty, ps, af, g⟩).run P w = .ok (.value (.slice (some ⟨gb, 0, none⟩) l l)) w := by
  have e1 : (⟨gb, 0, none⟩ : Addr).add (0 * n) = ⟨gb, 0, none⟩ := by rw [Addr.add_mid]; simp
  unfold execOp
  simp only [hx, Instr.sliceAt, Instr.sureAddr, Instr.sliceBounds, Option.map_none, Sem.run_bind, Sem.run_pure, Result.andThen, run_underlying hu, ybo hi, e1, ite_self, Nat.sub_zero]
def cpy (xs ys : List Int) : List Int := ys.take xs.length ++ xs.drop ys.length
theorem cpy_length (xs ys : List Int) : (cpy xs ys).length = xs.length := by unfold cpy; simp; omega
theorem gi_cpy {xs ys : List Int} {i : Nat} (hi : i < xs.length) : gi (cpy xs ys) i = if i < ys.length then gi ys i else gi xs i := by
  have hg : ∀ (l : List Int) k, gi l k = (l[k]?).getD 0 := fun l k => by unfold gi; simp
  rw [hg, hg, hg]
  unfold cpy
  rw [List.getElem?_append, List.length_take, List.getElem?_take, List.getElem?_drop]
  by_cases h : i < ys.length
  · rw [if_pos (by omega), if_pos hi, if_pos h]
  · rw [if_neg (by omega), if_neg h]
    congr 2; omega
theorem OwnS.setN {B : Nat} {e : TypeId} {l c g : Nat} : ∀ (vs : List Value) (k : Nat) {w : World} {xs : List Value}, OwnS w B e 1 (some ⟨g, 0, none⟩) l c xs → k + vs.length ≤ xs.length → OwnS (w.setCells g k vs) B e 1 (some ⟨g, 0, none⟩) l c (xs.take k ++ vs ++ xs.drop (k + vs.length))
  | [], k, w, xs, h, hk => by
    have e : w.setCells g k [] = w := rfl
    rw [e]; simpa using h
  | v :: t, k, w, xs, h, hk => by
    simp only [List.length_cons] at hk
    have h1 := h.set1 (i := k) (by omega) v rfl
    rw [Nat.zero_add] at h1
    have h2 := OwnS.setN t (k + 1) h1 (by rw [List.length_set]; omega)
    have e1 : (xs.set k v).take (k + 1) = xs.take k ++ [v] := by
      rw [List.take_add_one, List.take_set_of_le (Nat.le_refl k), List.getElem?_set_self (by omega)]; rfl
    have e2 : (xs.set k v).drop (k + 1 + t.length) = xs.drop (k + (t.length + 1)) := by
      rw [List.drop_set_of_lt (by omega), show k + 1 + t.length = k + (t.length + 1) by omega]
    rw [e1, e2, List.append_assoc (xs.take k)] at h2
    exact h2
theorem Sep.copied {w0 w' : World} {S O : Nat → Prop} {L : Hold} (h : Sep w0 S O w L) (i : Nat) {t : TypeId} {gb l cp : Nat} {xs ys : List Int} (hi : L i = .own cI t (some ⟨gb, 0, none⟩) l cp xs) (hw : w' = w.setCells gb 0 ((ys.take l).map (Value.int .i64))) :
    Sep w0 S O w' (stl L i (.own cI t (some ⟨gb, 0, none⟩) l cp (cpy xs ys))) := by
  obtain ⟨hl, cells, ho, hE⟩ := h.own i hi
  have hcl : cells = xs.map (Value.int .i64) := by
    refine List.ext_getElem? fun j => ?_
    rw [List.getElem?_map]
    cases hq : xs[j]? with
    | none =>
      have := List.getElem?_eq_none_iff.1 hq
      rw [List.getElem?_eq_none (by rw [ho.1]; show l * 1 ≤ j; omega)]; rfl
    | some q =>
      obtain ⟨vs, hv, hc⟩ := hE j q hq
      have hv : vs = [.int .i64 q] := hv
      subst hv
      have := hc 0 _ rfl
      have e3 : j * cI.sz + 0 = j := by show j * 1 + 0 = j; omega
      rw [e3] at this
      exact this
  subst hcl
  have hn := OwnS.setN ((ys.take l).map (Value.int .i64)) 0 ho (by simp; omega)
  have ecp : (xs.map (Value.int .i64)).take 0 ++ (ys.take l).map (Value.int .i64) ++ (xs.map (Value.int .i64)).drop (0 + ((ys.take l).map (Value.int .i64)).length) = (cpy xs ys).map (Value.int .i64) := by
    have e4 : ((ys.take l).map (Value.int .i64)).length = min l ys.length := by simp
    unfold cpy
    rw [List.take_zero, List.nil_append, Nat.zero_add, e4, List.map_append, hl, ← List.map_drop]
    congr 2
    by_cases c : ys.length ≤ xs.length
    · rw [Nat.min_eq_right c]
    · rw [List.drop_eq_nil_of_le (by omega), List.drop_eq_nil_of_le (by omega)]
  rw [ecp] at hn
  have hblk : (L i).blk = some gb := by rw [hi]; rfl
  have hK : ∀ (vs : List Value) (o : Nat) {a w : World}, Keeps (fun k => k = gb) a w → Keeps (fun k => k = gb) a (w.setCells gb o vs) := by
    intro vs
    induction vs with
    | nil => intro o a w h; exact h
    | cons v t ih => intro o a w h; exact ih (o + 1) (h.setCell (p := ⟨gb, o, none⟩) (fun _ => rfl) v)
  refine h.upd i _ (T := fun k => k = gb) (by rw [hw]; exact hK _ _ (Keeps.refl _ _)) (fun k _ e => by rw [e]; exact hblk) (fun k hk => .inl (by rw [hi]; exact hk)) ⟨by rw [cpy_length]; exact hl, _, by rw [hw]; exact hn, fun j q hj => ⟨[.int .i64 q], rfl, fun u v hu => ?_⟩⟩
  have hu0 : u = 0 := by
    have := (List.getElem?_eq_some_iff.1 hu).1
    simp at this; exact this
  subst hu0
  simp at hu
  subst hu
  have e3 : j * cI.sz + 0 = j := by show j * 1 + 0 = j; omega
  rw [e3, List.getElem?_map, hj]; rfl
theorem n_cpy {w0 : World} {S O : Nat → Prop} {L : Hold} {e t : TypeId} {zo : Option Value} {b gb l cp m c' : Nat} {C : Option Addr} {xs ys : List Int} (hx : evE E x = .slice (some ⟨gb, 0, none⟩) l cp) (hy : evE E y = .slice C m c') (hu : P.underlying xt = some (.slice e)) (hi : (P.info? e).map (fun i => (i.zero, i.size, i.bytes)) = some (zo, 1, b))
    (hS : Sep w0 S O w L) (i : Nat) (hi' : L i = .own cI t (some ⟨gb, 0, none⟩) l cp xs) (hr : (FP.sl cI C m c' ys).P no w) (h0 : 0 < ys.length)
    (h : ∀ w', Sep w0 S O w' (stl L i (.own cI t (some ⟨gb, 0, none⟩) l cp (cpy xs ys))) → K (.int .i64 ((min ys.length l : Nat) : Int)) w') : yaZ P ⟨d, .call ⟨.builtin .copy, #[x, y], #[xt, yt]⟩, ty, ps, af, g⟩ (evE E) w K := by
  have hlx := ya2 (hS.rdo i hi')
  obtain ⟨hly, hmc, hsl⟩ := hr
  obtain ⟨yb, yo, rfl, -, -, hyc⟩ := hsl h0
  refine n_copy hx hy hu hi ⟨gb, 0, ⟨yb, yo, none⟩, (ys.take l).map (Value.int .i64), rfl, rfl, by simp; omega, fun j u hj => ?_, fun u hu => ?_, ?_, fun w' hw' => ?_⟩
  · rw [List.getElem?_map, List.getElem?_take] at hj
    split at hj
    · cases hq : ys[j]? with
      | none => rw [hq] at hj; cases hj
      | some q =>
        rw [hq] at hj
        cases hj
        obtain ⟨vs, hv, hc⟩ := hyc j q hq
        have hv : vs = [.int .i64 q] := hv
        subst hv
        have := hc 0 _ rfl
        rw [Addr.add_mid]
        simpa [cI, Fl.cod, fI] using this
    · cases hj
  · obtain ⟨q, _, rfl⟩ := List.mem_map.1 hu; rfl
  · obtain ⟨hl, cells, ho, hE⟩ := hS.own i hi'
    intro j hj
    rw [List.length_map, List.length_take] at hj
    obtain ⟨vs, hv, hc⟩ := hE j xs[j] (List.getElem?_eq_getElem (by omega))
    have hv : vs = [.int .i64 xs[j]] := hv
    subst hv
    obtain ⟨g', o', e', _, h1, h2⟩ := ho.cellAt (hc 0 _ rfl)
    cases e'
    have e3 : j * cI.sz + 0 = j := by show j * 1 + 0 = j; omega
    rw [e3] at h1 h2
    exact ⟨by rw [h1]; rfl, h2⟩
  · have hK := h w' (hS.copied i hi' hw')
    rw [← hly] at hK
    exact hK
end
theorem mapM_opt {α β : Type} {f : α → Option β} : ∀ {L : List α}, (∀ a ∈ L, ∃ b, f a = some b) → ∃ bs, L.mapM f = some bs
  | [], _ => ⟨[], rfl⟩
  | a :: t, h => by
    obtain ⟨b, hb⟩ := h a (by simp)
    obtain ⟨bs, hbs⟩ := mapM_opt (L := t) fun c hc => h c (by simp [hc])
    exact ⟨b :: bs, by simp [List.mapM_cons, hb, hbs]⟩
theorem keyT_arr {P : Program} {k e : TypeId} {n m : Nat} (hl : laidOutB P = true) (hm : m + 1 ≤ 10000) (hrow : k < P.types.size) (hkt : P.keyTypeAt m k = true) (hkt2 : P.keyType k = true) (hu : P.underlying k = some (.array n e)) (he : P.underlying e = some (.int .i64)) (hce : P.cellsOf e = 1) (hck : P.cellsOf k = n) (h2 : 2 ≤ P.types.size) : KeyT P k n where
  law := Maps.Keyed.of_law (deep_law_laid hl hm hrow hkt (by rw [hu]))
  of := fun l ⟨hll, hin⟩ => by
    obtain ⟨d, hd⟩ : ∃ d, P.types.size + 1 = d + 1 + 1 + 1 := ⟨P.types.size - 2, by omega⟩
    have hcells : (kE l).cells.toList = l.map (Value.int .i64) := by simp [kE, Value.cells]
    have hform : (kE l).formed P k = true := by
      unfold kE Value.formed
      simp [hu, hck, hll]
    have helt : ∀ i ∈ List.range n, ∃ b, P.keyLits (d + 1 + 1) e (((l.map (Value.int .i64)).drop (i * P.cellsOf e)).take (P.cellsOf e)) = some b := fun i hi => by
      rw [List.mem_range] at hi
      have hi2 : i < l.length := by omega
      have hx := hin l[i] (List.getElem_mem hi2)
      have e1 : ((l.map (Value.int .i64)).drop (i * P.cellsOf e)).take (P.cellsOf e) = [.int .i64 l[i]] := by
        rw [hce, Nat.mul_one, List.drop_eq_getElem_cons (by simpa using hi2)]
        simp
      rw [e1]
      refine ⟨[.int .i64 l[i]], ?_⟩
      have hw : (Lit.int .i64 l[i]).wf = true := by
        simp only [Lit.wf, Bool.and_eq_true, decide_eq_true_eq]
        exact ⟨hx.1, by have := hx.2; show l[i] ≤ 9223372036854775807; omega⟩
      simp [Program.keyLits, he, hw]
    obtain ⟨bs, hbs⟩ := mapM_opt helt
    unfold keyOf
    simp only [hu, hkt2, hform, Bool.and_self, if_true, hcells, hd]
    unfold Program.keyLits
    simp only [hu]
    rw [if_pos (by simp [hck, hll]), hbs]
    exact ⟨_, rfl⟩
end Go.Proofs.YtncilechkclmbaaGreat

/- A function's end whose results lie partly in memory; pointers that may be nil; products as elements. No program in sight. -/
namespace Go.Proofs.YtncilechkclmbaaGreat
open Go Go.RowKit Go.Shelf Go.Proofs.Tryz
set_option linter.unusedVariables false
set_option linter.unusedSimpArgs false
def RvE (P : Program) (E : Env) (w : World) : ResultVar → Value → Prop
  | .tmp t, v => E t = v
  | .cell t y, v => ∃ a, E t = .pointer (some a) ∧ (loadVar y a).run P w = .ok v w
section
variable {P : Program} {E : Env} {w : World} {t : Tmp} {y : TypeId}
theorem rv_t {v : Value} (h : E t = v) : RvE P E w (.tmp t) v := h
theorem rv_n {p : Addr} {u : TypeDesc} {vs : List Value} {zo : Option Value} {b : Nat} (h : E t = .pointer (some p)) (hu : P.underlying y = some u) (hn : aggD u = true) (hi : (P.info? y).map (fun i => (i.zero, i.size, i.bytes)) = some (zo, vs.length, b)) (hc : Cells w p 0 vs) : RvE P E w (.cell t y) (.agg vs.toArray) := by
  refine ⟨p, h, ?_⟩
  have := yeg (P := P) vs 0 #[] hc
  simp only [loadVar, Sem.run_bind, Result.andThen, yfI hu hn, ybo hi, if_true]
  simp only [loadCells, this, Sem.run_bind, Result.andThen, Sem.run_pure]
  simp
def rv1 (tmps : Array Value) : ResultVar → Sem Value
  | .tmp t => pure (tmps.getD t undef)
  | .cell a t => do loadVar t (← asAddr (tmps.getD a undef))
theorem rv1_run {rv : ResultVar} {v : Value} {N : Nat} {ds : List Deferred} {a : Act} (r : Rep N E ds a) (h : RvE P E w rv v) : (rv1 a.tmps rv).run P w = .ok v w := by
  cases rv with
  | tmp t =>
    show (Sem.run P (pure (a.tmps.getD t undef)) w) = _
    rw [r.get]
    rw [show E t = v from h]; rfl
  | cell t y =>
    obtain ⟨p, h1, h2⟩ := h
    show Sem.run P (do loadVar y (← asAddr (a.tmps.getD t undef))) w = _
    rw [r.get, h1]
    simp only [asAddr, Sem.run_bind, Sem.run_pure, Result.andThen, h2]
end
section
variable {P : Program} {fn : Func} {F : Fence} {n : Nat} {N : Nat} {t : List Item} {R : Ending → World → Prop} {E : Env} {w : World} {q1 q2 q3 : ResultVar} {v1 v2 v3 : Value}
theorem results_eq (fn : Func) (tmps : Array Value) : results fn tmps = (do let vs ← fn.results.mapM (rv1 tmps); pure (if h : vs.size = 1 then vs[0] else .tuple vs)) := rfl
theorem wt_retx1 (hr : fn.results = #[q1]) (h1 : RvE P E w q1 v1) (h : R (.returned v1) w) : WT F n P N (.code .ret :: t) (bodyPost P fn R) E [] w :=
  yfJ fun a r => ⟨r.defers, _, by
    rw [results_eq, hr]
    simp [Sem.run_bind, Result.andThen, rv1_run r h1], h⟩
theorem wt_retx2 (hr : fn.results = #[q1, q2]) (h1 : RvE P E w q1 v1) (h2 : RvE P E w q2 v2) (h : R (.returned (.tuple #[v1, v2])) w) : WT F n P N (.code .ret :: t) (bodyPost P fn R) E [] w :=
  yfJ fun a r => ⟨r.defers, _, by
    rw [results_eq, hr]
    simp [Sem.run_bind, Result.andThen, rv1_run r h1, rv1_run r h2], h⟩
end
end Go.Proofs.YtncilechkclmbaaGreat

/- Arrays of numbers as values: stored whole, handed back whole. -/
namespace Go.Proofs.YtncilechkclmbaaGreat
open Go Go.RowKit Go.Shelf Go.Proofs.Tryz
set_option linter.unusedVariables false
theorem there_own {w0 w : World} {S O : Nat → Prop} {L : Hold} (h : Sep w0 S O w L) (i : Nat) {t : TypeId} {gb l cp : Nat} {xs : List Int} (hi : L i = .own cI t (some ⟨gb, 0, none⟩) l cp xs) : w.there gb 0 l := fun j hj => by
  obtain ⟨hl, cells, ho, hE⟩ := h.own i hi
  have hcl : cells.length = l := by rw [ho.1]; show l * 1 = l; omega
  obtain ⟨g, o, e, hlt, hcell, hfr⟩ := ho.cellAt (i := j) (List.getElem?_eq_getElem (by omega))
  cases e
  exact ⟨by rw [hcell]; rfl, hfr⟩
theorem Sep.stored {w0 w w' : World} {S O : Nat → Prop} {L : Hold} (h : Sep w0 S O w L) (i : Nat) {t : TypeId} {gb l cp : Nat} {xs ys : List Int} (hi : L i = .own cI t (some ⟨gb, 0, none⟩) l cp xs) (hy : ys.length = l) (hw : w' = w.setCells gb 0 (ys.map (Value.int .i64))) :
    Sep w0 S O w' (stl L i (.own cI t (some ⟨gb, 0, none⟩) l cp ys)) := by
  have hl := (h.own i hi).1
  have e : cpy xs ys = ys := by unfold cpy; rw [List.take_of_length_le (by omega), List.drop_eq_nil_of_le (by omega), List.append_nil]
  have := h.copied (w' := w') i hi (ys := ys) (by rw [hw, List.take_of_length_le (by omega)])
  rwa [e] at this
theorem n_starr {P : Program} {E : Env} {w : World} {d : Option Tmp} {x y : Operand} {ty xt : TypeId} {ps : String} {af : Array Edge} {g : Option (Nat × Bool)} {K : Value → World → Prop} {w0 : World} {S O : Nat → Prop} {L : Hold} {t : TypeId} {zo : Option Value} {b gb l cp : Nat} {xs ys : List Int}
    (hx : evE E x = .pointer (some ⟨gb, 0, none⟩)) (hy : evE E y = kE ys) (hi : (P.info? xt).map (fun i => (i.zero, i.size, i.bytes)) = some (zo, l, b)) (hS : Sep w0 S O w L) (i : Nat) (hi' : L i = .own cI t (some ⟨gb, 0, none⟩) l cp xs) (hl : ys.length = l)
    (h : ∀ w', Sep w0 S O w' (stl L i (.own cI t (some ⟨gb, 0, none⟩) l cp ys)) → K undef w') : yaZ P ⟨d, .store xt x y, ty, ps, af, g⟩ (evE E) w K :=
  yeb (n := l) hx hy hi (by simpa using hl) (by simp [Value.oneCell']) (there_own hS i hi') fun w' hw => h w' (hS.stored i hi' hl (by simpa using hw))
theorem rv_a {P : Program} {E : Env} {w w0 : World} {S O : Nat → Prop} {L : Hold} {t : Tmp} {y : TypeId} {u : TypeDesc} {zo : Option Value} {b gb l cp : Nat} {xs : List Int} {a : TypeId} (h : E t = .pointer (some ⟨gb, 0, none⟩)) (hu : P.underlying y = some u) (hn : aggD u = true) (hi : (P.info? y).map (fun i => (i.zero, i.size, i.bytes)) = some (zo, l, b))
    (hS : Sep w0 S O w L) (i : Nat) (hi' : L i = .own cI a (some ⟨gb, 0, none⟩) l cp xs) : RvE P E w (.cell t y) (kE xs) :=
  rv_n (vs := xs.map (Value.int .i64)) h hu hn (ygv hi (hS.rdo i hi')) (yfG (hS.rdo i hi'))
theorem arr_idx (L : List Int) {i : Int} (h : 0 ≤ i ∧ i < (L.length : Int)) : (L.map (Value.int .i64)).toArray[i.toNat]? = some (.int .i64 (gi L i.toNat)) := by
  rw [List.getElem?_toArray, List.getElem?_map, ybs (by omega)]; rfl
end Go.Proofs.YtncilechkclmbaaGreat

/- A variable in memory says nothing of other blocks. -/
namespace Go.Proofs.YtncilechkclmbaaGreat
open Go Go.RowKit Go.Proofs.Tryz
theorem nn_nil {τ : Type} : Option.isNone (none : Option Addr) = decide (([] : List τ) = []) := by simp
theorem nn_ne {τ : Type} {c : Cod τ} {O : Nat → Prop} {w : World} {A : Option Addr} {l cap : Nat} {xs : List τ} (h : (FP.sl c A l cap xs).P O w) (hn : xs ≠ []) : Option.isNone A = decide (xs = []) := by
  rw [decide_eq_false hn]
  cases hA : Option.isNone A with
  | false => rfl
  | true => exact absurd (rd_nil h hA) hn
end Go.Proofs.YtncilechkclmbaaGreat

/- A drawn region in which two operations, each with effects, stand in an order that is open: both orders are walked. -/
namespace Go.Proofs.YtncilechkclmbaaGreat
open Go Go.Proofs.Tryz
set_option linter.unusedVariables false
set_option linter.unusedSimpArgs false
section
variable {P : Program} {ops : Array Oper} {Q : Act → World → Prop} {F : Fence} {n : Nat} {Q' : Exit → Act → World → Prop}
theorem seqS_step {st : Nat → List Nat} (hF : ∀ f, F.fn f) (hD : F.depth = none) (hC : ∀ f args w R, Calls P f args w R → CallsIn F (n - 1) P f args w R) (hRd : ∀ l f tmps assign body w R, RoundIn Fence.wide 0 P l f tmps assign body w R → RoundIn F (n - 1) P l f tmps assign body w R)
    {i : Nat} {R : List Nat} {pend : List (Nat × Sem Next × Value)} {a : Act} {w : World} {K : Act → World → Prop} (h1 : seqS P ops st Q (i :: R) pend a w) (hrec : ∀ pend a w, seqS P ops st Q R pend a w → K a w) : wpOpIn F n P ops Q' i K a w := by
  unfold wpOpIn
  cases hoi : ops[i]? with
  | none => simp only [seqS, hoi] at h1; exact hrec _ _ _ h1
  | some oi =>
    simp only [seqS, hoi] at h1 ⊢
    split
    · rename_i c
      rw [if_pos c] at h1
      split at h1
      · rename_i q
        obtain ⟨v, hv, h1⟩ := h1
        refine ⟨fun f _ => hF f, ?_⟩
        rw [Oper.semAt_eq _ _ _ (yaU.defer q), hv]
        exact hrec _ _ _ h1
      · obtain ⟨hn, h1⟩ := h1
        refine ⟨fun f _ => hF f, ?_⟩
        rw [Oper.semAt_eq _ _ _ (ybN.defer hn)]
        unfold yaZ at h1
        split at h1
        · rename_i v w' hr
          rw [hr]
          exact hrec _ _ _ h1.2
        · rename_i w' hr
          rw [hr]
          exact hrec _ _ _ h1.2
        · rename_i f args w' hr
          rw [hr]
          refine ⟨fun hd => (by rw [hD] at hd; cases hd), (hC _ _ _ _ h1).mono ?_⟩
          rintro e w'' ⟨v, rfl, hh⟩
          exact hrec _ _ _ hh.2
        · rename_i l f tmps assign body w' hr
          rw [hr]
          refine ⟨fun hd => (by rw [hD] at hd; cases hd), (hRd _ _ _ _ _ _ _ h1).mono ?_⟩
          rintro e w'' ⟨v, rfl, hh⟩
          exact hrec _ _ _ hh.2
        · exact h1.elim
    · rename_i c
      rw [if_neg c] at h1
      exact ⟨fun f _ => hF f, hrec _ _ _ h1⟩
theorem set_listed {R1 R2 : List Nat} {i : Nat} {listed : Array Bool} (hil : i < listed.size) (hl : ∀ k, k ∈ R1 ++ i :: R2 ↔ listed.getD k true = false) (hni : i ∉ R1 ++ R2) : ∀ k, k ∈ R1 ++ R2 ↔ (listed.setIfInBounds i true).getD k true = false := by
  intro k
  by_cases hki : i = k
  · subst hki
    constructor
    · intro h; exact absurd h hni
    · intro h; simp [hil] at h
  · rw [getD_set_ne true hki, ← hl k]
    simp only [List.mem_append, List.mem_cons]
    constructor
    · rintro (h | h)
      · exact .inl h
      · exact .inr (.inr h)
    · rintro (h | h | h)
      · exact .inl h
      · exact absurd h.symm hki
      · exact .inr h
theorem set_down {i : Nat} {oi : Oper} {listed : Array Bool} (hil : i < listed.size) (hoi : ops[i]? = some oi) (hall : ∀ e ∈ oi.after, Region.binds .any e = true → listed.getD e.on true = true) (hdw : ymt ops listed) : ymt ops (listed.setIfInBounds i true) := by
  intro j oj hj hlj e he hb
  have hmono : ∀ x : Nat, listed.getD x true = true → (listed.setIfInBounds i true).getD x true = true := by
    intro x hx
    by_cases hki : i = x
    · subst hki; simp [hil]
    · rw [getD_set_ne true hki]; exact hx
  by_cases hji : i = j
  · subst hji
    rw [hoi] at hj
    cases hj
    exact hmono _ (hall e he hb)
  · rw [getD_set_ne true hji] at hlj
    exact hmono _ (hdw j oj hj hlj e he hb)
theorem ymG {st : Nat → List Nat} {i : Nat} {oi : Oper} {listed : Array Bool} {R1 R2 : List Nat} (hoi : ops[i]? = some oi) (hl : ∀ k, k ∈ R1 ++ i :: R2 ↔ listed.getD k true = false) (hs : listed.size = ops.size) (hdw : ymt ops listed) (hall : ∀ e ∈ oi.after, Region.binds .any e = true → listed.getD e.on true = true)
    (hlt1 : ∀ r ∈ R1, ydX ops st r i = true) {pend : List (Nat × Sem Next × Value)} {a : Act} {w : World} (h : seqS P ops st Q (R1 ++ i :: R2) pend a w) : seqS P ops st Q (i :: (R1 ++ R2)) pend a w :=
  ynk hoi R1 R2 (fun r hr => by
    have hr0 := (hl r).1 (by simp [hr])
    have hrs : r < ops.size := by
      rcases Nat.lt_or_ge r listed.size with h | h
      · omega
      · simp [Array.getD_eq_getD_getElem?, Array.getElem?_eq_none h] at hr0
    have hd0 : dep ops ops.size r i = false := by
      cases hq : dep ops ops.size r i with
      | false => rfl
      | true =>
        have := yl7 hdw ops.size r i oi hoi hall hq
        rw [this] at hr0; cases hr0
    obtain ⟨a1, a2, a3⟩ := ydX.two (hlt1 r hr) (by simp [hrs] : ops[r]? = some ops[r]) hoi hd0
    exact ⟨ops[r], by simp [hrs], a1, a2, a3⟩) pend a w h
theorem seqS_two {st1 st2 : Nat → List Nat} {p q : Nat} (hF : ∀ f, F.fn f) (hD : F.depth = none) (hC : ∀ f args w R, Calls P f args w R → CallsIn F (n - 1) P f args w R) (hRd : ∀ l f tmps assign body w R, RoundIn Fence.wide 0 P l f tmps assign body w R → RoundIn F (n - 1) P l f tmps assign body w R) (hQ : ∀ a w, Q a w → Q' .normal a w)
    (hO : ∀ j oj, ops[j]? = some oj → ∀ e ∈ oj.after, Region.binds .any e = true → e.on < ops.size ∧ e.on ≠ j) (hpq : p ≠ q) (hWp : ∀ o, ops[p]? = some o → ∀ e ∈ o.after, Region.binds .any e = true → e.on ≠ q ∧ dep ops ops.size q e.on ≠ true) (hN : ∀ r o, ops[r]? = some o → r ≠ p → r ≠ q → yaU o.op = true ∨ dep ops ops.size p r = true ∨ dep ops ops.size q r = true) :
    ∀ (fuel : Nat) (R1 R2 : List Nat) (listed : Array Bool) (pend : List (Nat × Sem Next × Value)) (a : Act) (w : World), R1.length ≤ fuel → R2.length ≤ fuel →
    R1.Pairwise (fun i j => i ≠ j ∧ (ydX ops st1 i j = true ∨ (i = p ∧ (j = q ∨ dep ops ops.size q j = true)))) → R2.Pairwise (fun i j => i ≠ j ∧ (ydX ops st2 i j = true ∨ (i = q ∧ (j = p ∨ dep ops ops.size p j = true)))) →
    (∀ i, i ∈ R1 ↔ listed.getD i true = false) → (∀ i, i ∈ R2 ↔ listed.getD i true = false) → listed.size = ops.size → ymt ops listed → listed.getD p true = false → listed.getD q true = false →
    seqS P ops st1 Q R1 pend a w → seqS P ops st2 Q R2 pend a w → wpAnyIn F n P .any ops Q' fuel listed a w := by
  intro fuel
  induction fuel with
  | zero =>
    intro R1 R2 listed pend a w hf1 hf2 hp1 hp2 hl1 hl2 hs hdw hpl hql h1 h2
    have hR : R1 = [] := List.eq_nil_of_length_eq_zero (by omega)
    subst hR
    exact absurd ((hl1 p).2 hpl) (by simp)
  | succ fuel ih =>
    intro R1 R2 listed pend a w hf1 hf2 hp1 hp2 hl1 hl2 hs hdw hpl hql h1 h2
    have hb : ∀ x : Nat, listed.getD x true = false → x < ops.size := by
      intro x hx
      rcases Nat.lt_or_ge x listed.size with h | h
      · omega
      · simp [Array.getD_eq_getD_getElem?, Array.getElem?_eq_none h] at hx
    have hlb : ∀ x : Nat, listed.getD x false = true → listed.getD x true = true := by
      intro x hx
      rcases Nat.lt_or_ge x listed.size with h | h
      · simp [Array.getD_eq_getD_getElem?, h] at hx ⊢; exact hx
      · simp [Array.getD_eq_getD_getElem?, h]
    refine ⟨fun h0 => ?_, fun i hi => ?_⟩
    · -- something can always be carried out
      exfalso
      cases hR : R1 with
      | nil => rw [hR] at hl1; exact absurd ((hl1 p).2 hpl) (by simp)
      | cons r R =>
        rw [hR] at hl1 hp1
        have hr := (hl1 r).1 (by simp)
        have hlt := hb r hr
        have hmem : r ∈ Region.ready .any ops listed := by
          refine mem_ready.2 ⟨hr, ops[r], by simp [hlt], fun e he hbd => ?_⟩
          have h1' := hO r _ (by simp [hlt] : ops[r]? = some ops[r]) e he hbd
          have h2' : e.on ∉ r :: R := by
            intro h
            rcases List.mem_cons.1 h with h | h
            · exact h1'.2 h
            · rcases ((List.pairwise_cons.1 hp1).1 _ h).2 with hk | ⟨rfl, hk⟩
              · exact ydX.not hk (by simp [hlt] : ops[r]? = some ops[r]) he hbd rfl
              · have h9 := hWp _ (by simp [hlt] : ops[r]? = some ops[r]) e he hbd
                rcases hk with hk | hk
                · exact h9.1 hk
                · exact h9.2 hk
          have h3 := mt (hl1 e.on).2 h2'
          have h4 : e.on < listed.size := by omega
          simp [h4] at h3 ⊢
          exact h3
        rw [h0] at hmem
        cases hmem
    · obtain ⟨hun, oi, hoi, hall⟩ := mem_ready.1 hi
      have hil : i < listed.size := by have := (Array.getElem?_eq_some_iff.1 hoi).1; omega
      have hall' : ∀ e ∈ oi.after, Region.binds .any e = true → listed.getD e.on true = true := fun e he hbd => hlb _ (hall e he hbd)
      obtain ⟨A1, B1, rfl⟩ := List.append_of_mem ((hl1 i).2 hun)
      obtain ⟨A2, B2, rfl⟩ := List.append_of_mem ((hl2 i).2 hun)
      have lt1 : ∀ r ∈ A1, r ≠ i ∧ (ydX ops st1 r i = true ∨ (r = p ∧ (i = q ∨ dep ops ops.size q i = true))) := fun r hr => (List.pairwise_append.1 hp1).2.2 r hr i (by simp)
      have lt2 : ∀ r ∈ A2, r ≠ i ∧ (ydX ops st2 r i = true ∨ (r = q ∧ (i = p ∨ dep ops ops.size p i = true))) := fun r hr => (List.pairwise_append.1 hp2).2.2 r hr i (by simp)
      have ni1 : i ∉ A1 ++ B1 := by
        intro hm
        rcases List.mem_append.1 hm with hm | hm
        · exact (lt1 i hm).1 rfl
        · exact ((List.pairwise_cons.1 (List.pairwise_append.1 hp1).2.1).1 i hm).1 rfl
      have ni2 : i ∉ A2 ++ B2 := by
        intro hm
        rcases List.mem_append.1 hm with hm | hm
        · exact (lt2 i hm).1 rfl
        · exact ((List.pairwise_cons.1 (List.pairwise_append.1 hp2).2.1).1 i hm).1 rfl
      have s1 := hp1.sublist ((List.Sublist.refl A1).append (List.sublist_cons_self i B1))
      have s2 := hp2.sublist ((List.Sublist.refl A2).append (List.sublist_cons_self i B2))
      have l1 := set_listed hil hl1 ni1
      have l2 := set_listed hil hl2 ni2
      have dw := set_down hil hoi hall' hdw
      have n1 : (A1 ++ B1).length ≤ fuel := by simp at hf1 ⊢; omega
      have n2 : (A2 ++ B2).length ≤ fuel := by simp at hf2 ⊢; omega
      by_cases hip : i = p
      · -- the first order
        have h1' := ymG hoi hl1 hs hdw hall' (fun r hr => by
          rcases (lt1 r hr).2 with hk | ⟨hk, _⟩
          · exact hk
          · exact absurd (hk.trans hip.symm) (lt1 r hr).1) h1
        refine seqS_step hF hD hC hRd h1' fun pend a w h => seqS_any (st := st1) hF hD hC hRd hQ hO fuel _ _ pend a w n1 (s1.imp_of_mem ?_) l1 (by simp [hs]) dw h
        rintro x y hx hy ⟨hxy, hk | ⟨rfl, _⟩⟩
        · exact ⟨hxy, hk⟩
        · exact absurd (hip ▸ hx) ni1
      · by_cases hiq : i = q
        · have h2' := ymG hoi hl2 hs hdw hall' (fun r hr => by
            rcases (lt2 r hr).2 with hk | ⟨hk, _⟩
            · exact hk
            · exact absurd (hk.trans hiq.symm) (lt2 r hr).1) h2
          refine seqS_step hF hD hC hRd h2' fun pend a w h => seqS_any (st := st2) hF hD hC hRd hQ hO fuel _ _ pend a w n2 (s2.imp_of_mem ?_) l2 (by simp [hs]) dw h
          rintro x y hx hy ⟨hxy, hk | ⟨rfl, _⟩⟩
          · exact ⟨hxy, hk⟩
          · exact absurd (hiq ▸ hx) ni2
        · have h1' := ymG hoi hl1 hs hdw hall' (fun r hr => by
            rcases (lt1 r hr).2 with hk | ⟨_, hk | hk⟩
            · exact hk
            · exact absurd hk hiq
            · have := yl7 hdw ops.size q i oi hoi hall' hk
              rw [this] at hql; cases hql) h1
          have h2' := ymG hoi hl2 hs hdw hall' (fun r hr => by
            rcases (lt2 r hr).2 with hk | ⟨_, hk | hk⟩
            · exact hk
            · exact absurd hk hip
            · have := yl7 hdw ops.size p i oi hoi hall' hk
              rw [this] at hpl; cases hpl) h2
          have hqt : yaU oi.op = true := by
            rcases hN i oi hoi hip hiq with hk | hk | hk
            · exact hk
            · have := yl7 hdw ops.size p i oi hoi hall' hk
              rw [this] at hpl; cases hpl
            · have := yl7 hdw ops.size q i oi hoi hall' hk
              rw [this] at hql; cases hql
          have pl : (listed.setIfInBounds i true).getD p true = false := by rw [getD_set_ne true hip]; exact hpl
          have ql : (listed.setIfInBounds i true).getD q true = false := by rw [getD_set_ne true hiq]; exact hql
          have go := fun pend a w => ih (A1 ++ B1) (A2 ++ B2) (listed.setIfInBounds i true) pend a w n1 n2 s1 s2 l1 l2 (by simp [hs]) dw pl ql
          unfold wpOpIn
          simp only [seqS, hoi] at h1' h2' ⊢
          split
          · rename_i c
            rw [if_pos c, if_pos hqt] at h1' h2'
            obtain ⟨v, hv, h1'⟩ := h1'
            obtain ⟨v2, hv2, h2'⟩ := h2'
            have e : v2 = v := by
              rw [hv] at hv2
              injection hv2 with e _
              injection e with e
              exact e.symm
            subst e
            refine ⟨fun f _ => hF f, ?_⟩
            rw [Oper.semAt_eq _ _ _ (yaU.defer hqt), hv]
            exact go _ _ _ h1' h2'
          · rename_i c
            rw [if_neg c] at h1' h2'
            exact ⟨fun f _ => hF f, go _ _ _ h1' h2'⟩
def ym8 (ops : Array Oper) (st1 st2 : Nat → List Nat) (p q : Nat) (R1 R2 : List Nat) : Bool :=
  ((R1 ++ R2).all fun j => match ops[j]? with
    | none => false
    | some oj => oj.after.all fun e => !Region.binds .any e || (decide (e.on < ops.size) && !(e.on == j))) && (List.range ops.size).all (R1.contains ·) && (List.range ops.size).all (R2.contains ·) && decide (R1.length ≤ ops.size) && decide (R2.length ≤ ops.size) &&
  yfi (fun i j => !(i == j) && (ydX ops st1 i j || (i == p && (j == q || dep ops ops.size q j)))) R1 && yfi (fun i j => !(i == j) && (ydX ops st2 i j || (i == q && (j == p || dep ops ops.size p j)))) R2 && !(p == q) && decide (p < ops.size) && decide (q < ops.size) &&
  ((List.range ops.size).all fun r => r == p || r == q || (match ops[r]? with | some o => yaU o.op | none => true) || dep ops ops.size p r || dep ops ops.size q r) &&
  (match ops[p]? with | some o => o.after.all fun e => !Region.binds .any e || (!(e.on == q) && !dep ops ops.size q e.on) | none => true)
end
section
variable {F : Fence} {n : Nat} {P : Program} {N : Nat} {Q : Exit → Act → World → Prop} {E : Env} {ds : List Deferred} {w : World} {t : List Item}
theorem wt_draw2 {id : Nat} {ops : Array Oper} (p q : Nat) (R1 R2 : List Nat) (st1 st2 : Nat → List Nat) (hw : Wd F) (hm : P.follows .mixedOrders = true) (hO : ym8 ops st1 st2 p q R1 R2 = true) (h1 : RJ P N ops st1 (WTa F n P t Q) R1 [] E ds w.drew) (h2 : RJ P N ops st2 (WTa F n P t Q) R2 [] E ds w.drew) :
    WT F n P N (.code (.region id ops true) :: t) Q E ds w := by
  intro a r
  simp only [ym8, Bool.and_eq_true, decide_eq_true_eq] at hO
  obtain ⟨⟨⟨⟨⟨⟨⟨⟨⟨⟨⟨g1, g2⟩, g3⟩, g4⟩, g5⟩, g6⟩, g7⟩, g8⟩, g9⟩, g10⟩, g11⟩, g12⟩ := hO
  have k1 : ∀ i, i < ops.size → i ∈ R1 := fun i hi => by simpa using List.all_eq_true.1 g2 i (List.mem_range.2 hi)
  have k2 : ∀ i, i < ops.size → i ∈ R2 := fun i hi => by simpa using List.all_eq_true.1 g3 i (List.mem_range.2 hi)
  have lt : ∀ i, i ∈ R1 ++ R2 → i < ops.size := fun i hi => by
    have := List.all_eq_true.1 g1 i hi
    rcases Nat.lt_or_ge i ops.size with h | h
    · exact h
    · rw [Array.getElem?_eq_none h] at this; cases this
  have hl : ∀ R : List Nat, (∀ i, i < ops.size → i ∈ R) → (∀ i ∈ R, i < ops.size) → ∀ i, i ∈ R ↔ (Array.replicate ops.size false).getD i true = false := fun R a1 a2 i => by
    constructor
    · intro hi; simp [a2 i hi]
    · intro hi
      apply a1
      rcases Nat.lt_or_ge i ops.size with h | h
      · exact h
      · simp [Array.getD_eq_getD_getElem?, h] at hi
  refine WTa.of (wpIn_region_any hm ?_)
  refine seqS_two (st1 := st1) (st2 := st2) (p := p) (q := q) hw.fn hw.depth (fun f args w R h => hw.calls _ _ _ _ _ _ h) (fun l f tmps assign body w R h => hw.rounds _ _ _ _ _ _ _ _ _ h) (fun a w h => ⟨rfl, h⟩) (fun j oj hj e he hb => ?_) (by simpa using g8) (fun o ho e he hb => ?_) (fun r o ho hrp hrq => ?_) ops.size R1 R2 _ [] a _ g4 g5
    ((yfi.out g6).imp (fun h => by simpa using h)) ((yfi.out g7).imp (fun h => by simpa using h)) (hl R1 k1 fun i hi => lt i (by simp [hi])) (hl R2 k2 fun i hi => lt i (by simp [hi])) (by simp) (fun j oj hj hl => ?_) (by simp [g9]) (by simp [g10]) (h1 a r) (h2 a r)
  · have := List.all_eq_true.1 g1 j (by simp [k1 j (Array.getElem?_eq_some_iff.1 hj).1])
    rw [hj] at this
    simp only at this
    rw [Array.all_eq_true] at this
    obtain ⟨k, hk, rfl⟩ := Array.getElem_of_mem he
    have h3 := this k hk
    simpa [hb] using h3
  · rw [ho] at g12
    simp only at g12
    rw [Array.all_eq_true] at g12
    obtain ⟨k, hk, rfl⟩ := Array.getElem_of_mem he
    have h3 := g12 k hk
    simpa [hb] using h3
  · have := List.all_eq_true.1 g11 r (List.mem_range.2 (Array.getElem?_eq_some_iff.1 ho).1)
    rw [ho] at this
    simpa [hrp, hrq, or_assoc] using this
  · exfalso
    have := (Array.getElem?_eq_some_iff.1 hj).1
    simp [Array.getD_eq_getD_getElem?, this] at hl
theorem wp_draw2 {id : Nat} {ops : Array Oper} (p q : Nat) (R1 R2 : List Nat) (st1 st2 : Nat → List Nat) (hw : Wd F) (hm : P.follows .mixedOrders = true) (hO : ym8 ops st1 st2 p q R1 R2 = true)
    (h1 : RP P N ops st1 (WTa F n P t Q) R1 (R1.map fun i => ops.getD i default) [] E ds w.drew) (h2 : RP P N ops st2 (WTa F n P t Q) R2 (R2.map fun i => ops.getD i default) [] E ds w.drew) : WT F n P N (.code (.region id ops true) :: t) Q E ds w := by
  have key : ∀ R : List Nat, (∀ i ∈ R, i ∈ R1 ++ R2) → R.map (fun i => ops[i]?) = (R.map fun i => ops.getD i default).map some := fun R hR => by
    simp only [ym8, Bool.and_eq_true, decide_eq_true_eq] at hO
    rw [List.map_map]
    refine List.map_congr_left fun i hi => ?_
    have := List.all_eq_true.1 hO.1.1.1.1.1.1.1.1.1.1.1 i (hR i hi)
    cases hq : ops[i]? with
    | none => rw [hq] at this; cases this
    | some o => simp [Array.getD_eq_getD_getElem?, hq]
  exact wt_draw2 p q R1 R2 st1 st2 hw hm hO (h1 (key R1 fun i hi => by simp [hi])) (h2 (key R2 fun i hi => by simp [hi]))
theorem wt_cutD {c : Code} (J : Env → List Deferred → World → Prop) (hj : ∀ E ds w, J E ds w → WT F n P N t Q E ds w) (h : (∀ E ds w, J E ds w → WT F n P N t Q E ds w) → WT F n P N (.code c :: t) Q E ds w) : WT F n P N (.code c :: t) Q E ds w := h hj
end
end Go.Proofs.YtncilechkclmbaaGreat

/- Slices of structs of numbers that are made, and copied into. No program in sight. -/
namespace Go.Proofs.YtncilechkclmbaaGreat
open Go Go.RowKit Go.Shelf Go.Proofs.Tryz
set_option linter.unusedVariables false
set_option linter.unusedSimpArgs false
section
variable {τ : Type} {f : Fl τ}
theorem yl6 (xs : List τ) : (xs.flatMap f.enc).length = xs.length * f.sz := by
  induction xs with
  | nil => simp
  | cons x t ih => rw [List.flatMap_cons, List.length_append, f.len, ih, List.length_cons, Nat.add_mul]; omega
theorem yna : ∀ {xs : List τ} {k j : Nat} {x : τ} {u : Value}, xs[k]? = some x → (f.enc x)[j]? = some u → (xs.flatMap f.enc)[k * f.sz + j]? = some u
  | [], k, _, _, _, h, _ => by simp at h
  | y :: t, 0, j, x, u, h, hu => by
    simp at h
    subst h
    have hj := (List.getElem?_eq_some_iff.1 hu).1
    rw [List.flatMap_cons, Nat.zero_mul, Nat.zero_add, List.getElem?_append_left hj]; exact hu
  | y :: t, k + 1, j, x, u, h, hu => by
    have := yna (xs := t) (k := k) (by simpa using h) hu
    rw [List.flatMap_cons, List.getElem?_append_right (by rw [f.len, Nat.add_mul]; omega), f.len, show (k + 1) * f.sz + j - f.sz = k * f.sz + j by rw [Nat.add_mul]; omega]; exact this
theorem encL_take : ∀ (xs : List τ) (k : Nat), (xs.take k).flatMap f.enc = (xs.flatMap f.enc).take (k * f.sz)
  | [], k => by simp
  | x :: t, 0 => by simp
  | x :: t, k + 1 => by
    rw [List.take_succ_cons, List.flatMap_cons, List.flatMap_cons, encL_take t k, List.take_append, f.len, show (k + 1) * f.sz - f.sz = k * f.sz by rw [Nat.add_mul]; omega, List.take_of_length_le (l := f.enc x) (by rw [f.len, Nat.add_mul]; omega)]
theorem encL_drop : ∀ (xs : List τ) (k : Nat), (xs.drop k).flatMap f.enc = (xs.flatMap f.enc).drop (k * f.sz)
  | [], k => by simp
  | x :: t, 0 => by simp
  | x :: t, k + 1 => by
    rw [List.drop_succ_cons, List.flatMap_cons, encL_drop t k, List.drop_append, f.len, show (k + 1) * f.sz - f.sz = k * f.sz by rw [Nat.add_mul]; omega, show (f.enc x).drop ((k + 1) * f.sz) = [] from List.drop_eq_nil_of_le (by rw [f.len, Nat.add_mul]; omega), List.nil_append]
theorem cells_encL {O : Nat → Prop} {w : World} {xs : List τ} {cells : List Value} (hl : cells.length = xs.length * f.sz) (hE : ∀ (k : Nat) x, xs[k]? = some x → ∃ vs, f.cod.R O w vs x ∧ ∀ (j : Nat) u, vs[j]? = some u → cells[k * f.cod.sz + j]? = some u) : cells = xs.flatMap f.enc := by
  refine List.ext_getElem? fun t => ?_
  by_cases ht : t < xs.length * f.sz
  · have hz : 0 < f.sz := by rcases Nat.eq_zero_or_pos f.sz with q | q; · rw [q] at ht; simp at ht
                             · exact q
    have hk : t / f.sz < xs.length := Nat.div_lt_of_lt_mul (by rw [Nat.mul_comm]; exact ht)
    have hj : t % f.sz < f.sz := Nat.mod_lt _ hz
    obtain ⟨vs, hR, hv⟩ := hE (t / f.sz) xs[t / f.sz] (List.getElem?_eq_getElem hk)
    have hR : vs = f.enc xs[t / f.sz] := hR
    subst hR
    have hu : (f.enc xs[t / f.sz])[t % f.sz]? = some ((f.enc xs[t / f.sz])[t % f.sz]'(by rw [f.len]; exact hj)) := List.getElem?_eq_getElem _
    have h1 := hv _ _ hu
    have h2 := yna (List.getElem?_eq_getElem hk) hu
    have e1 : t / f.sz * f.sz + t % f.sz = t := by rw [Nat.mul_comm]; exact Nat.div_add_mod t f.sz
    have e2 : t / f.sz * f.cod.sz + t % f.sz = t := e1
    rw [e2] at h1
    rw [e1] at h2
    rw [h1, h2]
  · rw [List.getElem?_eq_none (by omega), List.getElem?_eq_none (by rw [yl6]; omega)]
def ovr (k : Nat) (xs ys : List τ) : List τ := xs.take k ++ ys.take (xs.length - k) ++ xs.drop (k + ys.length)
theorem ovr_length {k : Nat} {xs ys : List τ} (hk : k ≤ xs.length) : (ovr k xs ys).length = xs.length := by unfold ovr; simp; omega
end
theorem OwnS.setK {B : Nat} {e : TypeId} {sz l c g : Nat} : ∀ (vs : List Value) (k : Nat) {w : World} {xs : List Value}, OwnS w B e sz (some ⟨g, 0, none⟩) l c xs → k + vs.length ≤ xs.length → OwnS (w.setCells g k vs) B e sz (some ⟨g, 0, none⟩) l c (xs.take k ++ vs ++ xs.drop (k + vs.length))
  | [], k, w, xs, h, hk => by
    have e : w.setCells g k [] = w := rfl
    rw [e]; simpa using h
  | v :: t, k, w, xs, h, hk => by
    have h1 := h.set1 (i := k) (by simp at hk; omega) v (g := g) (o := 0) rfl
    rw [Nat.zero_add] at h1
    have h2 := OwnS.setK t (k + 1) h1 (by simp at hk ⊢; omega)
    have e : (w.setCell ⟨g, k, none⟩ v).setCells g (k + 1) t = w.setCells g k (v :: t) := rfl
    rw [e] at h2
    have e2 : (xs.set k v).take (k + 1) ++ t ++ (xs.set k v).drop (k + 1 + t.length) = xs.take k ++ v :: t ++ xs.drop (k + (v :: t).length) := by
      simp at hk
      rw [List.drop_set_of_lt (by omega), List.take_add_one, List.take_set_of_le (by omega), List.getElem?_set_self (by omega)]
      simp [show k + (t.length + 1) = k + 1 + t.length by omega]
    rwa [e2] at h2
theorem Sep.ovr {τ : Type} {f : Fl τ} {w0 w w' : World} {S O : Nat → Prop} {L : Hold} (h : Sep w0 S O w L) (i : Nat) {t : TypeId} {gb l cp : Nat} {xs ys : List τ} (hi : L i = .own f.cod t (some ⟨gb, 0, none⟩) l cp xs) {lo : Nat} (hlo : lo ≤ l) (hw : w' = w.setCells gb (lo * f.sz) ((ys.take (l - lo)).flatMap f.enc)) :
    Sep w0 S O w' (stl L i (.own f.cod t (some ⟨gb, 0, none⟩) l cp (ovr lo xs ys))) := by
  obtain ⟨hl, cells, ho, hE⟩ := h.own i hi
  have hcl := cells_encL (f := f) (xs := xs) (by rw [ho.1, hl]; rfl) hE
  subst hcl
  have hyl := yl6 (f := f) (ys.take (l - lo))
  have hy2 : (ys.take (l - lo)).length ≤ l - lo := by rw [List.length_take]; omega
  have hmul : lo * f.sz + (l - lo) * f.sz = l * f.sz := by rw [← Nat.add_mul]; congr 1; omega
  have hmul2 : (ys.take (l - lo)).length * f.sz ≤ (l - lo) * f.sz := Nat.mul_le_mul_right _ hy2
  have hn := OwnS.setK ((ys.take (l - lo)).flatMap f.enc) (lo * f.sz) ho (by rw [yl6, yl6, ← hl]; omega)
  have ecp : (xs.flatMap f.enc).take (lo * f.sz) ++ (ys.take (l - lo)).flatMap f.enc ++ (xs.flatMap f.enc).drop (lo * f.sz + ((ys.take (l - lo)).flatMap f.enc).length) = (Go.Proofs.YtncilechkclmbaaGreat.ovr lo xs ys).flatMap f.enc := by
    unfold Go.Proofs.YtncilechkclmbaaGreat.ovr
    rw [List.flatMap_append, List.flatMap_append, encL_take xs, encL_drop xs, hyl, ← hl]
    congr 1
    rw [← Nat.add_mul, List.length_take]
    by_cases c : ys.length ≤ l - lo
    · rw [Nat.min_eq_right c]
    · rw [List.drop_eq_nil_of_le (by rw [yl6, ← hl]; exact Nat.mul_le_mul_right _ (by omega)), List.drop_eq_nil_of_le (by rw [yl6, ← hl]; exact Nat.mul_le_mul_right _ (by omega))]
  rw [ecp] at hn
  have hblk : (L i).blk = some gb := by rw [hi]; rfl
  have hK : ∀ (vs : List Value) (o : Nat) {a w : World}, Keeps (fun k => k = gb) a w → Keeps (fun k => k = gb) a (w.setCells gb o vs) := by
    intro vs
    induction vs with
    | nil => intro o a w h; exact h
    | cons v t ih => intro o a w h; exact ih (o + 1) (h.setCell (p := ⟨gb, o, none⟩) (fun _ => rfl) v)
  exact h.upd i _ (T := fun k => k = gb) (by rw [hw]; exact hK _ _ (Keeps.refl _ _)) (fun k _ e => by rw [e]; exact hblk) (fun k hk => .inl (by rw [hi]; exact hk)) ⟨by rw [ovr_length (by omega)]; exact hl, _, by rw [hw]; exact hn, fun j q hj => ⟨f.enc q, rfl, fun u v hu => yna hj hu⟩⟩
section
variable {P : Program} {E : Env} {w : World} {d : Option Tmp} {ty : TypeId} {ps : String} {af : Array Edge} {g : Option (Nat × Bool)} {K : Value → World → Prop} {x y : Operand} {xt yt : TypeId}
theorem n_copyk {e : TypeId} {zo : Option Value} {b sz : Nat} {A C : Option Addr} {l c m c' : Nat} (hx : evE E x = .slice A l c) (hy : evE E y = .slice C m c') (hu : P.underlying xt = some (.slice e)) (hi : (P.info? e).map (fun i => (i.zero, i.size, i.bytes)) = some (zo, sz, b))
    (h : ∃ (bl o : Nat) (a : Addr) (vs : List Value), A = some ⟨bl, o, none⟩ ∧ C = some a ∧ vs.length = min m l * sz ∧ (∀ j u, vs[j]? = some u → w.cell? (a.add j) = some u) ∧ (∀ u ∈ vs, u.oneCell' = true) ∧ w.there bl o vs.length ∧ ∀ w', w' = w.setCells bl o vs → K (.int .i64 ((min m l : Nat) : Int)) w') : yaZ P ⟨d, .call ⟨.builtin .copy, #[x, y], #[xt, yt]⟩, ty, ps, af, g⟩ (evE E) w K := by
  obtain ⟨bl, o, a, vs, rfl, rfl, hl, hc, h1, ht, hK⟩ := h
  have hf := run_firstCells_some (P := P) w sz (min m l) a m c' vs hl hc
  have hst := run_storeCells_cells (P := P) bl o vs 0 w (fun j hj => by simpa using (ht j hj).1) (fun j hj => by simpa using (ht j hj).2) h1
  have hlen : (Builtin.lenOf (.slice (some a) m c')).run P w = .ok m w := rfl
  have hmin : Nat.min m l = min m l := rfl
  unfold yaZ execOp
  simp only [resolve, hx, hy, List.map_toArray, List.map_cons, List.map_nil, Sem.run_bind, Sem.run_pure, Result.andThen, invoke, builtin, Builtin.copy_, List.getElem?_toArray, List.getElem?_cons_zero, List.getElem?_cons_succ, run_underlying hu, ybo hi, hlen, hmin, hf, hst, goInt, Nat.zero_add, Nat.add_zero]
  exact hK _ rfl
theorem n_cpyk {τ : Type} {f : Fl τ} {w0 : World} {S O : Nat → Prop} {L : Hold} {e t : TypeId} {zo : Option Value} {b gb l cp lo m c' : Nat} {C : Option Addr} {xs ys : List τ} (hx : evE E x = .slice (slA (some ⟨gb, 0, none⟩) cp lo f.sz) (l - lo) (cp - lo)) (hy : evE E y = .slice C m c') (hu : P.underlying xt = some (.slice e)) (hi : (P.info? e).map (fun i => (i.zero, i.size, i.bytes)) = some (zo, f.sz, b))
    (hS : Sep w0 S O w L) (i : Nat) (hi' : L i = .own f.cod t (some ⟨gb, 0, none⟩) l cp xs) (hr : (FP.sl f.cod C m c' ys).P no w) (h0 : 0 < ys.length) (hlo : lo ≤ xs.length)
    (h : ∀ w', Sep w0 S O w' (stl L i (.own f.cod t (some ⟨gb, 0, none⟩) l cp (ovr lo xs ys))) → K (.int .i64 ((min ys.length (xs.length - lo) : Nat) : Int)) w') : yaZ P ⟨d, .call ⟨.builtin .copy, #[x, y], #[xt, yt]⟩, ty, ps, af, g⟩ (evE E) w K := by
  have hrd := hS.rdo i hi'
  have hlx := ya2 hrd
  have hlc : l ≤ cp := hrd.2.1
  obtain ⟨hly, hmc, hsl⟩ := hr
  obtain ⟨yb, yo, rfl, -, -, hyc⟩ := hsl h0
  obtain ⟨o, hA, hoe⟩ : ∃ o, slA (some ⟨gb, 0, none⟩) cp lo f.sz = some ⟨gb, o, none⟩ ∧ (lo < l → o = lo * f.sz) := by
    unfold slA
    by_cases c : cp = lo
    · rw [if_pos c]; exact ⟨0, rfl, fun q => by omega⟩
    · rw [if_neg c]; exact ⟨lo * f.sz, by simp [Addr.add_mid], fun _ => rfl⟩
  have hmin : min m (l - lo) = (ys.take (l - lo)).length := by rw [List.length_take]; omega
  refine n_copyk hx hy hu hi ⟨gb, o, ⟨yb, yo, none⟩, (ys.take (l - lo)).flatMap f.enc, hA, rfl, by rw [yl6, hmin], fun j u hj => ?_, fun u hu => ?_, ?_, fun w' hw' => ?_⟩
  · have hjl := (List.getElem?_eq_some_iff.1 hj).1
    rw [yl6] at hjl
    have hz : 0 < f.sz := by rcases Nat.eq_zero_or_pos f.sz with q | q; · rw [q] at hjl; simp at hjl
                             · exact q
    have hk : j / f.sz < (ys.take (l - lo)).length := Nat.div_lt_of_lt_mul (by rw [Nat.mul_comm]; exact hjl)
    have hr : j % f.sz < f.sz := Nat.mod_lt _ hz
    have hk2 : j / f.sz < ys.length := by rw [List.length_take] at hk; omega
    have hx1 : (ys.take (l - lo))[j / f.sz]? = some ys[j / f.sz] := by
      rw [List.getElem?_take, if_pos (by rw [List.length_take] at hk; omega), List.getElem?_eq_getElem hk2]
    obtain ⟨vs, hv, hc⟩ := hyc (j / f.sz) _ (List.getElem?_eq_getElem hk2)
    have hv : vs = f.enc ys[j / f.sz] := hv
    subst hv
    have hu2 : (f.enc ys[j / f.sz])[j % f.sz]? = some ((f.enc ys[j / f.sz])[j % f.sz]'(by rw [f.len]; exact hr)) := List.getElem?_eq_getElem _
    have e1 : j / f.sz * f.sz + j % f.sz = j := by rw [Nat.mul_comm]; exact Nat.div_add_mod j f.sz
    have h3 := yna hx1 hu2
    rw [e1] at h3
    rw [h3] at hj
    have h4 := hc _ _ hu2
    have e2 : yo + j / f.sz * f.cod.sz + j % f.sz = yo + j := by show yo + j / f.sz * f.sz + j % f.sz = yo + j; omega
    rw [e2] at h4
    rw [Addr.add_mid, h4]; exact hj
  · obtain ⟨q, _, hq⟩ := List.mem_flatMap.1 hu; exact f.one _ _ hq
  · obtain ⟨hl, cells, ho, hE⟩ := hS.own i hi'
    have hcl := cells_encL (f := f) (xs := xs) (by rw [ho.1, hl]; rfl) hE
    subst hcl
    intro j hj
    rw [yl6] at hj
    have hlt0 : lo < l := by
      rcases Nat.lt_or_ge lo l with q | q
      · exact q
      · have : l - lo = 0 := by omega
        rw [this] at hj
        simp at hj
    rw [hoe hlt0]
    have hm1 : (ys.take (l - lo)).length * f.sz ≤ (l - lo) * f.sz := Nat.mul_le_mul_right _ (by rw [List.length_take]; omega)
    have hm2 : lo * f.sz + (l - lo) * f.sz = xs.length * f.sz := by rw [← Nat.add_mul]; congr 1; omega
    have hlt : lo * f.sz + j < (xs.flatMap f.enc).length := by rw [yl6]; omega
    obtain ⟨g', o', e', _, h1, h2⟩ := ho.cellAt (List.getElem?_eq_getElem hlt)
    cases e'
    rw [Nat.zero_add] at h1 h2
    exact ⟨by rw [h1]; rfl, h2⟩
  · have hw2 : w' = w.setCells gb (lo * f.sz) ((ys.take (l - lo)).flatMap f.enc) := by
      rcases Nat.lt_or_ge lo l with q | q
      · rw [hw', hoe q]
      · have : l - lo = 0 := by omega
        rw [hw', this]; rfl
    have hK := h w' (hS.ovr i hi' (by omega) hw2)
    rw [show min ys.length (xs.length - lo) = min m (l - lo) by omega] at hK
    exact hK
theorem cpy_at {E : Env} {x : Operand} {gb l cp sz : Nat} (hx : evE E x = .slice (some ⟨gb, 0, none⟩) l cp) : evE E x = .slice (slA (some ⟨gb, 0, none⟩) cp 0 sz) (l - 0) (cp - 0) := by
  rw [hx]
  unfold slA
  split <;> simp [Addr.add]
theorem n_makek {e : TypeId} {z : Value} {b sz : Nat} {n : Int} (hx : evE E x = .int .i64 n) (hy : evE E y = .int .i64 n) (hu : P.underlying xt = some (.slice e)) (hi : (P.info? e).map (fun i => (i.zero, i.size, i.bytes)) = some (some z, sz, b)) (hb : b ≤ 64)
    (hn : 0 ≤ n ∧ n ≤ 1000000) (h : ∀ g' w', New w g' w' (madeCells z.cells (n.toNat * sz)) e → K (.slice (some ⟨g', 0, none⟩) n.toNat n.toNat) w') : yaZ P ⟨d, .makeSlice xt x y, ty, ps, af, g⟩ (evE E) w K := by
  obtain ⟨i0, hi0, hz0, hz1, hz2⟩ := info_parts hi
  obtain ⟨k, rfl⟩ : ∃ k : Nat, n = (k : Int) := ⟨n.toNat, by omega⟩
  have hm : i0.bytes * k ≤ 64 * 1000000 := Nat.mul_le_mul (by omega) (by omega)
  have := run_make (P := P) w xt e i0 z hu hi0 hz0 .i64 .i64 k k (by omega) (by omega) (by rw [← Int.natCast_mul]; omega) (by omega)
  unfold yaZ execOp
  simp only [hx, hy, Sem.run_bind, this, Result.andThen, Sem.run_pure]
  rw [hz1]
  exact h _ _ ⟨rfl, rfl⟩
end
theorem madeCells_flat {τ : Type} {f : Fl τ} {z : Array Value} {x : τ} (hz : z.toList = f.enc x) (n : Nat) : (madeCells z (n * f.sz)).toList = (List.replicate n x).flatMap f.enc := by
  have hzs : z.size = f.sz := by rw [← Array.length_toList, hz, f.len]
  refine List.ext_getElem? fun t => ?_
  by_cases ht : t < n * f.sz
  · have h0 : 0 < f.sz := by rcases Nat.eq_zero_or_pos f.sz with q | q; · rw [q] at ht; simp at ht
                             · exact q
    have hk : t / f.sz < n := Nat.div_lt_of_lt_mul (by rw [Nat.mul_comm]; exact ht)
    have hj : t % f.sz < f.sz := Nat.mod_lt _ h0
    have hu : (f.enc x)[t % f.sz]? = some ((f.enc x)[t % f.sz]'(by rw [f.len]; exact hj)) := List.getElem?_eq_getElem _
    have h2 := yna (xs := List.replicate n x) (k := t / f.sz) (by rw [List.getElem?_replicate, if_pos hk]) hu
    have e1 : t / f.sz * f.sz + t % f.sz = t := by rw [Nat.mul_comm]; exact Nat.div_add_mod t f.sz
    rw [e1] at h2
    rw [h2, Array.getElem?_toList, madeCells, Array.getElem?_map, Array.getElem?_range, if_pos ht, Option.map_some, hzs]
    congr 1
    rw [getElem!_pos _ _ (by omega)]
    simp only [← hz, Array.getElem_toList]
  · rw [List.getElem?_eq_none (by rw [Array.length_toList, size_madeCells]; omega), List.getElem?_eq_none (by rw [yl6, List.length_replicate]; omega)]
end Go.Proofs.YtncilechkclmbaaGreat

/- Maps' key types that are arrays of numbers. -/
namespace Go.Proofs.YtncilechkclmbaaGreat
open Go Go.RowKit Go.Shelf Go.Proofs.Tryz
theorem keyt_191 : KeyT Tryz.prog 191 12 := keyT_arr (m := 3) (by kernel_rfl) (by decide) (of_decide_eq_true (by kernel_rfl)) (by kernel_rfl) (by kernel_rfl) underlying191 underlying3 (by kernel_rfl) (by kernel_rfl) (of_decide_eq_true (by kernel_rfl))
theorem ykn : KeyT Tryz.prog 212 12 := keyT_arr (m := 3) (by kernel_rfl) (by decide) (of_decide_eq_true (by kernel_rfl)) (by kernel_rfl) (by kernel_rfl) underlying212 underlying3 (by kernel_rfl) (by kernel_rfl) (of_decide_eq_true (by kernel_rfl))
end Go.Proofs.YtncilechkclmbaaGreat

/- Iterators that hand over slices: what is yielded is a pure thing and addresses. No program in sight. -/
namespace Go.Proofs.YtncilechkclmbaaGreat
open Go Go.RowKit Go.Shelf Go.Proofs.Tryz
set_option linter.unusedVariables false
set_option linter.unusedSimpArgs false
set_option linter.unusedSectionVars false
structure SessP (P : Program) (l : Nat) {α β : Type} (enc : α → β → Array Value) (pass : α → β → FP) (Pr : List α → Prop) (J Jx : BS → BS → List α → World → Prop) : Prop where
  gen : ye4 J
  genx : ye4 Jx
  two : ye6 J
  twox : ye6 Jx
  yld : ∀ {T G : BS} {pre : List α} {x : α} {b : β} {W : World}, J T G pre W → Pr (pre ++ [x]) → (pass x b).P (fun k => T k ∨ G k) W →
    YieldAt Fence.wide 1 P l (enc x b) W fun e W' => ∃ T', RK T W T' W' ∧ ((e = .returned (.bool true) ∧ J T' G (pre ++ [x]) W') ∨ (e = .returned (.bool false) ∧ Jx T' G (pre ++ [x]) W'))
section
variable {P : Program} {l : Nat} {α β : Type} {val : α → β → Array Value} {pass : α → β → FP} {Pr : List α → Prop} {J Jx : BS → BS → List α → World → Prop}
end
end Go.Proofs.YtncilechkclmbaaGreat
