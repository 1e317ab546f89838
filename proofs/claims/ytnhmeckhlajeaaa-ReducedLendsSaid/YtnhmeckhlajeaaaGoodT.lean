/- Settling: each firing keeps the bounds and comes nearer to the end. No program in sight. -/
import Derived.Test.YtnhmeckhlajeaaaGoodS
namespace Go.Proofs.Ytnhmeckhlajeaaa
open Go
set_option linter.unusedVariables false
set_option linter.unusedSectionVars false

structure GS0 (n : Nat) (es : List E3) (q : Nat) (D : Int) (d0 d s : List Int) : Prop where
  dl : d.length = n
  sl : s.length = n
  lp : ∀ v, v < n → gi d v = gi d0 v - Lp n es (gi s) v
  pos : ∀ v, v < n → v ≠ q → 0 ≤ gi d v
  off : sm n (fun v => if v = q then 0 else gi d v) ≤ D * 2560
  s0 : ∀ v, v < n → 0 ≤ gi s v
  sq : gi s q ≤ D * 2560
def left' (D : Int) (n : Nat) (s : List Int) : Int := sm n (fun v => D * 2600 - gi s v)
def GS (n : Nat) (es : List E3) (q : Nat) (D : Int) (d0 : List Int) (m : Nat) (d s : List Int) (e : Int) : Prop := e = 0 ∧ GS0 n es q D d0 d s ∧ m = (left' D n s).toNat

/-- The quotients' least. -/
theorem timesS_all {es : List E3} {left : List Bool} {d : List Int} {M : Int} (hM : 0 ≤ M) : ∀ n, (∀ v, v < n → gi d v ≤ M ∨ gb left v = false) → (∀ v, v < n → gb left v = true → joinsF es (v : Int) (fun u => !gb left u.toNat) ≤ gi d v ∧ 0 ≤ joinsF es (v : Int) (fun u => !gb left u.toNat)) →
    0 ≤ timesS es left d n ∧ timesS es left d n ≤ M ∧ ∀ v, v < n → gb left v = true → 0 < joinsF es (v : Int) (fun u => !gb left u.toNat) → 1 ≤ timesS es left d n ∧ timesS es left d n * joinsF es (v : Int) (fun u => !gb left u.toNat) ≤ gi d v
  | 0, _, _ => by simp [timesS]; exact hM
  | n + 1, hd, hj => by
    obtain ⟨i1, i2, i3⟩ := timesS_all hM n (fun v hv => hd v (by omega)) (fun v hv => hj v (by omega))
    rw [timesS]
    by_cases hc : gb left n = true ∧ 0 < joinsF es (n : Int) (fun u => !gb left u.toNat)
    · rw [if_pos hc]
      have h1 := hj n (by omega) hc.1
      have hdM : gi d n ≤ M := by
        rcases hd n (by omega) with h | h
        · exact h
        · rw [hc.1] at h; cases h
      have hJ := hc.2
      have hq1 : (gi d n).tdiv (joinsF es (n : Int) (fun u => !gb left u.toNat)) * joinsF es (n : Int) (fun u => !gb left u.toNat) ≤ gi d n := by
        rw [Int.tdiv_eq_ediv_of_nonneg (by omega)]
        exact Int.ediv_mul_le _ (by omega)
      have hq2 : 1 ≤ (gi d n).tdiv (joinsF es (n : Int) (fun u => !gb left u.toNat)) := by
        rw [Int.tdiv_eq_ediv_of_nonneg (by omega)]
        exact Int.le_ediv_of_mul_le hJ (by omega)
      have hq3 : (gi d n).tdiv (joinsF es (n : Int) (fun u => !gb left u.toNat)) ≤ M := by
        have := Int.mul_le_mul_of_nonneg_left (show 1 ≤ joinsF es (n : Int) (fun u => !gb left u.toNat) by omega) (show 0 ≤ (gi d n).tdiv (joinsF es (n : Int) (fun u => !gb left u.toNat)) by omega)
        omega
      generalize hX : (gi d n).tdiv (joinsF es (n : Int) (fun u => !gb left u.toNat)) = X at *
      by_cases hc2 : timesS es left d n = 0 ∨ X < timesS es left d n
      · rw [if_pos hc2]
        refine ⟨by omega, hq3, fun v hv hl hp => ?_⟩
        by_cases e : v = n
        · subst e; exact ⟨hq2, hq1⟩
        · obtain ⟨j1, j2⟩ := i3 v (by omega) hl hp
          refine ⟨hq2, ?_⟩
          have := Int.mul_le_mul_of_nonneg_right (show X ≤ timesS es left d n by omega) (Int.le_of_lt hp)
          omega
      · rw [if_neg hc2]
        refine ⟨i1, i2, fun v hv hl hp => ?_⟩
        by_cases e : v = n
        · subst e
          refine ⟨by omega, ?_⟩
          have := Int.mul_le_mul_of_nonneg_right (show timesS es left d v ≤ X by omega) (Int.le_of_lt hp)
          omega
        · exact i3 v (by omega) hl hp
    · rw [if_neg hc]
      refine ⟨i1, i2, fun v hv hl hp => ?_⟩
      by_cases e : v = n
      · subst e; exact absurd ⟨hl, hp⟩ hc
      · exact i3 v (by omega) hl hp
theorem gb_left {burnt : List Bool} {n v : Nat} (hl : burnt.length = n) (hv : v < n) : gb (leftOf burnt) v = !gb burnt v := by
  rw [gb_of_lt (by simpa [leftOf] using (by omega : v < burnt.length)), gb_of_lt (by omega)]
  simp [leftOf]
section
variable {n : Nat} {es : List E3} {q : Nat} {D : Int} {d0 : List Int} (hE : EOk n es) (hn : n ≤ 6) (hq : q < n) (hD0 : 0 ≤ D) (hD1 : D ≤ 200) (hC : Conn n es q)
  (hd0 : ∀ v, v < n → -D ≤ gi d0 v ∧ gi d0 v ≤ D)
include hE hn hq hD0 hD1 hC hd0

theorem GS0.bnd {d s : List Int} (h : GS0 n es q D d0 d s) : (∀ v, v < n → gi s v ≤ gi s q + D * 30) ∧ (∀ v, v < n → -(D * 2566) ≤ gi d v ∧ gi d v ≤ D * 2566) ∧ 0 ≤ gi s q := by
  refine ⟨fun v hv => ?_, ?_, h.s0 q hq⟩
  · have hnD : sm n (fun _ => D) ≤ 6 * D := by
      rw [sm_const]
      exact Int.mul_le_mul_of_nonneg_right (by omega) hD0
    have h1 := climb hE hC hq (f := gi s) (G := 6 * D) (by omega) (fun S hS => by
      refine Int.le_trans (sm_le fun v hv => ?_) hnD
      show ite _ _ _ ≤ D
      split
      · rename_i hSv
        have h1 := h.lp v hv
        have h2 := h.pos v hv (fun e => by subst e; rw [hS] at hSv; cases hSv)
        have h3 := hd0 v hv
        omega
      · exact hD0) v hv
    have h2 := low_le (f := gi s) hv
    have h3 := Int.mul_le_mul_of_nonneg_right (show low n (gi s) (gi s v) ≤ 5 by omega) (show 0 ≤ 6 * D by omega)
    omega
  · have hoff0 : ∀ v, v < n → 0 ≤ (if v = q then 0 else gi d v) := fun v hv => by
      split
      · omega
      · rename_i e; exact h.pos v hv e
    have hoffn := sm_nonneg hoff0
    have hoffs := h.off
    have htot : sm n (gi d) = sm n (gi d0) := by
      have h1 := Lp_total (n := n) (es := es) (gi s)
      have h2 : sm n (gi d) = sm n (gi d0) - sm n (fun v => Lp n es (gi s) v) := by
        rw [← sm_sub]
        exact sm_congr fun i hi => h.lp i hi
      omega
    have h6 : sm n (gi d0) ≤ 6 * D ∧ -(6 * D) ≤ sm n (gi d0) := by
      constructor
      · refine Int.le_trans (sm_le fun v hv => (hd0 v hv).2) ?_
        rw [sm_const]; exact Int.mul_le_mul_of_nonneg_right (by omega) hD0
      · have h7 : sm n (fun _ => -D) ≤ sm n (gi d0) := sm_le fun v hv => (hd0 v hv).1
        rw [sm_const] at h7
        have h8 : (n : Int) * D ≤ 6 * D := Int.mul_le_mul_of_nonneg_right (by omega) hD0
        rw [Int.mul_neg] at h7
        omega
    have hsp := sm_split (f := gi d) hq
    intro v hv
    by_cases e : v = q
    · subst e; omega
    · have h8 := sm_ge hoff0 v hv
      rw [if_neg e] at h8
      have h9 := h.pos v hv e
      omega
theorem GS.bnd {m : Nat} {d s : List Int} {e : Int} (h : GS n es q D d0 m d s e) : Bnd 600000 d ∧ Bnd 600000 s := by
  obtain ⟨-, h0, -⟩ := h
  obtain ⟨b1, b2, b3⟩ := h0.bnd hE hn hq hD0 hD1 hC hd0
  have hsq := h0.sq
  constructor
  · intro i
    by_cases hi : i < n
    · have := b2 i hi; omega
    · rw [gi_out h0.dl hi]; omega
  · intro i
    by_cases hi : i < n
    · have := b1 i hi; have := h0.s0 i hi; omega
    · rw [gi_out h0.sl hi]; omega

theorem GS.step {m : Nat} {d s : List Int} {burnt : List Bool} (h : GS n es q D d0 m d s 0) (hB : Burns n es q d burnt) (hany : (leftOf burnt).any id = true) :
    0 ≤ timesS es (leftOf burnt) d n ∧ timesS es (leftOf burnt) d n ≤ 2147483648 ∧ (∀ v, v < n → gb (leftOf burnt) v = true → 0 ≤ gi d v) ∧
      ∃ m', m' < m ∧ GS n es q D d0 m' (fireD es (leftOf burnt) (timesS es (leftOf burnt) d n) d n) (fireS (leftOf burnt) (timesS es (leftOf burnt) d n) s n)
        (fireE (fireD es (leftOf burnt) (timesS es (leftOf burnt) d n) d n) (fireS (leftOf burnt) (timesS es (leftOf burnt) d n) s n) 0 n) := by
  have hb := h.bnd hE hn hq hD0 hD1 hC hd0
  obtain ⟨-, h0, hm⟩ := h
  have hLq : gb (leftOf burnt) q = false := by rw [gb_left hB.len hq, hB.at_q]; rfl
  have hnq : ∀ v, gb (leftOf burnt) v = true → v ≠ q := fun v hv e => by subst e; rw [hLq] at hv; cases hv
  have hjl : ∀ v : Nat, joinsF es (v : Int) (fun u => !gb (leftOf burnt) u.toNat) = sm n (fun u => if gb (leftOf burnt) u = true then 0 else W es v u) := fun v => by
    rw [joins_sum hE]
    exact sm_congr fun u hu => by
      simp only [Int.toNat_natCast]
      by_cases hs : gb (leftOf burnt) u = true
      · simp [hs]
      · simp [hs]
  have hj0 : ∀ v : Nat, 0 ≤ joinsF es (v : Int) (fun u => !gb (leftOf burnt) u.toNat) := fun v => by
    rw [hjl]
    exact sm_nonneg fun u _ => by have := W_nonneg hE v u; split <;> omega
  have hjd : ∀ v, v < n → gb (leftOf burnt) v = true → joinsF es (v : Int) (fun u => !gb (leftOf burnt) u.toNat) ≤ gi d v := fun v hv hl => by
    have h1 := hB.closed v hv (by rw [gb_left hB.len hv] at hl; simpa using hl)
    rw [joins_sum hE] at h1 ⊢
    refine Int.le_trans (Int.le_of_eq (sm_congr fun u hu => ?_)) h1
    simp only [Int.toNat_natCast, gb_left hB.len hu, Bool.not_not]
  obtain ⟨t0, t1, t2⟩ := timesS_all (es := es) (left := leftOf burnt) (d := d) (M := 600000) (by omega) n (fun v hv => .inl (hb.1 v).2) (fun v hv hl => ⟨hjd v hv hl, hj0 v⟩)
  -- a way out
  have hex : ∃ v, v < n ∧ gb (leftOf burnt) v = true := by
    obtain ⟨x, hx, hxt⟩ := List.any_eq_true.1 hany
    obtain ⟨i, hi, hxi⟩ := List.mem_iff_getElem.1 hx
    refine ⟨i, by simpa [leftOf, hB.len] using hi, ?_⟩
    rw [gb_of_lt hi, hxi]; simpa using hxt
  obtain ⟨v, u, hv, hu, hSv, hSu, hW⟩ := hC (gb (leftOf burnt)) hLq hex
  have hjv : 0 < joinsF es (v : Int) (fun u => !gb (leftOf burnt) u.toNat) := by
    rw [hjl]
    have := sm_ge (n := n) (f := fun u => if gb (leftOf burnt) u = true then 0 else W es v u) (fun u _ => by have := W_nonneg hE v u; show 0 ≤ ite _ _ _; split <;> omega) u hu
    simp only [hSu, Bool.false_eq_true, if_false] at this
    omega
  have hT1 := (t2 v hv hSv hjv).1
  clear hex
  refine ⟨t0, by omega, fun v hv hl => h0.pos v hv (hnq v hl), ?_⟩
  generalize timesS es (leftOf burnt) d n = T at *
  have hfd : ∀ v, v < n → gi (fireD es (leftOf burnt) T d n) v = gi d v - T * Lp n es (ind (leftOf burnt)) v := fun v hv => fire_lp hE _ T d h0.dl hv
  have hfs : ∀ v, v < n → gi (fireS (leftOf burnt) T s n) v = gi s v + T * ind (leftOf burnt) v := fun v hv => fireS_ind h0.sl hv
  have hind : ∀ v, 0 ≤ T * ind (leftOf burnt) v := fun v => by unfold ind; split <;> omega
  have hq0 : ind (leftOf burnt) q = 0 := by unfold ind; rw [hLq]; rfl
  have hout : ∀ v, ¬ gb (leftOf burnt) v = true → Lp n es (ind (leftOf burnt)) v ≤ 0 := fun v hl => by
    rw [Lp_ind_out hl]
    have := sm_nonneg (n := n) (f := fun u => if gb (leftOf burnt) u = true then W es v u else 0) (fun u _ => by have := W_nonneg hE v u; show 0 ≤ ite _ _ _; split <;> omega)
    omega
  have hG : GS0 n es q D d0 (fireD es (leftOf burnt) T d n) (fireS (leftOf burnt) T s n) := by
    refine ⟨by rw [fireD_length, h0.dl], by rw [fireS_length, h0.sl], fun v hv => ?_, fun v hv hvq => ?_, ?_, fun v hv => ?_, ?_⟩
    · rw [hfd v hv, Lp_fireS h0.sl hv, h0.lp v hv]; omega
    · rw [hfd v hv]
      have hp := h0.pos v hv hvq
      by_cases hl : gb (leftOf burnt) v = true
      · rw [Lp_ind_in hl, ← hjl]
        by_cases hz : 0 < joinsF es (v : Int) (fun u => !gb (leftOf burnt) u.toNat)
        · have := (t2 v hv hl hz).2; omega
        · have h1 := hj0 v
          rw [show joinsF es (v : Int) (fun u => !gb (leftOf burnt) u.toNat) = 0 by omega]; omega
      · have h1 := hout v hl
        have h2 := Int.mul_nonneg t0 (show 0 ≤ - Lp n es (ind (leftOf burnt)) v by omega)
        rw [Int.mul_neg] at h2; omega
    · have h1 : sm n (fun v => if v = q then 0 else gi (fireD es (leftOf burnt) T d n) v) = sm n (fun v => if v = q then 0 else gi d v) - T * sm n (fun v => if v = q then 0 else Lp n es (ind (leftOf burnt)) v) := by
        rw [← sm_mul, ← sm_sub]
        refine sm_congr fun v hv => ?_
        show ite _ _ _ = ite _ _ _ - T * ite _ _ _
        split
        · omega
        · exact hfd v hv
      have h2 := sm_split (f := Lp n es (ind (leftOf burnt))) hq
      have h3 : sm n (Lp n es (ind (leftOf burnt))) = 0 := Lp_total (n := n) (es := es) (ind (leftOf burnt))
      have h4 := hout q (by rw [hLq]; simp)
      have h5 := Int.mul_nonneg t0 (show 0 ≤ sm n (fun v => if v = q then 0 else Lp n es (ind (leftOf burnt)) v) by omega)
      have := h0.off
      omega
    · rw [hfs v hv]; have := h0.s0 v hv; have := hind v; omega
    · rw [hfs q hq, hq0]; have := h0.sq; omega
  obtain ⟨b1, b2, b3⟩ := hG.bnd hE hn hq hD0 hD1 hC hd0
  have hsq := hG.sq
  refine ⟨_, ?_, fireE_ok (fun j => ?_) (fun j => ?_) 0 n, hG, rfl⟩
  · rw [hm]
    have h1 : 0 ≤ left' D n (fireS (leftOf burnt) T s n) := sm_nonneg fun v hv => by
      show 0 ≤ D * 2600 - gi (fireS (leftOf burnt) T s n) v
      have := b1 v hv; omega
    have h2 : left' D n (fireS (leftOf burnt) T s n) + 1 ≤ left' D n s := by
      unfold left'
      have h3 : sm n (fun v => D * 2600 - gi (fireS (leftOf burnt) T s n) v) = sm n (fun v => D * 2600 - gi s v) - sm n (fun v => T * ind (leftOf burnt) v) := by
        rw [← sm_sub]
        refine sm_congr fun v hv => ?_
        show D * 2600 - gi (fireS (leftOf burnt) T s n) v = _ - _
        rw [hfs v hv]; omega
      have h4 := sm_ge (n := n) (f := fun v => T * ind (leftOf burnt) v) (fun v _ => hind v) v hv
      have h5 : ind (leftOf burnt) v = 1 := by unfold ind; rw [if_pos hSv]
      simp only [h5] at h4
      omega
    omega
  · by_cases hj : j < n
    · have := b2 j hj; omega
    · rw [gi_out hG.dl hj]; omega
  · by_cases hj : j < n
    · have := b1 j hj; have := hG.s0 j hj; omega
    · rw [gi_out hG.sl hj]; omega

theorem GS0.red {d s : List Int} {burnt : List Bool} (h : GS0 n es q D d0 d s) (hB : Burns n es q d burnt) (hany : (leftOf burnt).any id = false) : Red n es q d := by
  refine ⟨h.pos, fun S hS ⟨v, hv, hSv⟩ => ?_⟩
  apply Classical.byContradiction
  intro hno
  have h1 := hB.forced S hS (fun x hx hSx => by
    apply Int.not_lt.1
    intro hlt
    rw [joins_sum hE] at hlt
    refine hno ⟨x, hx, hSx, Int.lt_of_lt_of_le hlt (Int.le_of_eq (sm_congr fun u hu => ?_))⟩
    simp only [Int.toNat_natCast]
    by_cases hs : S u = true
    · simp [hs]
    · simp [hs]) v hv hSv
  have h2 : gb (leftOf burnt) v = true := by rw [gb_left hB.len hv, h1]; rfl
  have hvl : v < (leftOf burnt).length := by simp [leftOf, hB.len, hv]
  rw [gb_of_lt hvl] at h2
  have h3 : (leftOf burnt).any id = true := List.any_eq_true.2 ⟨_, List.getElem_mem hvl, h2⟩
  rw [hany] at h3; cases h3

/-- What lending ends with is what settling starts with. -/
theorem GL.settle {o : List Int} {d s : List Int} {e : Int} (hD : Dist n es q o) (hc : ∀ v, v < n → 0 ≤ gi o v) (ht : tot n es ≤ 18) (h : GL n es q D d0 o 0 d s e) : GS n es q D d0 (left' D n s).toNat d s e := by
  have hF := FF_half hE o ((0 : Nat) : Int)
  have hB := pow_bnd hD0 (show FF n es o ((0 : Nat) : Int) ≤ 9 by omega)
  have hpos : ∀ v, v < n → v ≠ q → 0 ≤ gi d v := fun v hv hvq => h.pos v hv (by
    have h1 := hc v hv
    have h2 : gi o v ≠ 0 := fun e => hvq (hD.zero v hv e)
    omega)
  refine ⟨h.e0, ⟨h.dl, h.sl, h.lp, hpos, ?_, fun v hv => (h.s0 v hv).1, ?_⟩, rfl⟩
  · have h1 : sm n (fun v => if v = q then 0 else gi d v) ≤ sm n (fun v => if v = q then 0 else D * 512) := sm_le fun v hv => by
      show ite _ _ _ ≤ ite _ _ _
      split
      · omega
      · have := h.bd v hv; omega
    have h2 := sm_split (f := fun _ => D * 512) hq
    rw [sm_const] at h2
    have h3 : (n : Int) * (D * 512) ≤ 6 * (D * 512) := Int.mul_le_mul_of_nonneg_right (by omega) (by omega)
    omega
  · have := (h.s0 q hq).2
    have := mul_bnd (n := n) (k := 0) hD0 hn
    omega
end
end Go.Proofs.Ytnhmeckhlajeaaa
