/- Lending: what holds before and behind each level. No program in sight. -/
import Derived.Test.YtnhmeckhlajeaaaMath
namespace Go.Proofs.Ytnhmeckhlajeaaa
open Go
set_option linter.unusedVariables false
set_option linter.unusedSimpArgs false
set_option linter.unusedSectionVars false

/-- Good times for lending: D bounds the chips given. -/
structure GL (n : Nat) (es : List E3) (q : Nat) (D : Int) (d0 : List Int) (o : List Int) (k : Nat) (d s : List Int) (e : Int) : Prop where
  e0 : e = 0
  dl : d.length = n
  sl : s.length = n
  kn : k + 1 ≤ n
  lp : ∀ v, v < n → gi d v = gi d0 v - Lp n es (gi s) v
  bd : ∀ v, v < n → - (D * 2 ^ (FF n es o k).toNat) ≤ gi d v ∧ gi d v ≤ D * 2 ^ (FF n es o k).toNat
  pos : ∀ v, v < n → (k : Int) < gi o v → 0 ≤ gi d v
  s0 : ∀ v, v < n → 0 ≤ gi s v ∧ gi s v ≤ ((n : Int) - 1 - k) * (D * 512)
  sq : ∀ v, v < n → gi s v ≤ gi s q
  same : (∀ v, v < n → v ≠ q → 0 ≤ gi d0 v) → d = d0 ∧ ∀ v, v < n → gi s v = 0

theorem pow_bnd {D x : Int} (hD : 0 ≤ D) (hx : x ≤ 9) : D * 2 ^ x.toNat ≤ D * 512 := by
  refine Int.mul_le_mul_of_nonneg_left ?_ hD
  have : (2 : Nat) ^ x.toNat ≤ 2 ^ 9 := Nat.pow_le_pow_right (by omega) (by omega)
  have h2 : ((2 ^ x.toNat : Nat) : Int) ≤ ((2 ^ 9 : Nat) : Int) := by exact_mod_cast this
  have h3 : ((2 ^ x.toNat : Nat) : Int) = (2 : Int) ^ x.toNat := by push_cast; rfl
  rw [← h3]; exact h2
theorem pow_step {D x c T : Int} (hD : 0 ≤ D) (hx : 0 ≤ x) (hc : 0 ≤ c) (h0 : 0 ≤ T) (hT : T ≤ D * 2 ^ x.toNat) : D * 2 ^ x.toNat + T * c ≤ D * 2 ^ (x + c).toNat := by
  have e : (x + c).toNat = x.toNat + c.toNat := by omega
  rw [e, Int.pow_add, ← Int.mul_assoc]
  generalize hB : D * 2 ^ x.toNat = B at *
  have h1 : T * c ≤ B * c := Int.mul_le_mul_of_nonneg_right hT hc
  have h2 : (c : Int) + 1 ≤ 2 ^ c.toNat := by
    have : c.toNat < 2 ^ c.toNat := Nat.lt_two_pow_self
    have h3 : ((c.toNat : Nat) : Int) < ((2 ^ c.toNat : Nat) : Int) := by exact_mod_cast this
    have h4 : ((2 ^ c.toNat : Nat) : Int) = (2 : Int) ^ c.toNat := by push_cast; rfl
    rw [h4] at h3; omega
  have h5 : B * (c + 1) ≤ B * 2 ^ c.toNat := Int.mul_le_mul_of_nonneg_left h2 (by omega)
  rw [Int.mul_add] at h5
  omega
theorem mul_bnd {n k : Nat} {D : Int} (hD : 0 ≤ D) (hn : n ≤ 6) : ((n : Int) - 1 - k) * (D * 512) ≤ D * 2560 := by
  have : ((n : Int) - 1 - k) * (D * 512) ≤ 5 * (D * 512) := Int.mul_le_mul_of_nonneg_right (by omega) (by omega)
  omega
section
variable {n : Nat} {es : List E3} {q : Nat} {D : Int} {d0 : List Int} (hE : EOk n es) (hn : n ≤ 6) (hq : q < n) (ht : tot n es ≤ 18) (hD0 : 0 ≤ D) (hD1 : D ≤ 200) (hc : ∀ o, Dist n es q o → ∀ v, v < n → 0 ≤ gi o v)
  (hd0 : ∀ v, v < n → -D ≤ gi d0 v ∧ gi d0 v ≤ D) (hdl : d0.length = n)
include hE hn hq ht hD0 hD1 hc hd0 hdl

theorem GL.start (o : List Int) (hD : Dist n es q o) : GL n es q D d0 o (maxTo o n).toNat d0 (List.replicate n 0) 0 := by
  have hm : ∃ j, j < o.length ∧ maxTo o n = gi o j := maxTo_mem o n (by rw [hD.len]; omega) (by rw [hD.len]; omega)
  obtain ⟨j, hj, hmj⟩ := hm
  have hhi := hD.high j
  have h0 : 0 ≤ maxTo o n := by
    have := maxTo_ge o n q hq
    rw [hD.q0] at this; omega
  have hs : ∀ v, gi (List.replicate n 0) v = 0 := fun v => by
    rcases Nat.lt_or_ge v n with h | h
    · rw [gi_of_lt (by simpa using h)]; simp
    · exact gi_ge (by simpa using h)
  have hF : 0 ≤ FF n es o (maxTo o n).toNat := FF_nonneg hE o _
  have h1 : D * 1 ≤ D * 2 ^ (FF n es o (maxTo o n).toNat).toNat := Int.mul_le_mul_of_nonneg_left (by
    have : (0 : Int) < 2 ^ (FF n es o (maxTo o n).toNat).toNat := Int.pow_pos (by omega)
    omega) hD0
  refine ⟨rfl, hdl, by simp, by omega, fun v hv => ?_, fun v hv => ?_, fun v hv h => ?_, fun v hv => ?_, fun v hv => ?_, fun _ => ⟨rfl, fun v hv => hs v⟩⟩
  · rw [Lp_congr (b := fun _ => 0) (fun i _ => hs i) hv, Lp_const]; omega
  · have := hd0 v hv; omega
  · have := maxTo_ge o n v hv; omega
  · rw [hs]
    have : 0 ≤ ((n : Int) - 1 - (maxTo o n).toNat) * (D * 512) := Int.mul_nonneg (by omega) (by omega)
    omega
  · rw [hs, hs]; exact Int.le_refl _

theorem GL.bnd {o : List Int} {k : Nat} {d s : List Int} {e : Int} (h : GL n es q D d0 o k d s e) : Bnd 102400 d ∧ Bnd 512000 s := by
  constructor
  · intro i
    by_cases hi : i < n
    · have h1 := h.bd i hi
      have h2 := FF_half hE o k
      have h3 := pow_bnd hD0 (show FF n es o k ≤ 9 by omega)
      omega
    · rw [gi_out h.dl hi]; omega
  · intro i
    by_cases hi : i < n
    · have h1 := h.s0 i hi
      have h2 := mul_bnd (k := k) hD0 hn
      omega
    · rw [gi_out h.sl hi]; omega

theorem GL.step {o : List Int} {k : Nat} {d s : List Int} (hD : Dist n es q o) (h : GL n es q D d0 o (k + 1) d s 0) :
    timesL es o ((k : Int) + 1) d n ≤ 2147483648 ∧
      (0 < timesL es o ((k : Int) + 1) d n → GL n es q D d0 o k (fireD es (nearOf o ((k : Int) + 1)) (timesL es o ((k : Int) + 1) d n) d n) (fireS (nearOf o ((k : Int) + 1)) (timesL es o ((k : Int) + 1) d n) s n)
        (fireE (fireD es (nearOf o ((k : Int) + 1)) (timesL es o ((k : Int) + 1) d n) d n) (fireS (nearOf o ((k : Int) + 1)) (timesL es o ((k : Int) + 1) d n) s n) 0 n)) ∧
      (¬ 0 < timesL es o ((k : Int) + 1) d n → GL n es q D d0 o k d s 0) := by
  have hb := h.bnd hE hn hq ht hD0 hD1 hc hd0 hdl
  obtain ⟨-, dl, sl, kn, lp, bd, pos, s0, sq, same⟩ := h
  have hcast : ((k + 1 : Nat) : Int) = (k : Int) + 1 := by omega
  rw [hcast] at bd pos s0
  have hF0 := FF_nonneg hE o ((k : Int) + 1)
  have hF1 := FF_half hE o ((k : Int) + 1)
  have hFk1 := FF_half hE o (k : Int)
  have hCC := CC_nonneg hE o ((k : Int) + 1)
  have hFk : FF n es o k = FF n es o ((k : Int) + 1) + CC n es o ((k : Int) + 1) := FF_step n es o k
  have hj : ∀ v, v < n → gi o v = (k : Int) + 1 → 1 ≤ joinsF es (v : Int) (fun u => gb (nearOf o ((k : Int) + 1)) u.toNat) := fun v hv hk => near_pos hD (fun x hx => (hE x hx).2.2.2.2.1) hv hk
  have hcc := hc o hD
  have hol := hD.len
  have hB0 : 0 ≤ D * 2 ^ (FF n es o ((k : Int) + 1)).toNat := Int.mul_nonneg hD0 (Int.le_of_lt (Int.pow_pos (by omega)))
  have hT := timesL_le (es := es) (o := o) (k := (k : Int) + 1) (d := d) hB0 n (fun v hv => by have := bd v hv; omega) hj
  have hBk := pow_bnd hD0 (show FF n es o ((k : Int) + 1) ≤ 9 by omega)
  have hTg := timesL_ge (es := es) (o := o) (k := (k : Int) + 1) (d := d) n hj
  have hTz := timesL_zero (es := es) (o := o) (k := (k : Int) + 1) (d := d) n
  have hst := pow_step hD0 hF0 hCC hT.1 hT.2
  rw [← hFk] at hst
  generalize timesL es o ((k : Int) + 1) d n = T at *
  generalize hC : CC n es o ((k : Int) + 1) = C at *
  generalize D * 2 ^ (FF n es o ((k : Int) + 1)).toNat = B at *
  have hBk' : D * 2 ^ (FF n es o (k : Int)).toNat ≤ D * 512 := pow_bnd hD0 (by omega)
  generalize hBB : D * 2 ^ (FF n es o (k : Int)).toNat = B' at *
  have hTC : 0 ≤ T * C := Int.mul_nonneg hT.1 hCC
  have hsm : ((n : Int) - 1 - ((k : Int) + 1)) * (D * 512) + D * 512 = ((n : Int) - 1 - k) * (D * 512) := by
    have : (n : Int) - 1 - k = ((n : Int) - 1 - ((k : Int) + 1)) + 1 := by omega
    rw [this, Int.add_mul, Int.one_mul]
  refine ⟨by omega, fun hpos => ?_, fun hz => ?_⟩
  · have hfd : ∀ v, v < n → gi (fireD es (nearOf o ((k : Int) + 1)) T d n) v = gi d v - T * Lp n es (ind (nearOf o ((k : Int) + 1))) v := fun v hv => fire_lp hE _ T d dl hv
    have hfs : ∀ v, v < n → gi (fireS (nearOf o ((k : Int) + 1)) T s n) v = gi s v + T * ind (nearOf o ((k : Int) + 1)) v := fun v hv => fireS_ind sl hv
    have hdl' : (fireD es (nearOf o ((k : Int) + 1)) T d n).length = n := by rw [fireD_length, dl]
    have hsl' : (fireS (nearOf o ((k : Int) + 1)) T s n).length = n := by rw [fireS_length, sl]
    have hind : ∀ v, 0 ≤ T * ind (nearOf o ((k : Int) + 1)) v ∧ T * ind (nearOf o ((k : Int) + 1)) v ≤ T := fun v => by unfold ind; split <;> omega
    have hbd : ∀ v, v < n → -B' ≤ gi d v - T * Lp n es (ind (nearOf o ((k : Int) + 1))) v ∧ gi d v - T * Lp n es (ind (nearOf o ((k : Int) + 1))) v ≤ B' := fun v hv => by
      have b := bd v hv
      have mulb : ∀ x : Int, x ≤ C → T * x ≤ T * C := fun x hx => Int.mul_le_mul_of_nonneg_left hx hT.1
      rcases Int.lt_trichotomy (gi o v) ((k : Int) + 1) with h | h | h
      · have h1 := near_in hE hD hcc hv h
        rw [hC] at h1
        have h2 := mulb _ h1.2
        have h3 := Int.mul_nonneg hT.1 h1.1
        omega
      · have h1 := near_at hE hD hcc hv h
        have h4 := joins_sum hE v (fun u => gb (nearOf o ((k : Int) + 1)) u.toNat)
        have h5 : 1 ≤ joinsF es (v : Int) (fun u => gb (nearOf o ((k : Int) + 1)) u.toNat) := hj v hv h
        rw [hC] at h1
        have h2 := mulb (- Lp n es (ind (nearOf o ((k : Int) + 1))) v) (by omega)
        have h3 := Int.mul_nonneg hT.1 (show 0 ≤ - Lp n es (ind (nearOf o ((k : Int) + 1))) v by omega)
        rw [Int.mul_neg] at h2 h3
        omega
      · have h1 := near_out hE hD hcc hv h
        rw [h1]; omega
    have hsb : ∀ v, v < n → 0 ≤ gi s v + T * ind (nearOf o ((k : Int) + 1)) v ∧ gi s v + T * ind (nearOf o ((k : Int) + 1)) v ≤ ((n : Int) - 1 - k) * (D * 512) := fun v hv => by
      have h1 := s0 v hv
      have h2 := hind v
      omega
    have hbig : ((n : Int) - 1 - k) * (D * 512) ≤ D * 2560 := mul_bnd hD0 hn
    refine ⟨fireE_ok (fun j => ?_) (fun j => ?_) 0 n, hdl', hsl', by omega, fun v hv => ?_, fun v hv => ?_, fun v hv hk => ?_, fun v hv => ?_, fun v hv => ?_, fun hs => ?_⟩
    · by_cases hjn : j < n
      · rw [hfd j hjn]
        have h1 := bd j hjn
        have h2 : -1 * (T * C) ≤ 0 := by omega
        have h3 : T * C ≤ B' := by omega
        have h4 := hbd j hjn
        omega
      · rw [gi_out hdl' hjn]; omega
    · by_cases hjn : j < n
      · rw [hfs j hjn]
        have := hsb j hjn
        omega
      · rw [gi_out hsl' hjn]; omega
    · rw [hfd v hv, Lp_fireS sl hv, lp v hv]; omega
    · rw [hfd v hv, hBB]
      exact hbd v hv
    · rw [hfd v hv]
      by_cases h : gi o v = (k : Int) + 1
      · have h1 := near_at hE hD hcc hv h
        rw [h1.1, Int.mul_neg]
        have h2 := hj v hv h
        by_cases hneg : gi d v < 0
        · have := (hTg v hv h hneg).2; omega
        · have := Int.mul_nonneg hT.1 (show 0 ≤ joinsF es (v : Int) (fun u => gb (nearOf o ((k : Int) + 1)) u.toNat) by omega)
          omega
      · rw [near_out hE hD hcc hv (by omega)]
        have := pos v hv (by omega)
        omega
    · rw [hfs v hv]; exact hsb v hv
    · rw [hfs v hv, hfs q hq]
      have h1 : ind (nearOf o ((k : Int) + 1)) q = 1 := by
        unfold ind
        rw [if_pos]
        rw [gb_near (by omega), hD.q0]; simp <;> omega
      have h2 := hind v
      have h3 := sq v hv
      rw [h1]; omega
    · exfalso
      obtain ⟨rfl, hs2⟩ := same hs
      have := hTz (fun v hv hk => hs v hv (fun e => by subst e; rw [hD.q0] at hk; omega))
      omega
  · have hT0 : T = 0 := by omega
    subst hT0
    refine ⟨rfl, dl, sl, by omega, lp, fun v hv => by have := bd v hv; rw [hBB]; omega, fun v hv hk => ?_, fun v hv => ?_, sq, same⟩
    · by_cases h : gi o v = (k : Int) + 1
      · apply Int.not_lt.1
        intro hneg
        have := (hTg v hv h hneg).1
        omega
      · exact pos v hv (by omega)
    · have := s0 v hv; omega
end
end Go.Proofs.Ytnhmeckhlajeaaa
