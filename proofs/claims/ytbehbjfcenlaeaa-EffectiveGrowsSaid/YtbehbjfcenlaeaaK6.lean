/- Texts laid together: SpW, SpP, SpF, L36, Gen, SpN, Lw36, Lw36b, Lw36c. -/
import Derived.Test.YtbehbjfcenlaeaaK5
/- What the pure forms of 'effective' and of its reference come to. -/
namespace Go.Proofs.Ytbehbjfcenlaeaa
open Go
set_option linter.unusedVariables false
set_option linter.unusedSimpArgs false

/-! ### The reference: borrowing -/
theorem win_dg {n : Nat} {es : List E3} {d : List Int} (hd : d.length = n) (h : Win n es d) : 0 ≤ dg d := by
  obtain ⟨s, hs⟩ := h
  have h1 : 0 ≤ sm n (fun v => gi d v - Lp n es s v) := sm_nonneg hs
  rw [sm_sub, Lp_total] at h1
  unfold dg
  rw [hd]; omega
/-! ### Prices -/
/-- Chips more at a vertex. -/
def addAt (d : List Int) (v : Nat) (k : Int) : List Int := d.set v (gi d v + k)
theorem addAt_length (d : List Int) (v : Nat) (k : Int) : (addAt d v k).length = d.length := by simp [addAt]
theorem gi_addAt {d : List Int} {v : Nat} (hv : v < d.length) (k : Int) (i : Nat) : gi (addAt d v k) i = if i = v then gi d v + k else gi d i := by unfold addAt; rw [gi_set hv]
theorem red_addAt {n : Nat} {es : List E3} {v : Nat} {r : List Int} (hr : Red n es v r) (hl : r.length = n) (hv : v < n) (j : Int) : Red n es v (addAt r v j) := by
  refine ⟨fun u hu hne => by rw [gi_addAt (by omega), if_neg hne]; exact hr.pos u hu hne, fun S hS hex => ?_⟩
  obtain ⟨u, hu, hSu, hlt⟩ := hr.no S hS hex
  refine ⟨u, hu, hSu, ?_⟩
  rw [gi_addAt (by omega), if_neg (fun e => by rw [e, hS] at hSu; cases hSu)]
  exact hlt
/-- How many chips more at v are enough. -/
theorem win_price {n : Nat} {es : List E3} {v : Nat} {d r s : List Int} (hE : EOk n es) (hv : v < n) (hd : d.length = n) (h : Reduces n es v d r s) (j : Int) : Win n es (addAt d v j) ↔ -gi r v ≤ j := by
  have hl := h.dl
  rw [win_red hE hv (red_addAt h.red hl hv j) (s := gi s) fun u hu => ?_, gi_addAt (by omega), if_pos rfl]
  · omega
  · rw [gi_addAt (by omega), gi_addAt (by omega), h.lp u hu]
    split
    · rename_i e; rw [e, h.lp v hv]; omega
    · rfl
theorem win_zero {n : Nat} {es : List E3} {d : List Int} {v : Nat} (hv : v < d.length) : addAt d v 0 = d := by
  refine gi_ext (addAt_length _ _ _) fun i hi => ?_
  rw [gi_addAt hv]
  split
  · rename_i e; rw [e]; omega
  · rfl
/-- A reduced divisor has few chips away from q. -/
theorem red_few {n : Nat} {es : List E3} {q : Nat} {r : List Int} (hE : EOk n es) (hq : q < n) (hl : r.length = n) (hr : Red n es q r) : dg r - gi r q ≤ tot n es := by
  have h1 : ∀ v, v < n → (if v = q then 0 else gi r v) ≤ sm n (fun u => W es v u) := fun v hv => by
    by_cases e : v = q
    · rw [if_pos e]; exact sm_nonneg fun u _ => W_nonneg hE v u
    · rw [if_neg e]
      obtain ⟨x, hx, hSx, hlt⟩ := hr.no (fun x => decide (x = v)) (by simp; exact fun h => e h.symm) ⟨v, hv, by simp⟩
      have hxv : x = v := by simpa using hSx
      subst hxv
      refine Int.le_trans (Int.le_of_lt hlt) (sm_le fun u hu => ?_)
      have := W_nonneg hE x u
      show (if _ then _ else _) ≤ _
      split <;> omega
  have h2 := sm_le h1
  have h3 := sm_split (f := gi r) hq
  unfold dg tot
  rw [hl]
  have h4 : sm n (fun v => if v = q then 0 else gi r v) ≤ sm n (fun v => sm n (fun u => W es v u)) := h2
  omega

/-! ### Proofs of a win, of a loss -/
theorem given0 {n : Int} {es : List E3} {d : List Int} : givenF n es 0 d = if joinedE n es = 0 then checkF d n else joinedE n es := by
  unfold givenF joinedE
  by_cases h1 : gcheckF n es = 0
  · rw [if_pos h1, if_pos h1]
    have hn : 1 ≤ n := by
      unfold gcheckF at h1
      split at h1
      · omega
      · omega
    by_cases h2 : connF n es = true
    · rw [if_pos h2, if_pos h2, if_pos rfl, if_pos (by omega)]
    · rw [if_neg h2, if_neg h2, if_neg (by omega)]
  · rw [if_neg h1, if_neg h1, if_neg h1]
theorem p_effective_given {n : Int} {es : List E3} {d : List Int} {R : Int → Prop} (hl : es.length ≤ 1000) (hdl : d.length ≤ 1000000000) (h : R (givenF n es 0 d)) : pf_effective_given n es d R :=
  ⟨hl, hdl, fun _ _ _ => h⟩
theorem p_effective_led {n : Nat} {es : List E3} {d s : List Int} {R : List Int → Prop} (hl : es.length ≤ 1000) (hg : gcheckF n es = 0) (hdl : d.length = n) (hd : ∀ j, j < n → -1000000000000000 ≤ gi d j ∧ gi d j ≤ 1000000000000000) (hsl : s.length = n) (hs : ∀ j, j < n → -2000000000 ≤ gi s j ∧ gi s j ≤ 2000000000) (h : R (appF n es d s)) : pf_effective_led (n : Int) es d s R := by
  obtain ⟨hE, hn1, hn12⟩ := gcheck_ok hg
  unfold pf_effective_led
  refine p_slices_Clone_Divisor (by omega) ?_
  refine ⟨fun m v out => Cnt es.length (fun k => out = appF n (es.take k) d s) m v, Cnt.start (app_start hdl), ?_⟩
  rintro m _ out ⟨k, rfl, rfl, hk, rfl⟩
  simp only [Int.toNat_natCast]
  refine ⟨fun hlt => ⟨by omega, ?_⟩, fun hge => ?_⟩
  · have hlt : k < es.length := by omega
    have hx := hE _ (ge_mem hlt)
    have hf := flow_bound (x := ge es k) (s := gi s) (by omega) (hs _ (by omega)) (hs _ (by omega))
    have ha := hs (ge es k).1.toNat (by omega)
    have hb := hs (ge es k).2.1.toNat (by omega)
    have hal : (appF n (es.take k) d s).length = n := appF_length
    have h1 : ∀ j, j < n → gi (appF n (es.take k) d s) j = gi d j - Lp n (es.take k) (gi s) j := fun j hj => gi_tab _ hj
    have hbd : ∀ j, j < n → -2000000000000000 ≤ gi (appF n (es.take k) d s) j ∧ gi (appF n (es.take k) d s) j ≤ 2000000000000000 := fun j hj => by
      have := Lp_take_bound hE hs hj k (by omega)
      have := hd j hj
      rw [h1 j hj]; omega
    have b1 := hbd (ge es k).1.toNat (by omega)
    have b2 := hbd (ge es k).2.1.toNat (by omega)
    refine ⟨by omega, by omega, i64 (by omega), i64 (by omega), by omega, i64 (by omega), by rw [List.length_set]; omega, ?_, Cnt.next hlt (by omega) (edge_step hE hlt)⟩
    rw [gi_set (by omega)]
    split
    · exact i64 (by omega)
    · exact i64 (by omega)
  · have hk2 : k = es.length := by omega
    rw [hk2, List.take_length]; exact h
/-- The error of a proof that a divisor is winnable. -/
def winE (n : Int) (es : List E3) (d s : List Int) : Int := if givenF n es 0 d = 0 then (if checkF s n = 0 then (if paidF (appF n.toNat es d s) = true then 0 else 16) else checkF s n) else givenF n es 0 d
theorem p_effective_paid {d : List Int} {R : Bool → Prop} (hl : d.length ≤ 1000000000) (h0 : 0 < d.length) (h : R (paidF d)) : pf_effective_paid_v2 d R := by
  unfold pf_effective_paid_v2
  refine p_slices_Min hl h0 fun m ⟨k, hk, hm⟩ hall => ?_
  have e : decide (0 ≤ m) = paidF d := by
    rw [Bool.eq_iff_iff, decide_eq_true_eq, paidF_iff]
    exact ⟨fun h v hv => by have := hall v hv; omega, fun h => by have := h k hk; omega⟩
  rw [e]; exact h
theorem p_effective_VerifyWin {n : Int} {es : List E3} {d s : List Int} {R : Int → Prop} (hl : es.length ≤ 1000) (hdl : d.length ≤ 1000000000) (h : R (winE n es d s)) : pf_effective_VerifyWin n es d s R := by
  unfold pf_effective_VerifyWin
  unfold winE at h
  refine p_effective_given hl hdl ⟨fun h0 => ?_, fun h0 => by rwa [if_neg h0] at h⟩
  rw [if_pos h0] at h
  obtain ⟨k1, k2, k3, k4, k5⟩ := givenF_ok h0
  obtain ⟨n, rfl⟩ : ∃ n' : Nat, n = (n' : Int) := ⟨n.toNat, by omega⟩
  obtain ⟨hE, hn1, hn12⟩ := gcheck_ok k1
  obtain ⟨hdl, -, -, hdb⟩ := checkF_ok k5
  have hf : fgivenF n es s = checkF s n := by unfold fgivenF; rw [if_pos k1]
  unfold pf_effective_proof_check
  refine p_firing_Check (by omega) ⟨fun h1 => ?_, fun h1 => ?_⟩
  · rw [hf] at h1
    rw [if_pos h1] at h
    obtain ⟨hsl, -, -, hsb⟩ := checkF_ok h1
    simp only [Int.toNat_natCast] at h
    refine p_effective_led hl k1 hdl (fun j hj => by have := hdb j hj; omega) hsl (fun j hj => by have := hsb j hj; omega) (p_effective_paid (by rw [appF_length]; omega) (by rw [appF_length]; omega) ⟨fun q => ?_, fun q => ?_⟩)
    · rwa [if_pos q] at h
    · rwa [if_neg q] at h
  · rw [hf] at h1
    rw [if_neg h1] at h
    rw [hf]; exact h
/-- The error of a proof that a divisor is not winnable. -/
def LossOk (n : Int) (es : List E3) (q : Int) (d s : List Int) (e : Int) : Prop :=
  (givenF n es q d ≠ 0 ∧ e = givenF n es q d) ∨ (givenF n es q d = 0 ∧ checkF s n ≠ 0 ∧ e = checkF s n) ∨
  (givenF n es q d = 0 ∧ checkF s n = 0 ∧ (Red n.toNat es q.toNat (appF n.toNat es d s) ∧ gi (appF n.toNat es d s) q.toNat < 0) ∧ e = 0) ∨
  (givenF n es q d = 0 ∧ checkF s n = 0 ∧ ¬ (Red n.toNat es q.toNat (appF n.toNat es d s) ∧ gi (appF n.toNat es d s) q.toNat < 0) ∧ e = 16)
theorem LossOk.eq {n : Int} {es : List E3} {q : Int} {d s : List Int} {e e' : Int} (h : LossOk n es q d s e) (h' : LossOk n es q d s e') : e = e' := by
  rcases h with h | h | h | h <;> rcases h' with h' | h' | h' | h' <;> first | (exact absurd h'.2.2.1 h.2.2.1) | (exact absurd h.2.2.1 h'.2.2.1) | (rw [h.2.2.2, h'.2.2.2]; done) | (rw [h.2, h'.2]; done) | (exact absurd h'.1 h.1) | (exact absurd h.1 h'.1) | (rw [h.2.2, h'.2.2]; done) | (exact absurd h'.2.1 h.2.1) | (exact absurd h.2.1 h'.2.1)
theorem red_set {n : Nat} {es : List E3} {q : Nat} {x : List Int} (hl : x.length = n) (hq : q < n) (z : Int) : Red n es q (x.set q z) ↔ Red n es q x := by
  have hg : ∀ v, v ≠ q → gi (x.set q z) v = gi x v := fun v hv => by rw [gi_set (by omega), if_neg hv]
  constructor
  · rintro ⟨h1, h2⟩
    refine ⟨fun v hv hne => by rw [← hg v hne]; exact h1 v hv hne, fun S hS hex => ?_⟩
    obtain ⟨v, hv, hSv, hlt⟩ := h2 S hS hex
    exact ⟨v, hv, hSv, by rw [← hg v (fun e => by rw [e, hS] at hSv; cases hSv)]; exact hlt⟩
  · rintro ⟨h1, h2⟩
    refine ⟨fun v hv hne => by rw [hg v hne]; exact h1 v hv hne, fun S hS hex => ?_⟩
    obtain ⟨v, hv, hSv, hlt⟩ := h2 S hS hex
    exact ⟨v, hv, hSv, by rw [hg v (fun e => by rw [e, hS] at hSv; cases hSv)]; exact hlt⟩
theorem red_lt {n : Nat} {es : List E3} {q : Nat} {r : List Int} (hE : EOk n es) (hr : Red n es q r) {v : Nat} (hv : v < n) (hne : v ≠ q) : gi r v < deg n es v := by
  obtain ⟨x, hx, hSx, hlt⟩ := hr.no (fun x => decide (x = v)) (by simp; exact fun h => hne h.symm) ⟨v, hv, by simp⟩
  have hxv : x = v := by simpa using hSx
  subst hxv
  refine Int.lt_of_lt_of_le hlt (sm_le fun u hu => ?_)
  have := W_nonneg hE x u
  show (if _ then _ else _) ≤ _
  split <;> omega
theorem p_effective_VerifyLoss {n q : Int} {es : List E3} {d s : List Int} {R : Int → Prop} (hl : es.length ≤ 1000) (hdl : d.length ≤ 1000000000) (h : ∀ e, LossOk n es q d s e → R e) : pf_effective_VerifyLoss n es q d s R := by
  unfold pf_effective_VerifyLoss
  refine ⟨hl, hdl, fun b _ _ => ⟨fun h0 => ?_, fun h0 => h _ (.inl ⟨h0, rfl⟩)⟩⟩
  obtain ⟨k1, k2, k3, k4, k5⟩ := givenF_ok h0
  obtain ⟨n, rfl⟩ : ∃ n' : Nat, n = (n' : Int) := ⟨n.toNat, by omega⟩
  obtain ⟨q, rfl⟩ : ∃ q' : Nat, q = (q' : Int) := ⟨q.toNat, by omega⟩
  obtain ⟨hE, hn1, hn12⟩ := gcheck_ok k1
  obtain ⟨hdl, -, -, hdb⟩ := checkF_ok k5
  have hf : fgivenF n es s = checkF s n := by unfold fgivenF; rw [if_pos k1]
  unfold pf_effective_proof_check_v2
  refine p_firing_Check (by omega) ⟨fun h1 => ?_, fun h1 => ?_⟩
  · rw [hf] at h1
    obtain ⟨hsl, -, -, hsb⟩ := checkF_ok h1
    have yes : (Red n es q (appF n es d s) ∧ gi (appF n es d s) q < 0) → R 0 := fun hy => h _ (.inr (.inr (.inl ⟨h0, h1, hy, rfl⟩)))
    have nay : ¬ (Red n es q (appF n es d s) ∧ gi (appF n es d s) q < 0) → R 16 := fun hy => h _ (.inr (.inr (.inr ⟨h0, h1, hy, rfl⟩)))
    refine p_effective_led hl k1 hdl (fun j hj => by have := hdb j hj; omega) hsl (fun j hj => by have := hsb j hj; omega) ?_
    have hxl : (appF n es d s).length = n := appF_length
    generalize appF n es d s = x at yes nay hxl ⊢
    unfold pf_effective_VerifyLoss_1_v2
    simp only [Int.toNat_natCast]
    refine ⟨by omega, hl, by rw [List.length_set]; omega, fun r c1 c2 => ⟨fun hneg => ⟨fun hr => ?_, fun hr => ⟨fun q => (by cases q), fun _ => nay fun hy => ?_⟩⟩, fun hneg => ⟨fun q => (by cases q), fun _ => nay fun hy => hneg hy.2⟩⟩⟩
    · have hg : givenF n es q (x.set q 0) = 0 := Classical.not_not.1 fun hne => by rw [c1 hne] at hr; cases hr
      rw [hg]
      simp only [Int.toNat_natCast] at c2
      exact ⟨fun _ => yes ⟨(red_set hxl (by omega) 0).1 ((c2 hg).1 hr), hneg⟩, fun q => absurd (decide_eq_true rfl) q⟩
    · have hc : checkF (x.set q 0) n = 0 := checkF_of (by rw [List.length_set, hxl]) hn1 hn12 fun j hj => by
        rw [gi_set (by omega)]
        split
        · omega
        · rename_i e
          have a1 := hy.1.pos j hj e
          have a2 := red_lt hE hy.1 hj e
          have a3 := deg_le k1 hn12 (n := n) j
          omega
      have hg : givenF n es q (x.set q 0) = 0 := by unfold givenF; rw [if_pos k1, if_pos k2, if_pos ⟨k3, k4⟩, hc]
      simp only [Int.toNat_natCast] at c2
      exact hr ((c2 hg).2 ((red_set hxl (by omega) 0).2 hy.1))
  · rw [hf] at h1
    rw [hf]
    exact h _ (.inr (.inl ⟨h0, h1, rfl⟩))
end Go.Proofs.Ytbehbjfcenlaeaa

/- What Winnable, Price and Needy come to, and their references. -/
namespace Go.Proofs.Ytbehbjfcenlaeaa
open Go
set_option linter.unusedVariables false
set_option linter.unusedSimpArgs false

theorem bool_of (p : Nat → Prop) : ∃ f : Nat → Bool, ∀ v, f v = true ↔ p v := ⟨fun v => @decide (p v) (Classical.propDecidable _), fun v => by simp⟩
/-- What a graph and a divisor that are right give. -/
theorem given_all {n : Nat} {es : List E3} {q : Nat} {d : List Int} (h : givenF n es q d = 0) : EOk n es ∧ 1 ≤ n ∧ n ≤ 12 ∧ gcheckF n es = 0 ∧ connF n es = true ∧ q < n ∧ d.length = n ∧ checkF d n = 0 := by
  obtain ⟨k1, k2, k3, k4, k5⟩ := givenF_ok h
  obtain ⟨hE, hn1, hn12⟩ := gcheck_ok k1
  exact ⟨hE, hn1, hn12, k1, k2, by omega, (checkF_ok k5).1, k5⟩
theorem given_at {n : Int} {es : List E3} {d : List Int} (h : givenF n es 0 d = 0) {v : Int} (hv : 0 ≤ v ∧ v < n) : givenF n es v d = 0 := by
  obtain ⟨k1, k2, k3, k4, k5⟩ := givenF_ok h
  unfold givenF
  rw [if_pos k1, if_pos k2, if_pos hv, k5]
theorem p_effective_Winnable {n : Int} {es : List E3} {d : List Int} {R : Bool → List Int → List Int → Int → Prop} (hS : Small n es d ∨ RedIn n es 0 d) (hdl : d.length ≤ 1000000000) (h0 : givenF n es 0 d ≠ 0 → R false [] [] (givenF n es 0 d))
    (h1 : givenF n es 0 d = 0 → ∀ r s, Reduces n.toNat es 0 d r s → ∀ b, (b = true ↔ Win n.toNat es d) → R b r s 0) : pf_effective_Winnable n es d R := by
  unfold pf_effective_Winnable
  refine ⟨hS, hdl, fun h => ⟨fun q => absurd q h, fun _ => h0 h⟩, fun h r s hr hrl hsl => ?_⟩
  obtain ⟨n, rfl⟩ : ∃ n' : Nat, n = (n' : Int) := ⟨n.toNat, by have := givenF_ok h; omega⟩
  obtain ⟨hE, hn1, hn12, hg, hc, -, hd, -⟩ := given_all (q := 0) h
  have e0 : (0 : Int).toNat = 0 := rfl
  simp only [Int.toNat_natCast, e0] at hr hrl hsl h1 ⊢
  refine ⟨fun _ => ⟨by omega, h1 h r s hr _ ?_⟩, fun q => absurd trivial q⟩
  rw [decide_eq_true_eq, win_red hE (by omega) hr.red hr.lp]
/-- The price of a divisor at a vertex. -/
structure PriceOk (n : Nat) (es : List E3) (d : List Int) (v : Nat) (k : Int) : Prop where
  pos : 0 ≤ k
  few : k = 0 ∨ k ≤ 18 - dg d
  iff : ∀ j, 0 ≤ j → (Win n es (addAt d v j) ↔ k ≤ j)
theorem PriceOk.eq {n : Nat} {es : List E3} {d : List Int} {v : Nat} {k k' : Int} (h : PriceOk n es d v k) (h' : PriceOk n es d v k') : k = k' := by
  have h1 := h.pos
  have h2 := h'.pos
  have h3 := (h'.iff k h1).1 ((h.iff k h1).2 (Int.le_refl _))
  have h4 := (h.iff k' h2).1 ((h'.iff k' h2).2 (Int.le_refl _))
  omega
theorem tot_few {n : Nat} {es : List E3} (hE : EOk n es) (hn : 1 ≤ n) (h12 : n ≤ 12) (hs : (es.map (·.2.2)).sum ≤ 9) : tot n es ≤ 18 := by
  have := tot_le hE hn h12; omega
theorem dg_lp {n : Nat} {es : List E3} {x d : List Int} {s : Nat → Int} (hx : x.length = n) (hd : d.length = n) (h : ∀ v, v < n → gi x v = gi d v - Lp n es s v) : dg x = dg d := by
  unfold dg
  rw [hx, hd, sm_congr (g := fun v => gi d v - Lp n es s v) h, sm_sub, Lp_total]; omega
theorem price_of {n : Nat} {es : List E3} {d r s : List Int} {v : Nat} (hE : EOk n es) (ht : tot n es ≤ 18) (hv : v < n) (hd : d.length = n) (h : Reduces n es v d r s) : PriceOk n es d v (mxF 0 (-gi r v)) := by
  have h1 := red_few hE hv h.dl h.red
  have h2 := dg_lp h.dl hd h.lp
  rw [mxF_eq]
  refine ⟨by omega, by omega, fun j hj => ?_⟩
  rw [win_price hE hv hd h]
  omega
theorem p_effective_price {n : Int} {v : Nat} {es : List E3} {d : List Int} {R : Int → Int → Prop} (hS : Small n es d) (hdl : d.length ≤ 1000000000) (hg : givenF n es v d = 0) (h : ∀ k, PriceOk n.toNat es d v k → R k 0) : pf_effective_price n es d (v : Int) R := by
  unfold pf_effective_price
  refine ⟨.inl hS, hdl, fun q => absurd hg q, fun _ r s hr hrl hsl => ⟨fun _ => ?_, fun q => absurd rfl q⟩⟩
  obtain ⟨n, rfl⟩ : ∃ n' : Nat, n = (n' : Int) := ⟨n.toNat, by have := givenF_ok hg; omega⟩
  obtain ⟨hE, hn1, hn12, hg1, hc, hv, hd, -⟩ := given_all hg
  simp only [Int.toNat_natCast] at hr hrl hsl h ⊢
  have hb := hr.bd v hv
  exact ⟨by omega, i64 (by omega), h _ (price_of hE (tot_few hE hn1 hn12 (hS.g hg1).2) hv hd hr)⟩
theorem p_effective_Price {n v : Int} {es : List E3} {d : List Int} {R : Int → Int → Prop} (hS : Small n es d) (hdl : d.length ≤ 1000000000) (h0 : givenF n es 0 d ≠ 0 → R 0 (givenF n es 0 d)) (h1 : givenF n es 0 d = 0 → ¬ (0 ≤ v ∧ v < n) → R 0 2)
    (h2 : givenF n es 0 d = 0 → ∀ v' : Nat, v = v' → v' < n.toNat → ∀ k, PriceOk n.toNat es d v' k → R k 0) : pf_effective_Price n es d v R := by
  unfold pf_effective_Price
  refine p_effective_given (by have := hS.el; omega) hdl ⟨fun hg => ?_, h0⟩
  have out : ¬ (0 ≤ v ∧ v < n) → R 0 2 := h1 hg
  refine ⟨0 ≤ v ∧ v < n, fun hv => ?_, fun q => out (by omega), fun q => ⟨fun q2 => out (by omega), fun q2 => ⟨by omega, by omega⟩⟩⟩
  obtain ⟨v', rfl⟩ : ∃ v' : Nat, v = (v' : Int) := ⟨v.toNat, by omega⟩
  exact p_effective_price hS hdl (given_at hg hv) (h2 hg v' rfl (by omega))
/-- Numbers as integers. -/
def castL (l : List Nat) : List Int := l.map fun v : Nat => (v : Int)
/-- The vertices at which one chip more is enough. -/
def NeedyOk (n : Nat) (es : List E3) (d : List Int) (out : List Int) : Prop := ∃ f : Nat → Bool, (∀ v, v < n → (f v = true ↔ Win n es (addAt d v 1))) ∧ out = castL ((List.range n).filter f)
theorem NeedyOk.eq {n : Nat} {es : List E3} {d o o' : List Int} (h : NeedyOk n es d o) (h' : NeedyOk n es d o') : o = o' := by
  obtain ⟨f, hf, rfl⟩ := h
  obtain ⟨f', hf', rfl⟩ := h'
  congr 1
  refine List.filter_congr fun v hv => ?_
  rw [List.mem_range] at hv
  rw [Bool.eq_iff_iff, hf v hv, hf' v hv]
theorem filt_yes {f : Nat → Bool} {k : Nat} (h : f k = true) : castL ((List.range (k + 1)).filter f) = castL ((List.range k).filter f) ++ [(k : Int)] := by
  unfold castL; rw [List.range_succ, List.filter_append, List.map_append]; simp [h]
theorem filt_no {f : Nat → Bool} {k : Nat} (h : f k ≠ true) : castL ((List.range (k + 1)).filter f) = castL ((List.range k).filter f) := by
  unfold castL; rw [List.range_succ, List.filter_append, List.map_append]; simp [h]
theorem filt_len (f : Nat → Bool) (k : Nat) : (castL ((List.range k).filter f)).length ≤ k := by
  unfold castL
  rw [List.length_map]
  refine Nat.le_trans (List.length_filter_le _ _) ?_
  simp
theorem p_effective_Needy {n : Int} {es : List E3} {d : List Int} {R : List Int → Int → Prop} (hS : Small n es d) (hdl : d.length ≤ 1000000000) (h0 : givenF n es 0 d ≠ 0 → R [] (givenF n es 0 d)) (h1 : givenF n es 0 d = 0 → Win n.toNat es d → R [] 15)
    (h2 : givenF n es 0 d = 0 → ¬ Win n.toNat es d → ∀ out, NeedyOk n.toNat es d out → R out 0) : pf_effective_Needy n es d R := by
  unfold pf_effective_Needy
  refine p_effective_Winnable (.inl hS) hdl (fun h => ⟨fun q => absurd q h, fun _ => h0 h⟩) (fun hg r s hr b hb => ⟨fun _ => ⟨fun hw => h1 hg (hb.1 hw), fun hw => ?_⟩, fun q => absurd rfl q⟩)
  have hnw : ¬ Win n.toNat es d := fun q => hw (hb.2 q)
  obtain ⟨n, rfl⟩ : ∃ n' : Nat, n = (n' : Int) := ⟨n.toNat, by have := givenF_ok hg; omega⟩
  obtain ⟨hE, hn1, hn12, hg1, hc, -, hd, -⟩ := given_all (q := 0) hg
  simp only [Int.toNat_natCast] at h2 hnw hr
  obtain ⟨f, hf⟩ := bool_of fun v => Win n es (addAt d v 1)
  refine ⟨fun l => ∀ (i : Nat) x, l[i]? = some x → i < n ∧ PriceOk n es d i x.1 ∧ x.2 = 0, fun l => l.length = n, ?_, fun pre out v => v = (pre.length : Int) ∧ pre.length ≤ n ∧ out = castL ((List.range pre.length).filter f), ⟨rfl, by simp, rfl⟩, ?_, ?_⟩
  · unfold pf_effective_prices_1
    refine ⟨fun m l v => v = (l.length : Int) ∧ l.length ≤ n ∧ m = n - l.length ∧ ∀ (i : Nat) x, l[i]? = some x → i < n ∧ PriceOk n es d i x.1 ∧ x.2 = 0, ⟨_, rfl, by simp, rfl, by simp⟩, ?_⟩
    rintro m l _ ⟨rfl, hl, rfl, hP⟩
    refine ⟨fun hlt => p_effective_price hS hdl (given_at hg (by omega)) fun k hk => ?_, fun hge => by omega⟩
    simp only [Int.toNat_natCast] at hk
    have hP2 : ∀ (i : Nat) x, (l ++ [(k, (0 : Int))])[i]? = some x → i < n ∧ PriceOk n es d i x.1 ∧ x.2 = 0 := fun i x hx => by
      by_cases e : i < l.length
      · rw [List.getElem?_append_left e] at hx; exact hP i x hx
      · rw [List.getElem?_append_right (by omega)] at hx
        have e2 : i = l.length := by
          have := (List.getElem?_eq_some_iff.1 hx).1
          simp at this; omega
        subst e2
        simp at hx
        subst hx
        exact ⟨by omega, hk, rfl⟩
    exact ⟨hP2, ⟨fun _ => ⟨i64 (by omega), n - (l.length + 1), by omega, by simp, by simp; omega, by simp, hP2⟩, fun q => absurd rfl q⟩, trivial⟩
  · rintro pre y y2 out v ⟨rfl, hpl, rfl⟩ hPr
    obtain ⟨hin, hpk, hy2⟩ := hPr pre.length (y, y2) (by simp)
    simp only at hpk hy2
    have h1y : (y = 1 ↔ f pre.length = true) := by
      rw [hf, hpk.iff 1 (by omega)]
      have h0n : ¬ y ≤ 0 := fun q => hnw (by have := (hpk.iff 0 (by omega)).2 q; rwa [win_zero (n := n) (es := es) (by omega)] at this)
      omega
    refine ⟨fun _ => ⟨fun e => ?_, fun e => ?_⟩, fun q => absurd hy2 q⟩
    · have := filt_len f pre.length
      refine ⟨by omega, i64 (by omega), by simp, by simp; omega, ?_⟩
      rw [List.length_append, List.length_singleton, filt_yes (h1y.1 e)]
    · refine ⟨i64 (by omega), by simp, by simp; omega, ?_⟩
      rw [List.length_append, List.length_singleton, filt_no (fun q => e (h1y.2 q))]
  · rintro ys out v ⟨rfl, hpl, rfl⟩ hlen
    rw [hlen]
    exact h2 hg hnw _ ⟨f, fun v _ => hf v, rfl⟩
/-! ### The reference -/
end Go.Proofs.Ytbehbjfcenlaeaa

/- What firing a set comes to. -/
namespace Go.Proofs.Ytbehbjfcenlaeaa
open Go
set_option linter.unusedVariables false
set_option linter.unusedSimpArgs false

section
variable {n : Nat} {es : List E3} {d : List Int} {set : List Int}
end
/-! ### Sets as lists -/
end Go.Proofs.Ytbehbjfcenlaeaa

/- Words for the laws of layer 36: what its small functions come to; the chapter's examples come out right. -/
namespace Go.Proofs.Ytbehbjfcenlaeaa
open Go
set_option linter.unusedVariables false
set_option linter.unusedSimpArgs false

/-- Reduced, by trying all sets. -/
theorem red_of_dec {n : Nat} {es : List E3} {q : Nat} {d : List Int} (hq : q < n) (h1 : ∀ v, v < n → v ≠ q → 0 ≤ gi d v) (h2 : ∀ m, m < 2 ^ n → 1 ≤ m → m.testBit q = false → ¬ (∀ v, v < n → m.testBit v = true → outS n es m.testBit v ≤ gi d v)) : Red n es q d :=
  (tight_red hq h1).1 fun m a b c => h2 m b a c
def path3 : List E3 := [(0, 1, 1), (1, 2, 1)]
/-- A reduced form that is known. -/
theorem red_known {n : Nat} {es : List E3} {q : Nat} {d r s a t : List Int} (hg : gcheckF (n : Int) es = 0) (hq : q < n) (h : Reduces n es q d r s) (h1 : ∀ v, v < n → v ≠ q → 0 ≤ gi a v) (h2 : ∀ m, m < 2 ^ n → 1 ≤ m → m.testBit q = false → ¬ (∀ v, v < n → m.testBit v = true → outS n es m.testBit v ≤ gi a v))
    (hal : a.length = n) (htl : t.length = n) (hlp : ∀ v, v < n → gi a v = gi d v - Lp n es (gi t) v) (hz : gi t q = 0) : r = a ∧ s = t :=
  reduces_eq (gcheck_ok hg).1 hq h hal htl hlp hz (red_of_dec hq h1 h2)
theorem small_dec {n : Int} {es : List E3} {d : List Int} (h1 : es.length ≤ 40) (h2 : n ≤ 6 ∧ (es.map (·.2.2)).sum ≤ 9) (hd : d.length = n.toNat) (h3 : ∀ v, v < d.length → -200 ≤ gi d v ∧ gi d v ≤ 200) : Small n es d :=
  ⟨h1, fun _ => h2, fun _ v hv => h3 v (by omega)⟩
theorem p_l36_awake {R : Bool → Prop} (h : R true) : pf_l36_awake R := by
  unfold pf_l36_awake
  have g0 : gcheckF ((3 : Nat) : Int) [(0, 1, 1), (0, 2, 1), (1, 2, 1)] = 0 := by decide
  have g1 : gcheckF ((3 : Nat) : Int) [(0, 1, 1), (1, 2, 1)] = 0 := by decide
  refine p_effective_Winnable (.inl (small_dec (by decide) (by decide) (by decide) (by decide))) (by decide) (fun q => absurd (by decide) q) (fun _ r s hr b hb => ?_)
  obtain ⟨rfl, rfl⟩ := red_known (n := 3) (q := 0) (a := [0, 0, 1]) (t := [0, -1, -1]) g0 (by decide) hr (by decide) (by decide) (by decide) (by decide) (by decide) (by decide)
  have hb1 : b = true := hb.2 ((win_red (gcheck_ok g0).1 (by decide) hr.red hr.lp).2 (by decide))
  refine p_effective_Winnable (.inl (small_dec (by decide) (by decide) (by decide) (by decide))) (by decide) (fun q => absurd (by decide) q) (fun _ r s hr b2 hb2 => ?_)
  obtain ⟨rfl, rfl⟩ := red_known (n := 3) (q := 0) (a := [-1, 0, 1]) (t := [0, -1, -1]) g0 (by decide) hr (by decide) (by decide) (by decide) (by decide) (by decide) (by decide)
  have hnw : ¬ Win 3 [(0, 1, 1), (0, 2, 1), (1, 2, 1)] [1, -1, 0] := fun q => absurd ((win_red (gcheck_ok g0).1 (by decide) hr.red hr.lp).1 q) (by decide)
  have hb2 : ¬ b2 = true := fun q => hnw (hb2.1 q)
  refine p_effective_Needy (small_dec (by decide) (by decide) (by decide) (by decide)) (by decide) (fun q => absurd (by decide) q) (fun _ q => absurd q hnw) (fun _ _ out hout => ?_)
  obtain ⟨f, hf, rfl⟩ := hout
  have hall : ∀ v, v < 3 → f v = true := by
    intro v hv
    rw [show ((3 : Int).toNat) = 3 from rfl] at hf
    rw [hf v hv]
    have key : ∀ (d t : List Int), (∀ v, v < 3 → 0 ≤ gi d v - Lp 3 [(0, 1, 1), (0, 2, 1), (1, 2, 1)] (gi t) v) → Win 3 [(0, 1, 1), (0, 2, 1), (1, 2, 1)] d := fun d t h => ⟨gi t, h⟩
    match v, hv with
    | 0, _ => exact key _ [0, -1, -1] (by decide)
    | 1, _ => exact key _ [0, 0, 0] (by decide)
    | 2, _ => exact key _ [0, -1, 0] (by decide)
  have hfl : castL ((List.range (3 : Int).toNat).filter f) = [0, 1, 2] := by
    have e : (List.range (3 : Int).toNat).filter f = [0, 1, 2] := by
      rw [List.filter_eq_self.2 fun v hv => hall v (by simpa using hv)]; rfl
    rw [e]; rfl
  rw [hfl]
  refine p_effective_Winnable (.inl (small_dec (by decide) (by decide) (by decide) (by decide))) (by decide) (fun q => absurd (by decide) q) (fun _ r3 s3 hr3 b3 hb3 => ?_)
  have hb3 : b3 = true := hb3.2 ⟨gi [0, -3, -2], by decide⟩
  refine p_effective_Price (small_dec (by decide) (by decide) (by decide) (by decide)) (by decide) (fun q => absurd (by decide) q) (fun _ q => absurd (by decide) q) (fun _ v' hv' _ k hk => ?_)
  have hk1 : k = 1 := by
    have e : v' = 2 := by omega
    subst e
    rw [show ((3 : Int).toNat) = 3 from rfl] at hk
    have h1 : k ≤ 1 := (hk.iff 1 (by omega)).1 ⟨gi [0, -2, 0], by decide⟩
    have h0 : ¬ k ≤ 0 := fun q => by
      have := win_dg (n := 3) (by decide) ((hk.iff 0 (by omega)).2 q)
      exact absurd this (by decide)
    omega
  subst hk1 hb1 hb3
  refine ⟨True, fun _ => p_effective_VerifyWin (by decide) (by decide) ⟨fun _ => p_effective_VerifyLoss (by decide) (by decide) fun e he => ?_, fun q => absurd (by decide) q⟩, i64 (by omega), i64 (by omega), i64 (by omega), i64 (by omega), fun _ => ⟨fun _ => ⟨fun q => absurd q hb2, fun _ => ⟨fun _ => p_slices_Equal_Divisor (by decide) ⟨fun _ => p_slices_Equal_Divisor (by decide) ⟨fun _ => p_slices_Equal_intS (by decide) ⟨fun _ => ⟨fun _ => trivial, fun q => absurd rfl q⟩, fun q => absurd (by decide) q⟩, fun q => absurd (by decide) q⟩, fun q => absurd (by decide) q⟩, fun q => absurd rfl q⟩⟩, fun q => absurd rfl q⟩, fun q => absurd (by omega) q⟩
  have he0 : e = 0 := he.eq (.inr (.inr (.inl ⟨by decide, by decide, ⟨red_of_dec (n := 3) (q := 0) (by decide) (by decide) (by decide), by decide⟩, rfl⟩)))
  rw [decide_eq_true he0]
  exact h
end Go.Proofs.Ytbehbjfcenlaeaa

/- The genus: how many single edges there are, and how many chips a reduced divisor has. No program in sight. -/
namespace Go.Proofs.Ytbehbjfcenlaeaa
open Go
set_option linter.unusedVariables false
set_option linter.unusedSimpArgs false

/-- The single edges that are no loops. -/
def plainM (es : List E3) : Int := (es.map fun x => if x.1 = x.2.1 then 0 else x.2.2).sum
theorem tot_plain {n : Nat} : ∀ {es : List E3}, EOk n es → tot n es = 2 * plainM es
  | [], _ => by
    unfold tot plainM
    rw [sm_congr (g := fun _ => 0) (fun v _ => by rw [sm_congr (g := fun _ => 0) (fun u _ => W_nil v u), sm_zero]), sm_zero]
    simp
  | x :: es, hE => by
    have ih := tot_plain (es := es) (fun y hy => hE y (by simp [hy]))
    have hx := hE x (by simp)
    have h1 : tot n (x :: es) = sm n (fun v => sm n (fun u => w1 x v u)) + tot n es := by
      unfold tot
      rw [← sm_add]
      refine sm_congr fun v _ => ?_
      rw [← sm_add]
      exact sm_congr fun u _ => W_cons x es v u
    have hp : plainM (x :: es) = (if x.1 = x.2.1 then 0 else x.2.2) + plainM es := by simp [plainM]
    rw [h1, hp, ih]
    by_cases e : x.1 = x.2.1
    · rw [if_pos e]
      have h2 : sm n (fun v => sm n (fun u => w1 x v u)) = 0 := by
        rw [sm_congr (g := fun _ => 0) (fun v _ => by rw [sm_congr (g := fun _ => 0) (fun u _ => by unfold w1; rw [if_neg (fun h => h.1 e)]), sm_zero]), sm_zero]
      omega
    · rw [if_neg e]
      have h2 : sm n (fun v => sm n (fun u => w1 x v u)) = sm n (fun v => sm n (fun u => (if v = x.1.toNat then (if u = x.2.1.toNat then x.2.2 else 0) else 0) + (if v = x.2.1.toNat then (if u = x.1.toNat then x.2.2 else 0) else 0))) :=
        sm_congr fun v _ => sm_congr fun u _ => by
          show w1 x v u = ite _ _ _ + ite _ _ _
          unfold w1
          by_cases a1 : v = x.1.toNat
          · by_cases a2 : u = x.2.1.toNat
            · rw [if_pos ⟨e, .inl ⟨by omega, by omega⟩⟩, if_pos a1, if_pos a2, if_neg (by omega)]; omega
            · rw [if_neg (fun h => by omega), if_pos a1, if_neg a2, if_neg (by omega)]; omega
          · rw [if_neg a1]
            by_cases b1 : v = x.2.1.toNat
            · rw [if_pos b1]
              by_cases b2 : u = x.1.toNat
              · rw [if_pos ⟨e, .inr ⟨by omega, by omega⟩⟩, if_pos b2]; omega
              · rw [if_neg (fun h => by omega), if_neg b2]; omega
            · rw [if_neg (fun h => by omega), if_neg b1]; omega
      have h3 : ∀ a b : Nat, a < n → b < n → sm n (fun v => sm n (fun u => if v = a then (if u = b then x.2.2 else 0) else 0)) = x.2.2 := fun a b ha hb => by
        rw [sm_congr (g := fun v => if v = a then x.2.2 else 0) (fun v _ => by
          by_cases e : v = a
          · simp only [if_pos e]; exact sm_one _ hb
          · simp only [if_neg e]; exact sm_zero n)]
        exact sm_one _ ha
      have h4 : sm n (fun v => sm n (fun u => (if v = x.1.toNat then (if u = x.2.1.toNat then x.2.2 else 0) else 0) + (if v = x.2.1.toNat then (if u = x.1.toNat then x.2.2 else 0) else 0))) = x.2.2 + x.2.2 := by
        have e : ∀ A B : Nat → Nat → Int, sm n (fun v => sm n (fun u => A v u + B v u)) = sm n (fun v => sm n (A v)) + sm n (fun v => sm n (B v)) := fun A B => by
          rw [← sm_add]
          exact sm_congr fun v _ => by rw [← sm_add]
        refine (e (fun v u => if v = x.1.toNat then (if u = x.2.1.toNat then x.2.2 else 0) else 0) (fun v u => if v = x.2.1.toNat then (if u = x.1.toNat then x.2.2 else 0) else 0)).trans ?_
        rw [h3 x.1.toNat x.2.1.toNat (by omega) (by omega), h3 x.2.1.toNat x.1.toNat (by omega) (by omega)]
      omega
/-- A fire burns a reduced divisor down: each vertex has fewer chips than edges to those that burnt before. -/
theorem red_burn {n : Nat} {es : List E3} {q : Nat} {r : List Int} (hE : EOk n es) (hq : q < n) (hr : Red n es q r) : ∀ k, k + 1 ≤ n → ∃ B : Nat → Bool, B q = true ∧ sm n (fun v => if B v then 1 else 0) = (k : Int) + 1 ∧
    2 * sm n (fun v => if B v && decide (v ≠ q) then gi r v else 0) + 2 * k ≤ sm n (fun v => if B v then sm n (fun u => if B u then W es v u else 0) else 0)
  | 0, _ => by
    refine ⟨fun v => decide (v = q), by simp, ?_, ?_⟩
    · rw [sm_congr (g := fun v => if v = q then 1 else 0) (fun v _ => by simp)]
      rw [sm_one 1 hq]; rfl
    · rw [sm_congr (g := fun _ => 0) (fun v _ => by
        by_cases e : v = q
        · simp [e]
        · simp [e]), sm_zero]
      have : 0 ≤ sm n (fun v => if decide (v = q) = true then sm n (fun u => if decide (u = q) = true then W es v u else 0) else 0) := sm_nonneg fun v _ => by
        show 0 ≤ ite _ _ _
        split
        · exact sm_nonneg fun u _ => by
            show 0 ≤ ite _ _ _
            split
            · exact W_nonneg hE v u
            · omega
        · omega
      simpa using this
  | k + 1, hk => by
    obtain ⟨B, hBq, hcnt, hsum⟩ := red_burn hE hq hr k (by omega)
    have hex : ∃ v, v < n ∧ B v = false := Classical.byContradiction fun hno => by
      have hall : ∀ v, v < n → B v = true := fun v hv => by
        cases h : B v with
        | true => rfl
        | false => exact absurd ⟨v, hv, h⟩ hno
      rw [sm_congr (g := fun _ => 1) (fun v hv => by rw [hall v hv]; rfl), sm_const] at hcnt
      omega
    obtain ⟨v, hv, hSv, hlt⟩ := hr.no (fun v => !B v) (by simp [hBq]) (by obtain ⟨v, hv, h⟩ := hex; exact ⟨v, hv, by simp [h]⟩)
    have hBv : B v = false := by simpa using hSv
    have hvq : v ≠ q := fun e => by rw [e, hBq] at hBv; cases hBv
    have hw : sm n (fun u => if (!B u) = true then 0 else W es v u) = sm n (fun u => if B u = true then W es v u else 0) := sm_congr fun u _ => by
      show (if (!B u) = true then 0 else W es v u) = if B u = true then W es v u else 0
      cases B u <;> rfl
    rw [hw] at hlt
    refine ⟨fun x => B x || decide (x = v), by simp [hBq], ?_, ?_⟩
    · rw [sm_congr (g := fun x => (if B x = true then 1 else 0) + if x = v then 1 else 0) (fun x _ => by
        show (if (B x || decide (x = v)) = true then (1 : Int) else 0) = (if B x = true then 1 else 0) + if x = v then 1 else 0
        by_cases e : x = v
        · subst e; simp [hBv]
        · simp [e])]
      rw [sm_add, hcnt, sm_one 1 hv]; omega
    · have h1 : sm n (fun x => if ((B x || decide (x = v)) && decide (x ≠ q)) = true then gi r x else 0) = sm n (fun x => if (B x && decide (x ≠ q)) = true then gi r x else 0) + gi r v := by
        rw [← sm_one (gi r v) hv, ← sm_add]
        refine sm_congr fun x _ => ?_
        show (if ((B x || decide (x = v)) && decide (x ≠ q)) = true then gi r x else 0) = (if (B x && decide (x ≠ q)) = true then gi r x else 0) + if x = v then gi r v else 0
        by_cases e : x = v
        · subst e; simp [hBv, hvq]
        · simp [e]
      have h2 : sm n (fun x => if (B x || decide (x = v)) = true then sm n (fun u => if (B u || decide (u = v)) = true then W es x u else 0) else 0) =
          sm n (fun x => if B x = true then sm n (fun u => if B u = true then W es x u else 0) else 0) + sm n (fun x => if B x = true then W es v x else 0) + sm n (fun u => if B u = true then W es v u else 0) := by
        have inner : ∀ x, sm n (fun u => if (B u || decide (u = v)) = true then W es x u else 0) = sm n (fun u => if B u = true then W es x u else 0) + W es x v := fun x => by
          rw [← sm_one (W es x v) hv, ← sm_add]
          refine sm_congr fun u _ => ?_
          show (if (B u || decide (u = v)) = true then W es x u else 0) = (if B u = true then W es x u else 0) + if u = v then W es x v else 0
          by_cases e : u = v
          · subst e; simp [hBv]
          · simp [e]
        generalize hc : sm n (fun u => if B u = true then W es v u else 0) = c
        have h5 : sm n (fun x => if (B x || decide (x = v)) = true then sm n (fun u => if (B u || decide (u = v)) = true then W es x u else 0) else 0) =
            sm n (fun x => ((if B x = true then sm n (fun u => if B u = true then W es x u else 0) else 0) + (if B x = true then W es v x else 0)) + if x = v then c else 0) := sm_congr fun x _ => by
          show (if (B x || decide (x = v)) = true then sm n (fun u => if (B u || decide (u = v)) = true then W es x u else 0) else 0) =
            ((if B x = true then sm n (fun u => if B u = true then W es x u else 0) else 0) + (if B x = true then W es v x else 0)) + if x = v then c else 0
          rw [inner x]
          by_cases e : x = v
          · subst e; simp [hBv, W_self, hc]
          · cases hBx : B x
            · simp [e]
            · simp [e, W_symm es x v]
        rw [h5, sm_add (fun x => (if B x = true then sm n (fun u => if B u = true then W es x u else 0) else 0) + (if B x = true then W es v x else 0)) (fun x => if x = v then c else 0), sm_one c hv,
          sm_add (fun x => if B x = true then sm n (fun u => if B u = true then W es x u else 0) else 0) (fun x => if B x = true then W es v x else 0)]
        omega
      rw [h1, h2]
      omega
theorem red_genus {n : Nat} {es : List E3} {q : Nat} {r : List Int} (hE : EOk n es) (hq : q < n) (hl : r.length = n) (hr : Red n es q r) : dg r - gi r q + n ≤ plainM es + 1 := by
  obtain ⟨B, hBq, hcnt, hsum⟩ := red_burn hE hq hr (n - 1) (by omega)
  have hall : ∀ v, v < n → B v = true := fun v hv => by
    cases h : B v with
    | true => rfl
    | false =>
      exfalso
      have h1 : sm n (fun v => if B v = true then 1 else 0) + sm n (fun x => if x = v then 1 else 0) ≤ sm n (fun _ => 1) := by
        rw [← sm_add]
        refine sm_le fun x _ => ?_
        show (if B x = true then (1 : Int) else 0) + (if x = v then 1 else 0) ≤ 1
        by_cases e : x = v
        · subst e; simp [h]
        · rw [if_neg e]; split <;> omega
      rw [hcnt, sm_one 1 hv, sm_const] at h1
      omega
  have h1 : sm n (fun v => if (B v && decide (v ≠ q)) = true then gi r v else 0) = sm n (fun v => if v = q then 0 else gi r v) := sm_congr fun v hv => by
    show (if (B v && decide (v ≠ q)) = true then gi r v else 0) = if v = q then 0 else gi r v
    rw [hall v hv]
    by_cases e : v = q
    · simp [e]
    · simp [e]
  have h2 : sm n (fun v => if B v = true then sm n (fun u => if B u = true then W es v u else 0) else 0) = tot n es := sm_congr fun v hv => by
    show (if B v = true then sm n (fun u => if B u = true then W es v u else 0) else 0) = _
    rw [if_pos (hall v hv)]
    exact sm_congr fun u hu => by rw [if_pos (hall u hu)]
  have h3 := sm_split (f := gi r) hq
  rw [h1, h2, tot_plain hE] at hsum
  unfold dg
  rw [hl]
  omega
/-- As many chips as the genus win. -/
theorem win_genus {n : Nat} {es : List E3} {q : Nat} {d r s : List Int} (hE : EOk n es) (hq : q < n) (hd : d.length = n) (h : Reduces n es q d r s) (hg : plainM es + 1 - n ≤ dg d) : Win n es d := by
  rw [win_red hE hq h.red h.lp]
  have h1 := red_genus hE hq h.dl h.red
  have h2 : dg r = dg d := by
    unfold dg
    rw [h.dl, hd, sm_congr (g := fun v => gi d v - Lp n es (gi s) v) h.lp, sm_sub, Lp_total]; omega
  omega
end Go.Proofs.Ytbehbjfcenlaeaa

/- What the pure forms of sums, of equivalence and of lists of divisors come to. -/
namespace Go.Proofs.Ytbehbjfcenlaeaa
open Go
set_option linter.unusedVariables false
set_option linter.unusedSimpArgs false

theorem p_chips_own {n : Nat} {l : List (List Int)} {R : Int → Prop} (hl : l.length ≤ 1000) (h0 : 0 < l.length) (hd : ∀ k, k < l.length → (gx l k).length = n ∧ checkF (gx l k) n = 0) (h : R 0) : pf_chips_own l R := by
  unfold pf_chips_own
  refine ⟨Cnt l.length (fun _ => True), Cnt.start trivial, ?_⟩
  rintro m _ ⟨k, rfl, rfl, hk, -⟩
  simp only [Int.toNat_natCast]
  refine ⟨fun hlt => ⟨by omega, p_chips_Check ⟨fun _ => Cnt.next (by omega) (by omega) trivial, fun q => absurd ?_ q⟩⟩, fun hge => ?_⟩
  · rw [(hd k (by omega)).1]; exact (hd k (by omega)).2
  · refine ⟨Cnt l.length (fun _ => True), Cnt.start trivial, ?_⟩
    rintro m _ ⟨k2, rfl, rfl, hk2, -⟩
    simp only [Int.toNat_natCast, Int.toNat_zero]
    exact ⟨fun hlt => ⟨by omega, by omega, fun _ => Cnt.next (by omega) (by omega) trivial, fun q => absurd (by rw [(hd k2 (by omega)).1, (hd 0 h0).1]) q⟩, fun hge => h⟩
theorem own_two {n : Nat} {a b : List Int} (ha : a.length = n ∧ checkF a n = 0) (hb : b.length = n ∧ checkF b n = 0) : ∀ k : Nat, k < ([a, b] : List (List Int)).length → (gx [a, b] k).length = n ∧ checkF (gx [a, b] k) n = 0 := fun k hk => by
  rcases (by simp at hk; omega : k = 0 ∨ k = 1) with rfl | rfl
  · exact ha
  · exact hb
theorem p_chips_each {n : Nat} {a b : List Int} {F : Int → Int → (Int → Prop) → Prop} {f : Int → Int → Int} {R : List Int → Int → Prop} (hn : n ≤ 12) (ha : a.length = n ∧ checkF a n = 0) (hb : b.length = n ∧ checkF b n = 0)
    (hF : ∀ v, v < n → ∀ R' : Int → Prop, R' (f (gi a v) (gi b v)) → F (gi a v) (gi b v) R') (hin : ∀ v, v < n → inF (f (gi a v) (gi b v)) = true) (h : R (tab (fun i => f (gi a i) (gi b i)) n) 0) : pf_chips_each a b F R := by
  unfold pf_chips_each
  refine p_chips_own (n := n) (by simp) (by simp) (own_two ha hb) ⟨fun _ => ?_, fun q => absurd rfl q⟩
  refine ⟨by omega, fun m v out => Cnt n (fun k => out = upto (fun i => f (gi a i) (gi b i)) k n) m v, ?_, ?_⟩
  · rw [ha.1]; exact Cnt.start (upto_zero _ _).symm
  rintro m _ out ⟨k3, rfl, rfl, hk3, rfl⟩
  have hal := ha.1
  have hbl := hb.1
  simp only [Int.toNat_natCast, List.length_replicate, hal]
  refine ⟨fun hlt => ?_, fun hge => ?_⟩
  · refine ⟨by omega, by omega, hF k3 (by omega) _ ⟨by rw [upto_length]; omega, by rw [List.length_set, upto_length]; omega, p_chips_within ⟨fun _ => Cnt.next (by omega) (by omega) (upto_set (fun i => f (gi a i) (gi b i)) (by omega)), fun q => absurd ?_ q⟩⟩⟩
    rw [gi_set (by rw [upto_length]; omega), if_pos rfl]
    exact hin k3 (by omega)
  · have e : k3 = n := by omega
    subst e
    rw [upto_all]; exact h
theorem p_chips_Add {n : Nat} {a b : List Int} {R : List Int → Int → Prop} (hn : 1 ≤ n ∧ n ≤ 12) (hal : a.length = n) (hbl : b.length = n) (ha : ∀ j, j < n → -400000 ≤ gi a j ∧ gi a j ≤ 400000) (hb : ∀ j, j < n → -400000 ≤ gi b j ∧ gi b j ≤ 400000)
    (h : R (tab (fun i => gi a i + gi b i) n) 0) : pf_chips_Add a b R := by
  refine p_chips_each (f := fun x y => x + y) hn.2 ⟨hal, checkF_of hal hn.1 hn.2 fun j hj => by have := ha j hj; omega⟩ ⟨hbl, checkF_of hbl hn.1 hn.2 fun j hj => by have := hb j hj; omega⟩ (fun v hv R' hR' => ⟨?_, hR'⟩) (fun v hv => ?_) h
  · have := ha v hv; have := hb v hv; exact i64 (by omega)
  · have := ha v hv; have := hb v hv
    unfold inF; rw [decide_eq_true_eq]; omega
/-! ### Equivalence -/
/-! ### Lists of divisors -/
end Go.Proofs.Ytbehbjfcenlaeaa

/- Laws of layer 36: proofs, prices, costs, moves. -/
namespace Go.Proofs.Ytbehbjfcenlaeaa
open Go
set_option linter.unusedVariables false
set_option linter.unusedSimpArgs false

/-! ### What the small functions come to -/
theorem p_slices_ContainsFunc_DivisorS {s : List (List Int)} {F : List Int → (Bool → Prop) → Prop} {p : List Int → Bool} {R : Bool → Prop} (hl : s.length ≤ 1000000000) (hF : ∀ x (R' : Bool → Prop), x ∈ s → R' (p x) → F x R') (h1 : (∀ x ∈ s, p x = false) → R false) (h2 : ∀ x ∈ s, p x = true → R true) : pf_slices_ContainsFunc_DivisorS s F R := by
  unfold pf_slices_ContainsFunc_DivisorS pf_slices_IndexFunc_DivisorS
  have hm : ∀ k, k < s.length → gx s k ∈ s := fun k hk => List.mem_of_getElem? (gx_some hk)
  refine ⟨Cnt s.length (fun k => ∀ j, j < k → p (gx s j) = false), Cnt.start (fun j hj => absurd hj (by omega)), ?_⟩
  rintro m _ ⟨k, rfl, rfl, hk, hinv⟩
  simp only [Int.toNat_natCast]
  refine ⟨fun hlt => ⟨by omega, hF _ _ (hm k (by omega)) ⟨fun h => ?_, fun h => Cnt.next (by omega) (by omega) fun j hj => ?_⟩⟩, fun hge => ?_⟩
  · rw [decide_eq_true (by omega)]; exact h2 _ (hm k (by omega)) h
  · by_cases e : j = k
    · subst e; simpa using h
    · exact hinv j (by omega)
  · rw [decide_eq_false (by omega)]
    refine h1 fun x hx => ?_
    obtain ⟨j, hj⟩ := List.getElem?_of_mem hx
    have hjl := (List.getElem?_eq_some_iff.1 hj).1
    have := hinv j (by omega)
    rw [gx_some hjl] at hj
    cases hj
    exact this
theorem p_l36_right {n : Int} {es : List E3} {l : List (List Int)} {R : Bool → Prop} (hl : l.length ≤ 1000) (h1 : (∀ d ∈ l, Right n es d) → R true) (h2 : R false) : pf_l36_right n es l R := by
  unfold pf_l36_right
  refine p_r34_Few ⟨fun q1 => p_r25_Joined (by have := small_len q1; omega) ⟨fun q2 => ?_, fun _ => h2⟩, fun _ => h2⟩
  refine p_slices_ContainsFunc_DivisorS (p := fun d => if checkF d n = 0 then !(lowF n d) else true) (by omega) (fun d R' hd hR' => ?_) (fun hall => ?_) (fun d hd hp => by simpa using h2)
  · unfold pf_l36_right_1
    refine p_r17_Check ⟨fun h => p_r34_Low ?_, fun h => ?_⟩
    · rwa [if_pos h] at hR'
    · rwa [if_neg h] at hR'
  · refine h1 fun d hd => ?_
    have := hall d hd
    split at this
    · rename_i c
      exact ⟨q1, q2, c, by simpa using this⟩
    · cases this
/-! ### The laws -/
theorem NeedyOk.len {n : Nat} {es : List E3} {d out : List Int} (h : NeedyOk n es d out) : out.length ≤ n := by
  obtain ⟨f, _, rfl⟩ := h
  exact filt_len f n
theorem Right.given0 {n : Int} {es : List E3} {d : List Int} (h : Right n es d) : givenF n es 0 d = 0 := h.given ⟨by omega, by have := h.graph; omega⟩
end Go.Proofs.Ytbehbjfcenlaeaa

/- Laws of layer 36: what an answer proves, equivalent divisors. -/
namespace Go.Proofs.Ytbehbjfcenlaeaa
open Go
set_option linter.unusedVariables false
set_option linter.unusedSimpArgs false

end Go.Proofs.Ytbehbjfcenlaeaa

/- Laws of layer 36: sums, and all effective divisors of a degree. -/
namespace Go.Proofs.Ytbehbjfcenlaeaa
open Go
set_option linter.unusedVariables false
set_option linter.unusedSimpArgs false

theorem plain_take {es : List E3} {k : Nat} (hk : k < es.length) : plainM (es.take (k + 1)) = plainM (es.take k) + if (ge es k).1 = (ge es k).2.1 then 0 else (ge es k).2.2 := by
  unfold plainM
  rw [List.take_add_one, List.getElem?_eq_getElem hk, ge_of_lt hk, List.map_append, List.sum_append]
  simp
theorem plain_bound {n : Nat} {es : List E3} (hE : EOk n es) : 0 ≤ plainM es ∧ plainM es ≤ 50 * es.length := by
  unfold plainM
  induction es with
  | nil => simp
  | cons x t ih =>
    have hx := hE x (by simp)
    have := ih fun y hy => hE y (by simp [hy])
    rw [List.map_cons, List.sum_cons, List.length_cons]
    split <;> omega
theorem right_dg {n : Nat} {d : List Int} (hd : d.length = n) (hn : n ≤ 6) (hb : ∀ j, j < n → -100 ≤ gi d j ∧ gi d j ≤ 100) : -600 ≤ dg d ∧ dg d ≤ 600 := by
  have := sm_bound (f := gi d) (B := 100) (by omega) (n := d.length) fun i hi => hb i (by omega)
  unfold dg
  omega
theorem p_effgrows {n : Int} {es : List E3} {a b : List Int} : pf_l36_EffectiveGrows n es a b (fun r => r = true) := by
  unfold pf_l36_EffectiveGrows
  refine p_l36_right (by simp) (fun hR => ⟨fun _ => ?_, fun h => absurd rfl h⟩) ⟨fun h => (by cases h), fun _ => p_l36_awake rfl⟩
  have hRa := hR a (by simp)
  have hRb := hR b (by simp)
  obtain ⟨hg, hc, hel, hn1, hn6⟩ := hRa.graph
  have hSa := small_of hRa.few hRa.low
  have hSb := small_of hRb.few hRb.low
  have ga := hRa.given0
  have gb := hRb.given0
  obtain ⟨n, rfl⟩ : ∃ n' : Nat, n = (n' : Int) := ⟨n.toNat, by omega⟩
  obtain ⟨hal, hab⟩ := hRa.nat
  obtain ⟨hbl, hbb⟩ := hRb.nat
  obtain ⟨hE, -, hn12⟩ := gcheck_ok hg
  have hda := right_dg hal (by omega) hab
  refine p_chips_Add (n := n) (by omega) hal hbl (fun j hj => by have := hab j hj; omega) (fun j hj => by have := hbb j hj; omega) ?_
  have hsl : (tab (fun i => gi a i + gi b i) n).length = n := tab_length _ _
  have hsg : ∀ v, v < n → gi (tab (fun i => gi a i + gi b i) n) v = gi a v + gi b v := fun v hv => gi_tab _ hv
  generalize tab (fun i => gi a i + gi b i) n = c at hsl hsg ⊢
  have hcc : checkF c n = 0 := checkF_of hsl (by omega) (by omega) fun j hj => by rw [hsg j hj]; have := hab j hj; have := hbb j hj; omega
  refine ⟨Right n es c, fun hRc => ?_, True, fun _ => ⟨fun _ => p_l36_awake rfl, fun h => absurd rfl h⟩, fun _ => p_r34_Low ⟨fun h => ⟨hRa.few, hRa.joined, hcc, h⟩, fun _ => trivial⟩, fun h => absurd rfl h⟩
  have hSc := small_of hRc.few hRc.low
  have gc := hRc.given0
  refine p_effective_Winnable (.inl hSa) (by omega) (fun h => absurd ga h) (fun _ r1 s1 h1 x hx => p_effective_Winnable (.inl hSb) (by omega) (fun h => absurd gb h) (fun _ r2 s2 h2 y hy => p_effective_Winnable (.inl hSc) (by omega) (fun h => absurd gc h) (fun _ r3 s3 h3 z hz => ?_)))
  simp only [Int.toNat_natCast] at hx hy hz h1
  have hadd : Win n es a → Win n es b → Win n es c := by
    rintro ⟨s, hs⟩ ⟨t, ht⟩
    refine ⟨fun i => s i + t i, fun v hv => ?_⟩
    rw [Lp_add s t, hsg v hv]
    have := hs v hv; have := ht v hv
    omega
  have hpaid : Win n es a → paidF b = true → Win n es c := by
    rintro ⟨s, hs⟩ hp
    refine ⟨s, fun v hv => ?_⟩
    rw [hsg v hv]
    have := hs v hv; have := paidF_iff.1 hp v (by omega)
    omega
  refine ⟨True, fun _ => ⟨i64 (by omega), ?_⟩, i64 (by omega), i64 (by omega), fun _ => ⟨fun hxt => ⟨fun hyt => ⟨fun _ => p_r17_Paid (by omega) ⟨fun _ => trivial, fun _ => trivial⟩, fun h => absurd (hz.2 (hadd (hx.1 hxt) (hy.1 hyt))) h⟩, fun _ => p_r17_Paid (by omega) ⟨fun hp => ⟨fun _ => trivial, fun h => absurd (hz.2 (hpaid (hx.1 hxt) hp)) h⟩, fun _ => trivial⟩⟩, fun _ => trivial⟩, fun h => absurd (by omega) h⟩
  refine ⟨fun m g i => Cnt es.length (fun k => g = 1 - n + plainM (es.take k)) m i, Cnt.start (by simp [plainM]), ?_⟩
  rintro m _ _ ⟨k, rfl, rfl, hk, rfl⟩
  simp only [Int.toNat_natCast]
  have hpb := plain_bound (es := es.take k) (n := n) fun x hx => hE x (List.mem_of_mem_take hx)
  rw [List.length_take] at hpb
  refine ⟨fun hlt => ⟨by omega, fun e => Cnt.next (by omega) (by omega) ?_, fun e => ⟨?_, Cnt.next (by omega) (by omega) ?_⟩⟩, fun hge => ?_⟩
  · rw [plain_take (by omega), if_pos e]; omega
  · have := hE _ (ge_mem (show k < es.length by omega))
    exact i64 (by omega)
  · rw [plain_take (by omega), if_neg e]; omega
  · have e : k = es.length := by omega
    rw [e, List.take_length]
    have T : ∀ {P : Int → Prop}, P (dg a) → pf_r17_Total a P := fun h => p_r17_Total (by omega) (fun i hi => by have := hab i (by omega); omega) h
    refine T ⟨fun h0 => T ⟨fun _ => p_l36_awake rfl, fun h => ⟨fun _ => p_l36_awake rfl, fun hxn => absurd (hx.2 (win_genus hE (by omega) hal h1 (by omega))) hxn⟩⟩, fun h0 => ⟨fun hxt => absurd (win_dg hal (hx.1 hxt)) h0, fun hxn => T ⟨fun _ => p_l36_awake rfl, fun h => absurd (hx.2 (win_genus hE (by omega) hal h1 (by omega))) hxn⟩⟩⟩
end Go.Proofs.Ytbehbjfcenlaeaa
