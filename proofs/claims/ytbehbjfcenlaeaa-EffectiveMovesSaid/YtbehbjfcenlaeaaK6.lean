/- Texts laid together: SpP, SpF, L36, Lw36, Lw36b. -/
import Derived.Test.YtbehbjfcenlaeaaK5
/- What Winnable, Price and Needy come to, and their references. -/
namespace Go.Proofs.Ytbehbjfcenlaeaa
open Go
set_option linter.unusedVariables false
set_option linter.unusedSimpArgs false

theorem bool_of (p : Nat → Prop) : ∃ f : Nat → Bool, ∀ v, f v = true ↔ p v := ⟨fun v => @decide (p v) (Classical.propDecidable _), fun v => by simp⟩
/-- What a graph and a divisor that are right give. -/
theorem given_all {n : Nat} {es : List E3} {q : Nat} {d : List Int} (h : givenF n es q d = 0) : EOk n es ∧ 1 ≤ n ∧ n ≤ 12 ∧ gcheckF n es = 0 ∧ connF n es = true ∧ q < n ∧ d.length = n ∧ checkF d n = 0 := by
  obtain ⟨k1, k2, k3, k4, k5⟩ := givenF_ok h
  obtain ⟨hE, hn1, hn12⟩ := gcheck_ok k1
  exact ⟨hE, hn1, hn12, k1, k2, by omega, (checkF_ok k5).1, k5⟩
theorem given_at {n : Int} {es : List E3} {d : List Int} (h : givenF n es 0 d = 0) {v : Int} (hv : 0 ≤ v ∧ v < n) : givenF n es v d = 0 := by
  obtain ⟨k1, k2, k3, k4, k5⟩ := givenF_ok h
  unfold givenF
  rw [if_pos k1, if_pos k2, if_pos hv, k5]
theorem p_effective_Winnable {n : Int} {es : List E3} {d : List Int} {R : Bool → List Int → List Int → Int → Prop} (hS : Small n es d ∨ RedIn n es 0 d) (hdl : d.length ≤ 1000000000) (h0 : givenF n es 0 d ≠ 0 → R false [] [] (givenF n es 0 d))
    (h1 : givenF n es 0 d = 0 → ∀ r s, Reduces n.toNat es 0 d r s → ∀ b, (b = true ↔ Win n.toNat es d) → R b r s 0) : pf_effective_Winnable n es d R := by
  unfold pf_effective_Winnable
  refine ⟨hS, hdl, fun h => ⟨fun q => absurd q h, fun _ => h0 h⟩, fun h r s hr hrl hsl => ?_⟩
  obtain ⟨n, rfl⟩ : ∃ n' : Nat, n = (n' : Int) := ⟨n.toNat, by have := givenF_ok h; omega⟩
  obtain ⟨hE, hn1, hn12, hg, hc, -, hd, -⟩ := given_all (q := 0) h
  have e0 : (0 : Int).toNat = 0 := rfl
  simp only [Int.toNat_natCast, e0] at hr hrl hsl h1 ⊢
  refine ⟨fun _ => ⟨by omega, h1 h r s hr _ ?_⟩, fun q => absurd trivial q⟩
  rw [decide_eq_true_eq, win_red hE (by omega) hr.red hr.lp]
/-- The price of a divisor at a vertex. -/
structure PriceOk (n : Nat) (es : List E3) (d : List Int) (v : Nat) (k : Int) : Prop where
  pos : 0 ≤ k
  few : k = 0 ∨ k ≤ 18 - dg d
  iff : ∀ j, 0 ≤ j → (Win n es (addAt d v j) ↔ k ≤ j)
theorem PriceOk.eq {n : Nat} {es : List E3} {d : List Int} {v : Nat} {k k' : Int} (h : PriceOk n es d v k) (h' : PriceOk n es d v k') : k = k' := by
  have h1 := h.pos
  have h2 := h'.pos
  have h3 := (h'.iff k h1).1 ((h.iff k h1).2 (Int.le_refl _))
  have h4 := (h.iff k' h2).1 ((h'.iff k' h2).2 (Int.le_refl _))
  omega
theorem tot_few {n : Nat} {es : List E3} (hE : EOk n es) (hn : 1 ≤ n) (h12 : n ≤ 12) (hs : (es.map (·.2.2)).sum ≤ 9) : tot n es ≤ 18 := by
  have := tot_le hE hn h12; omega
theorem dg_lp {n : Nat} {es : List E3} {x d : List Int} {s : Nat → Int} (hx : x.length = n) (hd : d.length = n) (h : ∀ v, v < n → gi x v = gi d v - Lp n es s v) : dg x = dg d := by
  unfold dg
  rw [hx, hd, sm_congr (g := fun v => gi d v - Lp n es s v) h, sm_sub, Lp_total]; omega
theorem price_of {n : Nat} {es : List E3} {d r s : List Int} {v : Nat} (hE : EOk n es) (ht : tot n es ≤ 18) (hv : v < n) (hd : d.length = n) (h : Reduces n es v d r s) : PriceOk n es d v (mxF 0 (-gi r v)) := by
  have h1 := red_few hE hv h.dl h.red
  have h2 := dg_lp h.dl hd h.lp
  rw [mxF_eq]
  refine ⟨by omega, by omega, fun j hj => ?_⟩
  rw [win_price hE hv hd h]
  omega
theorem p_effective_price {n : Int} {v : Nat} {es : List E3} {d : List Int} {R : Int → Int → Prop} (hS : Small n es d) (hdl : d.length ≤ 1000000000) (hg : givenF n es v d = 0) (h : ∀ k, PriceOk n.toNat es d v k → R k 0) : pf_effective_price n es d (v : Int) R := by
  unfold pf_effective_price
  refine ⟨.inl hS, hdl, fun q => absurd hg q, fun _ r s hr hrl hsl => ⟨fun _ => ?_, fun q => absurd rfl q⟩⟩
  obtain ⟨n, rfl⟩ : ∃ n' : Nat, n = (n' : Int) := ⟨n.toNat, by have := givenF_ok hg; omega⟩
  obtain ⟨hE, hn1, hn12, hg1, hc, hv, hd, -⟩ := given_all hg
  simp only [Int.toNat_natCast] at hr hrl hsl h ⊢
  have hb := hr.bd v hv
  exact ⟨by omega, i64 (by omega), h _ (price_of hE (tot_few hE hn1 hn12 (hS.g hg1).2) hv hd hr)⟩
theorem p_effective_Price {n v : Int} {es : List E3} {d : List Int} {R : Int → Int → Prop} (hS : Small n es d) (hdl : d.length ≤ 1000000000) (h0 : givenF n es 0 d ≠ 0 → R 0 (givenF n es 0 d)) (h1 : givenF n es 0 d = 0 → ¬ (0 ≤ v ∧ v < n) → R 0 2)
    (h2 : givenF n es 0 d = 0 → ∀ v' : Nat, v = v' → v' < n.toNat → ∀ k, PriceOk n.toNat es d v' k → R k 0) : pf_effective_Price n es d v R := by
  unfold pf_effective_Price
  refine p_effective_given (by have := hS.el; omega) hdl ⟨fun hg => ?_, h0⟩
  have out : ¬ (0 ≤ v ∧ v < n) → R 0 2 := h1 hg
  refine ⟨0 ≤ v ∧ v < n, fun hv => ?_, fun q => out (by omega), fun q => ⟨fun q2 => out (by omega), fun q2 => ⟨by omega, by omega⟩⟩⟩
  obtain ⟨v', rfl⟩ : ∃ v' : Nat, v = (v' : Int) := ⟨v.toNat, by omega⟩
  exact p_effective_price hS hdl (given_at hg hv) (h2 hg v' rfl (by omega))
/-- Numbers as integers. -/
def castL (l : List Nat) : List Int := l.map fun v : Nat => (v : Int)
/-- The vertices at which one chip more is enough. -/
def NeedyOk (n : Nat) (es : List E3) (d : List Int) (out : List Int) : Prop := ∃ f : Nat → Bool, (∀ v, v < n → (f v = true ↔ Win n es (addAt d v 1))) ∧ out = castL ((List.range n).filter f)
theorem NeedyOk.eq {n : Nat} {es : List E3} {d o o' : List Int} (h : NeedyOk n es d o) (h' : NeedyOk n es d o') : o = o' := by
  obtain ⟨f, hf, rfl⟩ := h
  obtain ⟨f', hf', rfl⟩ := h'
  congr 1
  refine List.filter_congr fun v hv => ?_
  rw [List.mem_range] at hv
  rw [Bool.eq_iff_iff, hf v hv, hf' v hv]
theorem filt_yes {f : Nat → Bool} {k : Nat} (h : f k = true) : castL ((List.range (k + 1)).filter f) = castL ((List.range k).filter f) ++ [(k : Int)] := by
  unfold castL; rw [List.range_succ, List.filter_append, List.map_append]; simp [h]
theorem filt_no {f : Nat → Bool} {k : Nat} (h : f k ≠ true) : castL ((List.range (k + 1)).filter f) = castL ((List.range k).filter f) := by
  unfold castL; rw [List.range_succ, List.filter_append, List.map_append]; simp [h]
theorem filt_len (f : Nat → Bool) (k : Nat) : (castL ((List.range k).filter f)).length ≤ k := by
  unfold castL
  rw [List.length_map]
  refine Nat.le_trans (List.length_filter_le _ _) ?_
  simp
theorem p_effective_Needy {n : Int} {es : List E3} {d : List Int} {R : List Int → Int → Prop} (hS : Small n es d) (hdl : d.length ≤ 1000000000) (h0 : givenF n es 0 d ≠ 0 → R [] (givenF n es 0 d)) (h1 : givenF n es 0 d = 0 → Win n.toNat es d → R [] 15)
    (h2 : givenF n es 0 d = 0 → ¬ Win n.toNat es d → ∀ out, NeedyOk n.toNat es d out → R out 0) : pf_effective_Needy n es d R := by
  unfold pf_effective_Needy
  refine p_effective_Winnable (.inl hS) hdl (fun h => ⟨fun q => absurd q h, fun _ => h0 h⟩) (fun hg r s hr b hb => ⟨fun _ => ⟨fun hw => h1 hg (hb.1 hw), fun hw => ?_⟩, fun q => absurd rfl q⟩)
  have hnw : ¬ Win n.toNat es d := fun q => hw (hb.2 q)
  obtain ⟨n, rfl⟩ : ∃ n' : Nat, n = (n' : Int) := ⟨n.toNat, by have := givenF_ok hg; omega⟩
  obtain ⟨hE, hn1, hn12, hg1, hc, -, hd, -⟩ := given_all (q := 0) hg
  simp only [Int.toNat_natCast] at h2 hnw hr
  obtain ⟨f, hf⟩ := bool_of fun v => Win n es (addAt d v 1)
  refine ⟨fun l => ∀ (i : Nat) x, l[i]? = some x → i < n ∧ PriceOk n es d i x.1 ∧ x.2 = 0, fun l => l.length = n, ?_, fun pre out v => v = (pre.length : Int) ∧ pre.length ≤ n ∧ out = castL ((List.range pre.length).filter f), ⟨rfl, by simp, rfl⟩, ?_, ?_⟩
  · unfold pf_effective_prices_1
    refine ⟨fun m l v => v = (l.length : Int) ∧ l.length ≤ n ∧ m = n - l.length ∧ ∀ (i : Nat) x, l[i]? = some x → i < n ∧ PriceOk n es d i x.1 ∧ x.2 = 0, ⟨_, rfl, by simp, rfl, by simp⟩, ?_⟩
    rintro m l _ ⟨rfl, hl, rfl, hP⟩
    refine ⟨fun hlt => p_effective_price hS hdl (given_at hg (by omega)) fun k hk => ?_, fun hge => by omega⟩
    simp only [Int.toNat_natCast] at hk
    have hP2 : ∀ (i : Nat) x, (l ++ [(k, (0 : Int))])[i]? = some x → i < n ∧ PriceOk n es d i x.1 ∧ x.2 = 0 := fun i x hx => by
      by_cases e : i < l.length
      · rw [List.getElem?_append_left e] at hx; exact hP i x hx
      · rw [List.getElem?_append_right (by omega)] at hx
        have e2 : i = l.length := by
          have := (List.getElem?_eq_some_iff.1 hx).1
          simp at this; omega
        subst e2
        simp at hx
        subst hx
        exact ⟨by omega, hk, rfl⟩
    exact ⟨hP2, ⟨fun _ => ⟨i64 (by omega), n - (l.length + 1), by omega, by simp, by simp; omega, by simp, hP2⟩, fun q => absurd rfl q⟩, trivial⟩
  · rintro pre y y2 out v ⟨rfl, hpl, rfl⟩ hPr
    obtain ⟨hin, hpk, hy2⟩ := hPr pre.length (y, y2) (by simp)
    simp only at hpk hy2
    have h1y : (y = 1 ↔ f pre.length = true) := by
      rw [hf, hpk.iff 1 (by omega)]
      have h0n : ¬ y ≤ 0 := fun q => hnw (by have := (hpk.iff 0 (by omega)).2 q; rwa [win_zero (n := n) (es := es) (by omega)] at this)
      omega
    refine ⟨fun _ => ⟨fun e => ?_, fun e => ?_⟩, fun q => absurd hy2 q⟩
    · have := filt_len f pre.length
      refine ⟨by omega, i64 (by omega), by simp, by simp; omega, ?_⟩
      rw [List.length_append, List.length_singleton, filt_yes (h1y.1 e)]
    · refine ⟨i64 (by omega), by simp, by simp; omega, ?_⟩
      rw [List.length_append, List.length_singleton, filt_no (fun q => e (h1y.2 q))]
  · rintro ys out v ⟨rfl, hpl, rfl⟩ hlen
    rw [hlen]
    exact h2 hg hnw _ ⟨f, fun v _ => hf v, rfl⟩
/-! ### The reference -/
end Go.Proofs.Ytbehbjfcenlaeaa

/- What firing a set comes to. -/
namespace Go.Proofs.Ytbehbjfcenlaeaa
open Go
set_option linter.unusedVariables false
set_option linter.unusedSimpArgs false

section
variable {n : Nat} {es : List E3} {d : List Int} {set : List Int}
end
/-! ### Sets as lists -/
end Go.Proofs.Ytbehbjfcenlaeaa

/- Words for the laws of layer 36: what its small functions come to; the chapter's examples come out right. -/
namespace Go.Proofs.Ytbehbjfcenlaeaa
open Go
set_option linter.unusedVariables false
set_option linter.unusedSimpArgs false

/-- Reduced, by trying all sets. -/
theorem red_of_dec {n : Nat} {es : List E3} {q : Nat} {d : List Int} (hq : q < n) (h1 : ∀ v, v < n → v ≠ q → 0 ≤ gi d v) (h2 : ∀ m, m < 2 ^ n → 1 ≤ m → m.testBit q = false → ¬ (∀ v, v < n → m.testBit v = true → outS n es m.testBit v ≤ gi d v)) : Red n es q d :=
  (tight_red hq h1).1 fun m a b c => h2 m b a c
def path3 : List E3 := [(0, 1, 1), (1, 2, 1)]
/-- A reduced form that is known. -/
theorem red_known {n : Nat} {es : List E3} {q : Nat} {d r s a t : List Int} (hg : gcheckF (n : Int) es = 0) (hq : q < n) (h : Reduces n es q d r s) (h1 : ∀ v, v < n → v ≠ q → 0 ≤ gi a v) (h2 : ∀ m, m < 2 ^ n → 1 ≤ m → m.testBit q = false → ¬ (∀ v, v < n → m.testBit v = true → outS n es m.testBit v ≤ gi a v))
    (hal : a.length = n) (htl : t.length = n) (hlp : ∀ v, v < n → gi a v = gi d v - Lp n es (gi t) v) (hz : gi t q = 0) : r = a ∧ s = t :=
  reduces_eq (gcheck_ok hg).1 hq h hal htl hlp hz (red_of_dec hq h1 h2)
theorem small_dec {n : Int} {es : List E3} {d : List Int} (h1 : es.length ≤ 40) (h2 : n ≤ 6 ∧ (es.map (·.2.2)).sum ≤ 9) (hd : d.length = n.toNat) (h3 : ∀ v, v < d.length → -200 ≤ gi d v ∧ gi d v ≤ 200) : Small n es d :=
  ⟨h1, fun _ => h2, fun _ v hv => h3 v (by omega)⟩
theorem p_l36_awake {R : Bool → Prop} (h : R true) : pf_l36_awake R := by
  unfold pf_l36_awake
  have g0 : gcheckF ((3 : Nat) : Int) [(0, 1, 1), (0, 2, 1), (1, 2, 1)] = 0 := by decide
  have g1 : gcheckF ((3 : Nat) : Int) [(0, 1, 1), (1, 2, 1)] = 0 := by decide
  refine p_effective_Winnable (.inl (small_dec (by decide) (by decide) (by decide) (by decide))) (by decide) (fun q => absurd (by decide) q) (fun _ r s hr b hb => ?_)
  obtain ⟨rfl, rfl⟩ := red_known (n := 3) (q := 0) (a := [0, 0, 1]) (t := [0, -1, -1]) g0 (by decide) hr (by decide) (by decide) (by decide) (by decide) (by decide) (by decide)
  have hb1 : b = true := hb.2 ((win_red (gcheck_ok g0).1 (by decide) hr.red hr.lp).2 (by decide))
  refine p_effective_Winnable (.inl (small_dec (by decide) (by decide) (by decide) (by decide))) (by decide) (fun q => absurd (by decide) q) (fun _ r s hr b2 hb2 => ?_)
  obtain ⟨rfl, rfl⟩ := red_known (n := 3) (q := 0) (a := [-1, 0, 1]) (t := [0, -1, -1]) g0 (by decide) hr (by decide) (by decide) (by decide) (by decide) (by decide) (by decide)
  have hnw : ¬ Win 3 [(0, 1, 1), (0, 2, 1), (1, 2, 1)] [1, -1, 0] := fun q => absurd ((win_red (gcheck_ok g0).1 (by decide) hr.red hr.lp).1 q) (by decide)
  have hb2 : ¬ b2 = true := fun q => hnw (hb2.1 q)
  refine p_effective_Needy (small_dec (by decide) (by decide) (by decide) (by decide)) (by decide) (fun q => absurd (by decide) q) (fun _ q => absurd q hnw) (fun _ _ out hout => ?_)
  obtain ⟨f, hf, rfl⟩ := hout
  have hall : ∀ v, v < 3 → f v = true := by
    intro v hv
    rw [show ((3 : Int).toNat) = 3 from rfl] at hf
    rw [hf v hv]
    have key : ∀ (d t : List Int), (∀ v, v < 3 → 0 ≤ gi d v - Lp 3 [(0, 1, 1), (0, 2, 1), (1, 2, 1)] (gi t) v) → Win 3 [(0, 1, 1), (0, 2, 1), (1, 2, 1)] d := fun d t h => ⟨gi t, h⟩
    match v, hv with
    | 0, _ => exact key _ [0, -1, -1] (by decide)
    | 1, _ => exact key _ [0, 0, 0] (by decide)
    | 2, _ => exact key _ [0, -1, 0] (by decide)
  have hfl : castL ((List.range (3 : Int).toNat).filter f) = [0, 1, 2] := by
    have e : (List.range (3 : Int).toNat).filter f = [0, 1, 2] := by
      rw [List.filter_eq_self.2 fun v hv => hall v (by simpa using hv)]; rfl
    rw [e]; rfl
  rw [hfl]
  refine p_effective_Winnable (.inl (small_dec (by decide) (by decide) (by decide) (by decide))) (by decide) (fun q => absurd (by decide) q) (fun _ r3 s3 hr3 b3 hb3 => ?_)
  have hb3 : b3 = true := hb3.2 ⟨gi [0, -3, -2], by decide⟩
  refine p_effective_Price (small_dec (by decide) (by decide) (by decide) (by decide)) (by decide) (fun q => absurd (by decide) q) (fun _ q => absurd (by decide) q) (fun _ v' hv' _ k hk => ?_)
  have hk1 : k = 1 := by
    have e : v' = 2 := by omega
    subst e
    rw [show ((3 : Int).toNat) = 3 from rfl] at hk
    have h1 : k ≤ 1 := (hk.iff 1 (by omega)).1 ⟨gi [0, -2, 0], by decide⟩
    have h0 : ¬ k ≤ 0 := fun q => by
      have := win_dg (n := 3) (by decide) ((hk.iff 0 (by omega)).2 q)
      exact absurd this (by decide)
    omega
  subst hk1 hb1 hb3
  refine ⟨True, fun _ => p_effective_VerifyWin (by decide) (by decide) ⟨fun _ => p_effective_VerifyLoss (by decide) (by decide) fun e he => ?_, fun q => absurd (by decide) q⟩, i64 (by omega), i64 (by omega), i64 (by omega), i64 (by omega), fun _ => ⟨fun _ => ⟨fun q => absurd q hb2, fun _ => ⟨fun _ => p_slices_Equal_Divisor (by decide) ⟨fun _ => p_slices_Equal_Divisor (by decide) ⟨fun _ => p_slices_Equal_intS (by decide) ⟨fun _ => ⟨fun _ => trivial, fun q => absurd rfl q⟩, fun q => absurd (by decide) q⟩, fun q => absurd (by decide) q⟩, fun q => absurd (by decide) q⟩, fun q => absurd rfl q⟩⟩, fun q => absurd rfl q⟩, fun q => absurd (by omega) q⟩
  have he0 : e = 0 := he.eq (.inr (.inr (.inl ⟨by decide, by decide, ⟨red_of_dec (n := 3) (q := 0) (by decide) (by decide) (by decide), by decide⟩, rfl⟩)))
  rw [decide_eq_true he0]
  exact h
end Go.Proofs.Ytbehbjfcenlaeaa

/- Laws of layer 36: proofs, prices, costs, moves. -/
namespace Go.Proofs.Ytbehbjfcenlaeaa
open Go
set_option linter.unusedVariables false
set_option linter.unusedSimpArgs false

/-! ### What the small functions come to -/
theorem p_slices_ContainsFunc_DivisorS {s : List (List Int)} {F : List Int → (Bool → Prop) → Prop} {p : List Int → Bool} {R : Bool → Prop} (hl : s.length ≤ 1000000000) (hF : ∀ x (R' : Bool → Prop), x ∈ s → R' (p x) → F x R') (h1 : (∀ x ∈ s, p x = false) → R false) (h2 : ∀ x ∈ s, p x = true → R true) : pf_slices_ContainsFunc_DivisorS s F R := by
  unfold pf_slices_ContainsFunc_DivisorS pf_slices_IndexFunc_DivisorS
  have hm : ∀ k, k < s.length → gx s k ∈ s := fun k hk => List.mem_of_getElem? (gx_some hk)
  refine ⟨Cnt s.length (fun k => ∀ j, j < k → p (gx s j) = false), Cnt.start (fun j hj => absurd hj (by omega)), ?_⟩
  rintro m _ ⟨k, rfl, rfl, hk, hinv⟩
  simp only [Int.toNat_natCast]
  refine ⟨fun hlt => ⟨by omega, hF _ _ (hm k (by omega)) ⟨fun h => ?_, fun h => Cnt.next (by omega) (by omega) fun j hj => ?_⟩⟩, fun hge => ?_⟩
  · rw [decide_eq_true (by omega)]; exact h2 _ (hm k (by omega)) h
  · by_cases e : j = k
    · subst e; simpa using h
    · exact hinv j (by omega)
  · rw [decide_eq_false (by omega)]
    refine h1 fun x hx => ?_
    obtain ⟨j, hj⟩ := List.getElem?_of_mem hx
    have hjl := (List.getElem?_eq_some_iff.1 hj).1
    have := hinv j (by omega)
    rw [gx_some hjl] at hj
    cases hj
    exact this
theorem p_l36_right {n : Int} {es : List E3} {l : List (List Int)} {R : Bool → Prop} (hl : l.length ≤ 1000) (h1 : (∀ d ∈ l, Right n es d) → R true) (h2 : R false) : pf_l36_right n es l R := by
  unfold pf_l36_right
  refine p_r34_Few ⟨fun q1 => p_r25_Joined (by have := small_len q1; omega) ⟨fun q2 => ?_, fun _ => h2⟩, fun _ => h2⟩
  refine p_slices_ContainsFunc_DivisorS (p := fun d => if checkF d n = 0 then !(lowF n d) else true) (by omega) (fun d R' hd hR' => ?_) (fun hall => ?_) (fun d hd hp => by simpa using h2)
  · unfold pf_l36_right_1
    refine p_r17_Check ⟨fun h => p_r34_Low ?_, fun h => ?_⟩
    · rwa [if_pos h] at hR'
    · rwa [if_neg h] at hR'
  · refine h1 fun d hd => ?_
    have := hall d hd
    split at this
    · rename_i c
      exact ⟨q1, q2, c, by simpa using this⟩
    · cases this
theorem p_l36_poor {d : List Int} {R : Bool → Prop} (hd : d.length ≤ 1000) (h1 : R true) (h2 : (d.length ≤ 12 → ∀ v, v < d.length → -30 ≤ gi d v ∨ gi d v < -1048576) → R false) : pf_l36_poor d R := by
  unfold pf_l36_poor
  refine ⟨fun q => p_slices_ContainsFunc_Divisor (p := fun k => decide (k < -30 ∧ -1048576 ≤ k)) (by omega) (fun x R' hR' => ?_) ?_, fun q => h2 fun h => by omega⟩
  · unfold pf_l36_poor_1
    refine ⟨fun h => ?_, fun h => ?_⟩
    · have e : decide (-1048576 ≤ x) = decide (x < -30 ∧ -1048576 ≤ x) := by rw [decide_eq_decide]; omega
      rw [e]; exact hR'
    · rwa [decide_eq_false (by omega)] at hR'
  · cases hq : d.any fun k => decide (k < -30 ∧ -1048576 ≤ k) with
    | true => exact h1
    | false =>
      refine h2 fun _ v hv => ?_
      have h3 : ¬ (gi d v < -30 ∧ -1048576 ≤ gi d v) := fun h4 => by
        have := (any_gi (p := fun k => decide (k < -30 ∧ -1048576 ≤ k))).2 ⟨v, hv, decide_eq_true h4⟩
        rw [hq] at this; cases this
      omega
/-! ### The laws -/
theorem NeedyOk.len {n : Nat} {es : List E3} {d out : List Int} (h : NeedyOk n es d out) : out.length ≤ n := by
  obtain ⟨f, _, rfl⟩ := h
  exact filt_len f n
theorem Right.given0 {n : Int} {es : List E3} {d : List Int} (h : Right n es d) : givenF n es 0 d = 0 := h.given ⟨by omega, by have := h.graph; omega⟩
end Go.Proofs.Ytbehbjfcenlaeaa

/- Laws of layer 36: what an answer proves, equivalent divisors. -/
namespace Go.Proofs.Ytbehbjfcenlaeaa
open Go
set_option linter.unusedVariables false
set_option linter.unusedSimpArgs false

theorem win_equiv {n : Nat} {es : List E3} {x y : List Int} {s : Nat → Int} (h : ∀ v, v < n → gi y v = gi x v - Lp n es s v) : Win n es x ↔ Win n es y := by
  constructor
  · rintro ⟨t, ht⟩
    refine ⟨fun i => t i + (-1) * s i, fun v hv => ?_⟩
    rw [Lp_add t (fun i => (-1) * s i), Lp_mul, h v hv]
    have := ht v hv
    omega
  · rintro ⟨t, ht⟩
    refine ⟨fun i => t i + s i, fun v hv => ?_⟩
    rw [Lp_add t s]
    have := ht v hv
    rw [h v hv] at this
    omega
theorem gi_appF {n : Nat} {es : List E3} {d s : List Int} {v : Nat} (hv : v < n) : gi (appF n es d s) v = gi d v - Lp n es (gi s) v := gi_tab _ hv
theorem price_equiv {n : Nat} {es : List E3} {x y : List Int} {s : Nat → Int} (hx : x.length = n) (hy : y.length = n) (h : ∀ v, v < n → gi y v = gi x v - Lp n es s v) {v : Nat} (hv : v < n) {k k' : Int} (h1 : PriceOk n es x v k) (h2 : PriceOk n es y v k') : k = k' := by
  refine h1.eq (k' := k') ⟨h2.pos, ?_, fun j hj => ?_⟩
  · rw [← dg_lp hy hx h]; exact h2.few
  · rw [← h2.iff j hj]
    refine win_equiv (s := s) fun u hu => ?_
    rw [gi_addAt (by omega), gi_addAt (by omega), h u hu, h v hv]
    split
    · rename_i e; rw [e]; omega
    · rfl
theorem p_effmoves {n : Int} {es : List E3} {d s : List Int} : pf_l36_EffectiveMoves n es d s (fun r => r = true) := by
  unfold pf_l36_EffectiveMoves
  refine ⟨Right n es d ∧ (s.length : Int) = n ∧ (∀ j, j < s.length → -4 ≤ gi s j ∧ gi s j ≤ 4), fun ⟨hR, hsn, hsb⟩ => ?_, p_l36_right (by simp) (fun hR => ⟨fun _ => ?_, fun h => absurd rfl h⟩) ⟨fun h => (by cases h), fun _ => p_l36_awake rfl⟩⟩
  · obtain ⟨hg, hc, hel, hn1, hn6⟩ := hR.graph
    have hS := small_of hR.few hR.low
    have h0 := hR.given0
    obtain ⟨n, rfl⟩ : ∃ n' : Nat, n = (n' : Int) := ⟨n.toNat, by omega⟩
    obtain ⟨hdl, hdb⟩ := hR.nat
    obtain ⟨hE, -, hn12⟩ := gcheck_ok hg
    have hsn : s.length = n := by omega
    have hsc : checkF s n = 0 := checkF_of hsn (by omega) (by omega) fun j hj => by have := hsb j (by omega); omega
    refine p_firing_Apply (by omega) hg hR.chips hsc (fun hall => ?_) (fun hall => ?_)
    · have hol : (appF n es d s).length = n := appF_length
      have hog : ∀ v, v < n → gi (appF n es d s) v = gi d v - Lp n es (gi s) v := fun v hv => gi_appF hv
      generalize appF n es d s = o at hol hog hall ⊢
      refine ⟨Right n es o, fun hR2 => ?_, True, fun _ => ⟨fun _ => p_l36_awake rfl, fun h => absurd rfl h⟩, fun _ => p_l36_right (by simp) (fun hR2 => ⟨fun _ => p_l36_poor (by omega) ⟨fun _ => trivial, fun h => absurd rfl h⟩ fun _ => ⟨fun h => (by cases h), fun _ => hR2 o (by simp)⟩, fun h => absurd rfl h⟩) ⟨fun h => (by cases h), fun _ => trivial⟩, fun h => absurd rfl h⟩
      have hS2 := small_of hR2.few hR2.low
      have g2 := hR2.given0
      refine p_effective_Winnable (.inl hS) (by omega) (fun h => absurd h0 h) (fun _ r t hr b hb => p_effective_Winnable (.inl hS2) (by omega) (fun h => absurd g2 h) (fun _ r2 t2 hr2 b2 hb2 => ?_))
      simp only [Int.toNat_natCast] at hb hr hb2 hr2
      have ewin : Win n es d ↔ Win n es o := win_equiv hog
      have erb : b = b2 := by rw [Bool.eq_iff_iff, hb, hb2, ewin]
      have err : r = r2 := by
        refine (reduces_eq hE (by omega) hr (a' := r2) (s' := tab (fun v => (gi s v + gi t2 v) + - gi s 0) n) hr2.dl (tab_length _ _) (fun v hv => ?_) ?_ hr2.red).1
        · rw [Lp_congr (b := fun v => (gi s v + gi t2 v) + - gi s 0) (fun i hi => gi_tab _ hi) hv, Lp_add (fun v => gi s v + gi t2 v) (fun _ => - gi s 0), Lp_const, Lp_add (gi s) (gi t2), hr2.lp v hv, hog v hv]; omega
        · rw [gi_tab _ (by omega), hr2.sq]; omega
      refine ⟨True, fun _ => ?_, fun _ => ⟨fun _ => ⟨fun _ => p_slices_Equal_Divisor (by rw [hr.dl]; omega) ⟨fun _ => trivial, fun h => absurd (decide_eq_true err) h⟩, fun h => absurd (by rw [erb]; simp) h⟩, fun h => absurd rfl h⟩, fun h => absurd rfl h⟩
      refine ⟨Cnt n (fun _ => True), Cnt.start trivial, ?_⟩
      rintro m _ ⟨v, rfl, rfl, hv, -⟩
      refine ⟨fun hlt => ?_, fun _ => p_l36_awake rfl⟩
      refine p_effective_Price hS (by omega) (fun h => absurd h0 h) (fun _ h => absurd (by omega) h) (fun _ v1 e1 hv1 k hk => p_effective_Price hS2 (by omega) (fun h => absurd g2 h) (fun _ h => absurd (by omega) h) (fun _ v2 e2 hv2 k2 hk2 => ⟨fun _ => ⟨fun _ => ⟨fun _ => Cnt.next (by omega) (by omega) trivial, fun h => absurd ?_ h⟩, fun h => absurd rfl h⟩, fun h => absurd rfl h⟩))
      have e3 : v2 = v1 := by omega
      subst e3
      exact price_equiv hdl hol hog (by simpa using hv1) hk hk2
    · exfalso
      rw [Bool.eq_false_iff] at hall
      apply hall
      rw [all_iff_gi]
      intro v hv
      rw [appF_length] at hv
      rw [gi_appF hv]
      have h1 := hdb v hv
      have h2 := Lp_few hg (s := gi s) (B := 4) (by omega) (fun j hj => by have := hsb j (by omega); omega) hv
      unfold inF
      rw [decide_eq_true_eq]; omega
  · have hR := hR d (by simp)
    have hdl := (lowF_iff.1 hR.low).1
    refine p_l36_poor (by omega) ⟨fun _ => p_l36_awake rfl, fun h => absurd rfl h⟩ fun _ => ⟨fun h => (by cases h), fun _ => ⟨fun hsn => ?_, fun _ => p_l36_awake rfl⟩⟩
    refine p_slices_ContainsFunc_Script (p := fun x => decide (x < -4 ∨ 4 < x)) (by have := hR.graph; omega) (fun x R' hR' => ?_) ⟨fun _ => p_l36_awake rfl, fun h3 => ⟨hR, hsn, fun j hj => ?_⟩⟩
    · unfold pf_l36_EffectiveMoves_1
      refine ⟨fun q => ?_, fun q => ?_⟩
      · rwa [decide_eq_true (.inl q)] at hR'
      · have e : decide (4 < x) = decide (x < -4 ∨ 4 < x) := by rw [decide_eq_decide]; omega
        rw [e]; exact hR'
    · have h4 : ¬ ((gi s j < -4 ∨ 4 < gi s j)) := fun h5 => h3 (any_gi.2 ⟨j, hj, decide_eq_true h5⟩)
      omega
end Go.Proofs.Ytbehbjfcenlaeaa
