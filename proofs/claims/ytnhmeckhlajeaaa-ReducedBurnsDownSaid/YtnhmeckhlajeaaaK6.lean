/- Texts laid together: L34, L34R, SpE, SpG, SpF, DownP, Opn. -/
import Derived.Test.YtnhmeckhlajeaaaRows
import Derived.ProofKit
import Derived.Lib.SmallJoins
import Derived.Deep.Slices
import Derived.Below
import Derived.OpenShut
import Derived.Test.YtnhmeckhlajeaaaK5
/- Words for the laws of layer 34. -/
namespace Go.Proofs.Ytnhmeckhlajeaaa
open Go
set_option linter.unusedVariables false
set_option linter.unusedSimpArgs false

theorem small_of {n : Int} {es : List E3} {d : List Int} (h1 : smallF n es 6 9 = true) (h2 : lowF n d = true) : Small n es d := by
  unfold smallF at h1
  rw [decide_eq_true_eq] at h1
  rw [lowF_iff] at h2
  refine ⟨h1.1, h1.2, fun hc v hv => ?_⟩
  obtain ⟨n, rfl⟩ : ∃ n' : Nat, n = (n' : Int) := ⟨n.toNat, by omega⟩
  have := (checkF_ok hc).1
  have := h2.2 hc v (by omega)
  omega
theorem small_len {n : Int} {es : List E3} (h1 : smallF n es 6 9 = true) : es.length ≤ 40 := by
  unfold smallF at h1
  rw [decide_eq_true_eq] at h1
  exact h1.1
/-- A small connected graph with a divisor that has few chips. -/
structure Right (n : Int) (es : List E3) (d : List Int) : Prop where
  few : smallF n es 6 9 = true
  joined : joinedE n es = 0
  chips : checkF d n = 0
  low : lowF n d = true
theorem Right.given {n : Int} {es : List E3} {d : List Int} (h : Right n es d) {q : Int} (hq : 0 ≤ q ∧ q < n) : givenF n es q d = 0 := by
  have hj := h.joined
  unfold joinedE at hj
  unfold givenF
  by_cases h1 : gcheckF n es = 0
  · rw [if_pos h1] at hj ⊢
    by_cases h2 : connF n es = true
    · rw [if_pos h2, if_pos hq, h.chips]
    · rw [if_neg h2] at hj; omega
  · rw [if_neg h1] at hj; exact absurd hj h1
theorem Right.graph {n : Int} {es : List E3} {d : List Int} (h : Right n es d) : gcheckF n es = 0 ∧ connF n es = true ∧ es.length ≤ 40 ∧ 1 ≤ n ∧ n ≤ 6 := by
  have hj := h.joined
  have hs := h.few
  unfold joinedE at hj
  unfold smallF at hs
  rw [decide_eq_true_eq] at hs
  by_cases h1 : gcheckF n es = 0
  · rw [if_pos h1] at hj
    have hn := (hs.2 h1).1
    have h0 : 1 ≤ n := by
      unfold gcheckF at h1
      split at h1
      · omega
      · omega
    by_cases h2 : connF n es = true
    · exact ⟨h1, h2, hs.1, h0, hn⟩
    · rw [if_neg h2] at hj; omega
  · rw [if_neg h1] at hj; exact absurd hj h1
/-- The divisor of a right pair: as long as there are vertices, with few chips. -/
theorem Right.nat {n : Nat} {es : List E3} {d : List Int} (h : Right (n : Int) es d) : d.length = n ∧ ∀ j, j < n → -100 ≤ gi d j ∧ gi d j ≤ 100 := by
  have hl := (checkF_ok h.chips).1
  refine ⟨hl, fun j hj => (lowF_iff.1 h.low).2 h.chips j (by omega)⟩
end Go.Proofs.Ytnhmeckhlajeaaa

/- What 'right' of layer 34 comes to. -/
namespace Go.Proofs.Ytnhmeckhlajeaaa
open Go
set_option linter.unusedVariables false

theorem p_l34_right {n : Int} {es : List E3} {d : List Int} {R : Bool → Prop} (h1 : Right n es d → R true) (h2 : R false) : pf_l34_right n es d R := by
  unfold pf_l34_right
  refine p_r34_Few ⟨fun q1 => ?_, fun _ => h2⟩
  have hel := small_len q1
  refine p_r25_Joined (by omega) ⟨fun q2 => p_r17_Check ⟨fun q3 => p_r34_Low ?_, fun _ => h2⟩, fun _ => h2⟩
  cases hq : lowF n d with
  | true => exact h1 ⟨q1, q2, q3, hq⟩
  | false => exact h2
theorem tmod_nat {a n : Int} (ha : 0 ≤ a) (hn : 1 ≤ n) : 0 ≤ a.tmod n ∧ a.tmod n < n := ⟨Int.tmod_nonneg _ ha, Int.tmod_lt_of_pos _ (by omega)⟩
end Go.Proofs.Ytnhmeckhlajeaaa

/- What the library's pure forms come to: search, minimum, order. -/
namespace Go.Proofs.Ytnhmeckhlajeaaa
open Go
set_option linter.unusedVariables false
set_option linter.unusedSimpArgs false

theorem any_gi {p : Int → Bool} {s : List Int} : s.any p = true ↔ ∃ k, k < s.length ∧ p (gi s k) = true := by
  rw [List.any_eq_true]
  constructor
  · rintro ⟨x, hx, hp⟩
    obtain ⟨k, hk, rfl⟩ := List.getElem_of_mem hx
    exact ⟨k, hk, by rw [gi_of_lt hk]; exact hp⟩
  · rintro ⟨k, hk, hp⟩
    exact ⟨_, gi_mem hk, hp⟩
theorem p_slices_IndexFunc_Script {s : List Int} {F : Int → (Bool → Prop) → Prop} {p : Int → Bool} {R : Int → Prop} (hl : s.length ≤ 1000000000) (hF : ∀ x (R' : Bool → Prop), R' (p x) → F x R') (h1 : ∀ k : Nat, k < s.length → p (gi s k) = true → R (k : Int)) (h2 : (∀ k, k < s.length → p (gi s k) = false) → R (-1)) : pf_slices_IndexFunc_Script s F R := by
  unfold pf_slices_IndexFunc_Script
  refine ⟨Cnt s.length (fun k => ∀ j, j < k → p (gi s j) = false), Cnt.start (fun j hj => absurd hj (by omega)), ?_⟩
  rintro m _ ⟨k, rfl, rfl, hk, hinv⟩
  simp only [Int.toNat_natCast]
  refine ⟨fun hlt => ⟨by omega, hF _ _ ⟨fun h => h1 k (by omega) h, fun h => Cnt.next (by omega) (by omega) fun j hj => ?_⟩⟩, fun hge => h2 fun j hj => hinv j (by omega)⟩
  by_cases e : j = k
  · subst e; simpa using h
  · exact hinv j (by omega)
theorem p_slices_ContainsFunc_Script {s : List Int} {F : Int → (Bool → Prop) → Prop} {p : Int → Bool} {R : Bool → Prop} (hl : s.length ≤ 1000000000) (hF : ∀ x (R' : Bool → Prop), R' (p x) → F x R') (h : R (s.any p)) : pf_slices_ContainsFunc_Script s F R := by
  unfold pf_slices_ContainsFunc_Script
  refine p_slices_IndexFunc_Script hl hF (fun k hk hp => ?_) (fun hn => ?_)
  · rw [any_gi.2 ⟨k, hk, hp⟩] at h
    have e : decide (0 ≤ (k : Int)) = true := by simp
    rw [e]; exact h
  · have e : s.any p = false := by
      rw [Bool.eq_false_iff]
      intro q
      obtain ⟨k, hk, hp⟩ := any_gi.1 q
      rw [hn k hk] at hp; cases hp
    rw [e] at h; exact h

theorem p_slices_IndexFunc_Divisor {s : List Int} {F : Int → (Bool → Prop) → Prop} {p : Int → Bool} {R : Int → Prop} (hl : s.length ≤ 1000000000) (hF : ∀ x (R' : Bool → Prop), R' (p x) → F x R') (h1 : ∀ k : Nat, k < s.length → p (gi s k) = true → R (k : Int)) (h2 : (∀ k, k < s.length → p (gi s k) = false) → R (-1)) : pf_slices_IndexFunc_Divisor s F R := by
  unfold pf_slices_IndexFunc_Divisor
  refine ⟨Cnt s.length (fun k => ∀ j, j < k → p (gi s j) = false), Cnt.start (fun j hj => absurd hj (by omega)), ?_⟩
  rintro m _ ⟨k, rfl, rfl, hk, hinv⟩
  simp only [Int.toNat_natCast]
  refine ⟨fun hlt => ⟨by omega, hF _ _ ⟨fun h => h1 k (by omega) h, fun h => Cnt.next (by omega) (by omega) fun j hj => ?_⟩⟩, fun hge => h2 fun j hj => hinv j (by omega)⟩
  by_cases e : j = k
  · subst e; simpa using h
  · exact hinv j (by omega)
theorem p_slices_ContainsFunc_Divisor {s : List Int} {F : Int → (Bool → Prop) → Prop} {p : Int → Bool} {R : Bool → Prop} (hl : s.length ≤ 1000000000) (hF : ∀ x (R' : Bool → Prop), R' (p x) → F x R') (h : R (s.any p)) : pf_slices_ContainsFunc_Divisor s F R := by
  unfold pf_slices_ContainsFunc_Divisor
  refine p_slices_IndexFunc_Divisor hl hF (fun k hk hp => ?_) (fun hn => ?_)
  · rw [any_gi.2 ⟨k, hk, hp⟩] at h
    have e : decide (0 ≤ (k : Int)) = true := by simp
    rw [e]; exact h
  · have e : s.any p = false := by
      rw [Bool.eq_false_iff]
      intro q
      obtain ⟨k, hk, hp⟩ := any_gi.1 q
      rw [hn k hk] at hp; cases hp
    rw [e] at h; exact h

theorem p_slices_Index {s : List Int} {v : Int} {R : Int → Prop} (hl : s.length ≤ 1000000000) (h1 : ∀ k : Nat, k < s.length → gi s k = v → R (k : Int)) (h2 : (∀ k, k < s.length → gi s k ≠ v) → R (-1)) : pf_slices_Index_intS s v R := by
  unfold pf_slices_Index_intS
  refine ⟨Cnt s.length (fun k => ∀ j, j < k → gi s j ≠ v), Cnt.start (fun j hj => absurd hj (by omega)), ?_⟩
  rintro m _ ⟨k, rfl, rfl, hk, hinv⟩
  simp only [Int.toNat_natCast]
  refine ⟨fun hlt => ⟨by omega, fun h => h1 k (by omega) h.symm, fun h => Cnt.next (by omega) (by omega) fun j hj => ?_⟩, fun hge => h2 fun j hj => hinv j (by omega)⟩
  by_cases e : j = k
  · subst e; exact fun q => h q.symm
  · exact hinv j (by omega)
theorem p_slices_Contains {s : List Int} {v : Int} {R : Bool → Prop} (hl : s.length ≤ 1000000000) (h : R (decide (v ∈ s))) : pf_slices_Contains_intS s v R := by
  unfold pf_slices_Contains_intS
  refine p_slices_Index hl (fun k hk hp => ?_) (fun hn => ?_)
  · rw [decide_eq_true (by rw [← hp]; exact gi_mem hk)] at h
    have e : decide (0 ≤ (k : Int)) = true := by simp
    rw [e]; exact h
  · have e : ¬ v ∈ s := fun q => by
      obtain ⟨k, hk, rfl⟩ := List.getElem_of_mem q
      exact hn k hk (gi_of_lt hk)
    rw [decide_eq_false e] at h; exact h
theorem p_cmp_Less {x y : Int} {R : Bool → Prop} (h : R (decide (x < y))) : pf_cmp_Less_int x y R := by
  unfold pf_cmp_Less_int pf_cmp_isNaN_int
  simp only [decide_true, Bool.not_true, Bool.false_eq_true, false_implies, not_false_eq_true, true_implies, true_and]
  exact h
/-- No number is less than the one before it. -/
theorem p_slices_IsSorted {x : List Int} {R : Bool → Prop} (hl : x.length ≤ 1000000000) (hs : ∀ k, k + 1 < x.length → gi x k ≤ gi x (k + 1)) (h : R true) : pf_slices_IsSorted_intS x R := by
  unfold pf_slices_IsSorted_intS
  refine ⟨i64 (by omega), fun m i => m = (i + 1).toNat ∧ -1 ≤ i ∧ i < (x.length : Int), ⟨_, rfl, by omega, by omega⟩, ?_⟩
  rintro m i ⟨rfl, h0, h1⟩
  refine ⟨fun hi => ⟨by omega, i64 (by omega), by omega, p_cmp_Less ⟨fun q => ?_, fun q => ⟨(i - 1 + 1).toNat, by omega, rfl, by omega, by omega⟩⟩⟩, fun hi => h⟩
  have := hs (i - 1).toNat (by omega)
  rw [show (i - 1).toNat + 1 = i.toNat by omega] at this
  rw [decide_eq_true_eq] at q
  omega
/-- The least number. -/
theorem p_slices_Min {x : List Int} {R : Int → Prop} (hl : x.length ≤ 1000000000) (h0 : 0 < x.length) (h : ∀ m, (∃ k, k < x.length ∧ gi x k = m) → (∀ k, k < x.length → m ≤ gi x k) → R m) : pf_slices_Min_Divisor x R := by
  unfold pf_slices_Min_Divisor
  refine ⟨True, fun _ => ⟨by omega, ?_⟩, fun q => by omega, fun _ => trivial⟩
  refine ⟨fun c m i => Cnt x.length (fun k => 1 ≤ k ∧ (∃ j, j < k ∧ gi x j = m) ∧ ∀ j, j < k → m ≤ gi x j) c i, ⟨x.length - 1, 1, rfl, rfl, h0, by omega, ⟨0, by omega, rfl⟩, fun j hj => by rw [show j = 0 by omega]; exact Int.le_refl _⟩, ?_⟩
  rintro c m _ ⟨k, rfl, rfl, hk, h1, ⟨j0, hj0, rfl⟩, hm⟩
  simp only [Int.toNat_natCast]
  refine ⟨fun hlt => ⟨by omega, Cnt.next (by omega) (by omega) ⟨by omega, ?_, fun j hj => ?_⟩⟩, fun hge => ?_⟩
  · by_cases q : gi x k < gi x j0
    · exact ⟨k, by omega, by unfold mnF; rw [if_pos q]⟩
    · exact ⟨j0, by omega, by unfold mnF; rw [if_neg q]⟩
  · rw [mnF_eq]
    by_cases e : j = k
    · subst e; omega
    · have := hm j (by omega); omega
  · have : k = x.length := by omega
    subst this
    exact h _ ⟨j0, hj0, rfl⟩ hm
end Go.Proofs.Ytnhmeckhlajeaaa

/- What the pure forms of chips, graph and firing come to. -/
namespace Go.Proofs.Ytnhmeckhlajeaaa
open Go
set_option linter.unusedVariables false
set_option linter.unusedSimpArgs false

theorem p_chips_within {k : Int} {R : Bool → Prop} (h : R (inF k)) : pf_chips_within k R := by
  unfold pf_chips_within
  refine ⟨fun h1 => ?_, fun h1 => ?_⟩
  · have e : decide (k ≤ 1048576) = inF k := by unfold inF; simp [h1]
    rw [e]; exact h
  · have e : false = inF k := by unfold inF; simp [h1]
    rw [e]; exact h
theorem p_chips_Check {d : List Int} {n : Int} {R : Int → Prop} (h : R (checkF d n)) : pf_chips_Check d n R := by
  unfold pf_chips_Check pf_chips_vertices
  have hout : ¬ (1 ≤ n ∧ n ≤ 12) → R 2 := fun q => by
    have : checkF d n = 2 := by unfold checkF vertsF; rw [if_neg q, if_neg (by omega)]
    rwa [this] at h
  refine ⟨fun q => ⟨fun q2 => absurd q2 (by omega), fun _ => hout (by omega)⟩, fun q => ⟨fun q2 => ⟨fun q3 => absurd q3 (by omega), fun _ => hout (by omega)⟩, fun q2 => ⟨fun _ => ?_, fun q3 => absurd rfl q3⟩⟩⟩
  have hc : checkF d n = if (d.length : Int) = n then (if d.all inF then 0 else 2) else 8 := by unfold checkF; rw [if_pos (by unfold vertsF; rw [if_pos (by omega)])]
  rw [hc] at h
  refine ⟨fun hln => ?_, fun hln => by rwa [if_neg hln] at h⟩
  rw [if_pos hln] at h
  refine ⟨Cnt d.length (fun k => ∀ j, j < k → inF (gi d j) = true), Cnt.start (fun j hj => absurd hj (by omega)), ?_⟩
  rintro m _ ⟨k, rfl, rfl, hk, hinv⟩
  refine ⟨fun hlt => ⟨by omega, p_chips_within ⟨fun h1 => Cnt.next (by omega) (by omega) fun j hj => ?_, fun h1 => ?_⟩⟩, fun hge => ?_⟩
  · by_cases e : j = k
    · subst e; simpa using h1
    · exact hinv j (by omega)
  · rw [if_neg (fun hall => h1 ((all_iff_gi inF d).1 hall _ (by omega)))] at h; exact h
  · rw [if_pos ((all_iff_gi inF d).2 fun j hj => hinv j (by omega))] at h; exact h
theorem p_graph_vertex {n v : Int} {R : Bool → Prop} (h : R (decide (0 ≤ v ∧ v < n))) : pf_graph_vertex n v R := by
  unfold pf_graph_vertex
  refine ⟨fun h1 => ?_, fun h1 => ?_⟩
  · have e : decide (v < n) = decide (0 ≤ v ∧ v < n) := by simp [h1]
    rw [e]; exact h
  · have e : false = decide (0 ≤ v ∧ v < n) := by simp [h1]
    rw [e]; exact h
theorem p_cmp_Compare {a b : Int} {R : Int → Prop} (h : R (cmpF a b)) : pf_cmp_Compare_int a b R := by
  unfold pf_cmp_Compare_int pf_cmp_isNaN_int
  unfold cmpF at h
  refine ⟨fun q => absurd q (by simp), fun _ => ⟨fun q => absurd q (by simp), fun _ => ⟨fun h1 => by rwa [if_pos h1] at h, fun h1 => ?_⟩⟩⟩
  rw [if_neg h1] at h
  refine ⟨fun h2 => by rwa [if_pos h2] at h, fun h2 => by rwa [if_neg h2] at h⟩
theorem p_cmp_Or2 {x y : Int} {R : Int → Prop} (h : R (orF x y)) : pf_cmp_Or_int [x, y] R := by
  unfold pf_cmp_Or_int
  unfold orF at h
  refine ⟨Cnt 2 (fun k => ∀ j, j < k → gi [x, y] j = 0), Cnt.start (fun j hj => absurd hj (by omega)), ?_⟩
  rintro m _ ⟨k, rfl, rfl, hk, hinv⟩
  simp only [Int.toNat_natCast, List.length_cons, List.length_nil]
  have hk3 : k = 0 ∨ k = 1 ∨ k = 2 := by omega
  have g0 : gi [x, y] 0 = x := rfl
  have g1 : gi [x, y] 1 = y := rfl
  have hnx : gi [x, y] k = 0 → ∀ j, j < k + 1 → gi [x, y] j = 0 := fun q j hj => by
    by_cases e : j = k
    · subst e; exact q
    · exact hinv j (by omega)
  refine ⟨fun hlt => ⟨by omega, fun q => Cnt.next (by omega) (by omega) (hnx q), fun q => ?_⟩, fun hge => ?_⟩
  · rcases hk3 with rfl | rfl | rfl
    · rw [g0] at q ⊢; rwa [if_pos q] at h
    · have h0 := hinv 0 (by omega)
      rw [g0] at h0
      rw [g1]; rwa [if_neg (fun q2 => q2 h0)] at h
    · exact absurd hlt (by omega)
  · have : k = 2 := by omega
    subst this
    have h0 := hinv 0 (by omega)
    have h1 := hinv 1 (by omega)
    rw [g0] at h0
    rw [g1] at h1
    rw [if_neg (fun q2 => q2 h0), h1] at h; exact h
theorem p_pair_compare {a b c d : Int} {R : Int → Prop} (h : R (pcmpF a b c d)) : pf_graph_pair_compare a b c d R :=
  p_cmp_Compare (p_cmp_Compare (p_cmp_Or2 h))
theorem p_graph_Check {n : Int} {es : List E3} {R : Int → Prop} (hl : es.length ≤ 1000000000) (h : R (gcheckF n es)) : pf_graph_Check n es R := by
  unfold pf_graph_Check
  have hout : ¬ (1 ≤ n ∧ n ≤ 12) → R 2 := fun q => by unfold gcheckF at h; rwa [if_neg q] at h
  refine ⟨1 ≤ n ∧ n ≤ 12, fun hn => ?_, fun q => hout (by omega), fun q => ⟨fun q2 => hout (by omega), fun q2 => ⟨by omega, by omega⟩⟩⟩
  have hg : gcheckF n es = gchk n (-1) (-1) es := by unfold gcheckF; rw [if_pos hn]
  rw [hg] at h
  refine ⟨fun m i a b => Cnt es.length (fun k => a = (pre es k).1 ∧ b = (pre es k).2 ∧ gchk n (-1) (-1) es = gchk n (pre es k).1 (pre es k).2 (es.drop k)) m i, Cnt.start ⟨rfl, rfl, rfl⟩, ?_⟩
  rintro m _ _ _ ⟨k, rfl, rfl, hk, rfl, rfl, hinv⟩
  simp only [Int.toNat_natCast]
  refine ⟨fun hlt => ⟨by omega, ?_⟩, fun hge => ?_⟩
  · have hlt : k < es.length := by omega
    rw [ge_drop hlt, gchk_cons] at hinv
    generalize hx : ge es k = x at hinv ⊢
    have hed : R (if edgeF n (pre es k).1 (pre es k).2 x = 0 then gchk n x.1 x.2.1 (es.drop (k + 1)) else edgeF n (pre es k).1 (pre es k).2 x) := by rw [← hinv]; exact h
    have h2 : ¬ ((0 ≤ x.1 ∧ x.1 < n) ∧ (0 ≤ x.2.1 ∧ x.2.1 < n) ∧ 1 ≤ x.2.2 ∧ x.2.2 ≤ 50) → R 2 := fun q => by
      unfold edgeF at hed; rw [if_neg q, if_neg (by omega)] at hed; exact hed
    refine ⟨(0 ≤ x.1 ∧ x.1 < n) ∧ (0 ≤ x.2.1 ∧ x.2.1 < n) ∧ 1 ≤ x.2.2 ∧ x.2.2 ≤ 50, fun hJ => ?_, p_graph_vertex ⟨fun q1 => p_graph_vertex ⟨fun q2 => ⟨fun q3 => h2 (by omega), fun q3 => ⟨fun q4 => h2 (by omega), fun q4 => ?_⟩⟩, fun q2 => h2 (by simp at q2; omega)⟩, fun q1 => h2 (by simp at q1; omega)⟩⟩
    · have he : edgeF n (pre es k).1 (pre es k).2 x = if x.1 ≤ x.2.1 ∧ pcmpF (pre es k).1 (pre es k).2 x.1 x.2.1 < 0 then 0 else 9 := by unfold edgeF; rw [if_pos hJ]
      rw [he] at hed hinv
      refine ⟨fun q => ?_, fun q => p_pair_compare ⟨fun q2 => ?_, fun q2 => Cnt.next hlt (by omega) ⟨?_, ?_, ?_⟩⟩⟩
      · rw [if_neg (show ¬ (x.1 ≤ x.2.1 ∧ _) by omega), if_neg (by omega)] at hed; exact hed
      · rw [if_neg (show ¬ (x.1 ≤ x.2.1 ∧ _) by omega), if_neg (by omega)] at hed; exact hed
      · simp [pre, hx]
      · simp [pre, hx]
      · have hc : x.1 ≤ x.2.1 ∧ pcmpF (pre es k).1 (pre es k).2 x.1 x.2.1 < 0 := ⟨by omega, by omega⟩
        rw [if_pos hc, if_pos rfl] at hinv
        rw [hinv]
        simp [pre, hx]
    · simp only [decide_eq_true_eq] at q1 q2
      exact ⟨q1, q2, by omega, by omega⟩
  · have hk2 : k = es.length := by omega
    rw [hinv, hk2, List.drop_length] at h
    exact h
/-- The error of a graph with a divisor. -/
def fgivenF (n : Int) (es : List E3) (d : List Int) : Int := if gcheckF n es = 0 then checkF d n else gcheckF n es
theorem p_firing_given {n : Int} {es : List E3} {d : List Int} {R : Int → Prop} (hl : es.length ≤ 1000000000) (h : R (fgivenF n es d)) : pf_firing_given n es d R := by
  unfold pf_firing_given
  unfold fgivenF at h
  exact p_graph_Check hl ⟨fun q => p_chips_Check (by rwa [if_pos q] at h), fun q => by rwa [if_neg q] at h⟩
theorem p_firing_Check {n : Int} {es : List E3} {d : List Int} {R : Int → Prop} (hl : es.length ≤ 1000000000) (h : R (fgivenF n es d)) : pf_firing_Check n es d R := p_firing_given hl h

/-! ### What edges move -/
theorem W_snoc (x : E3) (v u : Nat) : ∀ l : List E3, W (l ++ [x]) v u = W l v u + w1 x v u
  | [] => by rw [List.nil_append, W_cons, W_nil]; omega
  | y :: t => by rw [List.cons_append, W_cons, W_cons, W_snoc x v u t]; omega
/-- What an edge takes from a vertex by a script. -/
def e1 (x : E3) (s : Nat → Int) (v : Nat) : Int := (if (v : Int) = x.1 then x.2.2 * (s x.1.toNat - s x.2.1.toNat) else 0) - (if (v : Int) = x.2.1 then x.2.2 * (s x.1.toNat - s x.2.1.toNat) else 0)
theorem Lp_snoc {n : Nat} {l : List E3} {x : E3} {s : Nat → Int} {v : Nat} (hx : 0 ≤ x.1 ∧ x.1 < n ∧ 0 ≤ x.2.1 ∧ x.2.1 < n) (hv : v < n) : Lp n (l ++ [x]) s v = Lp n l s v + e1 x s v := by
  have h1 : Lp n (l ++ [x]) s v = Lp n l s v + sm n (fun u => w1 x v u * (s v - s u)) := by
    unfold Lp
    rw [← sm_add]
    refine sm_congr fun u _ => ?_
    rw [W_snoc, Int.add_mul]
  rw [h1]
  congr 1
  obtain ⟨a, ha⟩ : ∃ a : Nat, x.1 = a := ⟨x.1.toNat, by omega⟩
  obtain ⟨b, hb⟩ : ∃ b : Nat, x.2.1 = b := ⟨x.2.1.toNat, by omega⟩
  unfold e1
  rw [ha, hb, Int.toNat_natCast, Int.toNat_natCast]
  have ean : a < n := by omega
  have ebn : b < n := by omega
  by_cases hab : a = b
  · subst hab
    rw [show (fun u => w1 x v u * (s v - s u)) = fun _ => 0 from ?_, sm_zero]
    · omega
    · funext u
      unfold w1
      rw [if_neg (by omega)]; omega
  · by_cases e1 : v = a
    · subst e1
      rw [if_pos rfl, if_neg (by omega), show (fun u => w1 x v u * (s v - s u)) = fun u => if u = b then x.2.2 * (s v - s b) else 0 from ?_, sm_one _ ebn]
      · omega
      · funext u
        unfold w1
        by_cases e2 : u = b
        · subst e2; rw [if_pos ⟨by omega, .inl ⟨ha, hb⟩⟩, if_pos rfl]
        · rw [if_neg (by omega), if_neg e2]; omega
    · by_cases e3 : v = b
      · subst e3
        rw [if_neg (by omega), if_pos rfl, show (fun u => w1 x v u * (s v - s u)) = fun u => if u = a then x.2.2 * (s v - s a) else 0 from ?_, sm_one _ ean]
        · rw [show s a - s v = -(s v - s a) by omega, Int.mul_neg]; omega
        · funext u
          unfold w1
          by_cases e2 : u = a
          · subst e2; rw [if_pos ⟨by omega, .inr ⟨ha, hb⟩⟩, if_pos rfl]
          · rw [if_neg (by omega), if_neg e2]; omega
      · rw [if_neg (by omega), if_neg (by omega), show (fun u => w1 x v u * (s v - s u)) = fun _ => 0 from ?_, sm_zero]
        · omega
        · funext u
          unfold w1
          rw [if_neg (by omega)]; omega
theorem flow_bound {x : E3} {s : Nat → Int} (hm : 1 ≤ x.2.2 ∧ x.2.2 ≤ 50) (ha : -2000000000 ≤ s x.1.toNat ∧ s x.1.toNat ≤ 2000000000) (hb : -2000000000 ≤ s x.2.1.toNat ∧ s x.2.1.toNat ≤ 2000000000) : -200000000000 ≤ x.2.2 * (s x.1.toNat - s x.2.1.toNat) ∧ x.2.2 * (s x.1.toNat - s x.2.1.toNat) ≤ 200000000000 := by
  generalize x.2.2 = m at hm ⊢
  have h : -4000000000 ≤ s x.1.toNat - s x.2.1.toNat ∧ s x.1.toNat - s x.2.1.toNat ≤ 4000000000 := by omega
  generalize s x.1.toNat - s x.2.1.toNat = y at h ⊢
  have := Int.natAbs_mul m y
  have h4 : m.natAbs ≤ 50 := by omega
  have h5 : y.natAbs ≤ 4000000000 := by omega
  have := Nat.mul_le_mul h4 h5
  omega
theorem Lp_take_bound {n : Nat} {es : List E3} (hE : EOk n es) {s : Nat → Int} (hs : ∀ j, j < n → -2000000000 ≤ s j ∧ s j ≤ 2000000000) {v : Nat} (hv : v < n) : ∀ k, k ≤ es.length → -(400000000000 * (k : Int)) ≤ Lp n (es.take k) s v ∧ Lp n (es.take k) s v ≤ 400000000000 * k
  | 0, _ => by
    have : Lp n [] s v = 0 := by
      unfold Lp
      rw [show (fun u => W [] v u * (s v - s u)) = fun _ => 0 from ?_, sm_zero]
      funext u; rw [W_nil]; omega
    rw [List.take_zero, this]; omega
  | k + 1, hk => by
    have ih := Lp_take_bound hE hs hv k (by omega)
    have hx := hE _ (ge_mem (show k < es.length by omega))
    have hf := flow_bound (x := ge es k) (s := s) (by omega) (hs _ (by omega)) (hs _ (by omega))
    have e : es.take (k + 1) = es.take k ++ [ge es k] := by rw [List.take_add_one, List.getElem?_eq_getElem (by omega), ge_of_lt (by omega)]; rfl
    rw [e, Lp_snoc (by omega) hv]
    unfold e1
    split <;> split <;> omega
theorem Lp_nil {n : Nat} {s : Nat → Int} {v : Nat} : Lp n [] s v = 0 := by
  unfold Lp
  rw [show (fun u => W [] v u * (s v - s u)) = fun _ => 0 from ?_, sm_zero]
  funext u; rw [W_nil]; omega
/-- An edge's step. -/
theorem edge_step {n : Nat} {es : List E3} (hE : EOk n es) {d s : List Int} {k : Nat} (hk : k < es.length) :
    ((appF n (es.take k) d s).set (ge es k).1.toNat (gi (appF n (es.take k) d s) (ge es k).1.toNat - (ge es k).2.2 * (gi s (ge es k).1.toNat - gi s (ge es k).2.1.toNat))).set (ge es k).2.1.toNat
      (gi ((appF n (es.take k) d s).set (ge es k).1.toNat (gi (appF n (es.take k) d s) (ge es k).1.toNat - (ge es k).2.2 * (gi s (ge es k).1.toNat - gi s (ge es k).2.1.toNat))) (ge es k).2.1.toNat + (ge es k).2.2 * (gi s (ge es k).1.toNat - gi s (ge es k).2.1.toNat)) = appF n (es.take (k + 1)) d s := by
  have hx := hE _ (ge_mem hk)
  have e : es.take (k + 1) = es.take k ++ [ge es k] := by rw [List.take_add_one, List.getElem?_eq_getElem hk, ge_of_lt hk]; rfl
  have hal : (appF n (es.take k) d s).length = n := appF_length
  refine gi_ext (by rw [List.length_set, List.length_set, appF_length, appF_length]) fun i hi => ?_
  rw [List.length_set, List.length_set, hal] at hi
  have h1 : ∀ j, j < n → gi (appF n (es.take k) d s) j = gi d j - Lp n (es.take k) (gi s) j := fun j hj => gi_tab _ hj
  have h2 : gi (appF n (es.take (k + 1)) d s) i = gi d i - (Lp n (es.take k) (gi s) i + e1 (ge es k) (gi s) i) := by
    rw [← Lp_snoc (by omega) hi, ← e]; exact gi_tab _ hi
  rw [h2, gi_set (by rw [List.length_set, hal]; omega), gi_set (by rw [hal]; omega), gi_set (by rw [hal]; omega)]
  unfold e1
  by_cases q1 : i = (ge es k).2.1.toNat
  · rw [if_pos q1, if_pos (show (i : Int) = (ge es k).2.1 by omega)]
    by_cases q2 : (ge es k).2.1.toNat = (ge es k).1.toNat
    · rw [if_pos q2, if_pos (show (i : Int) = (ge es k).1 by omega), ← q2, ← q1, h1 i hi]; omega
    · rw [if_neg q2, if_neg (show ¬ (i : Int) = (ge es k).1 by omega), ← q1, h1 i hi]; omega
  · rw [if_neg q1, if_neg (show ¬ (i : Int) = (ge es k).2.1 by omega)]
    by_cases q2 : i = (ge es k).1.toNat
    · rw [if_pos q2, if_pos (show (i : Int) = (ge es k).1 by omega), ← q2, h1 i hi]; omega
    · rw [if_neg q2, if_neg (show ¬ (i : Int) = (ge es k).1 by omega), h1 i hi]; omega
section
variable {n : Nat} {es : List E3} {d s : List Int}
theorem app_start (hdl : d.length = n) : d = appF n (es.take 0) d s := by
  refine eq_tab hdl _ fun i _ => ?_
  rw [List.take_zero, Lp_nil]; omega
theorem p_firing_moved {R : List Int → Prop} (hl : es.length ≤ 1000) (hg : gcheckF n es = 0) (hdl : d.length = n) (hd : ∀ j, j < n → -1000000000000000 ≤ gi d j ∧ gi d j ≤ 1000000000000000) (hsl : s.length = n) (hs : ∀ j, j < n → -2000000000 ≤ gi s j ∧ gi s j ≤ 2000000000) (h : R (appF n es d s)) : pf_firing_moved (n : Int) es d s R := by
  obtain ⟨hE, hn1, hn12⟩ := gcheck_ok hg
  unfold pf_firing_moved
  refine p_slices_Clone_Divisor (by omega) ?_
  refine ⟨fun m v out => Cnt es.length (fun k => out = appF n (es.take k) d s) m v, Cnt.start (app_start hdl), ?_⟩
  rintro m _ out ⟨k, rfl, rfl, hk, rfl⟩
  simp only [Int.toNat_natCast]
  refine ⟨fun hlt => ⟨by omega, ?_⟩, fun hge => ?_⟩
  · have hlt : k < es.length := by omega
    have hx := hE _ (ge_mem hlt)
    have hf := flow_bound (x := ge es k) (s := gi s) (by omega) (hs _ (by omega)) (hs _ (by omega))
    have ha := hs (ge es k).1.toNat (by omega)
    have hb := hs (ge es k).2.1.toNat (by omega)
    have hal : (appF n (es.take k) d s).length = n := appF_length
    have h1 : ∀ j, j < n → gi (appF n (es.take k) d s) j = gi d j - Lp n (es.take k) (gi s) j := fun j hj => gi_tab _ hj
    have hbd : ∀ j, j < n → -2000000000000000 ≤ gi (appF n (es.take k) d s) j ∧ gi (appF n (es.take k) d s) j ≤ 2000000000000000 := fun j hj => by
      have := Lp_take_bound hE hs hj k (by omega)
      have := hd j hj
      rw [h1 j hj]; omega
    have b1 := hbd (ge es k).1.toNat (by omega)
    have b2 := hbd (ge es k).2.1.toNat (by omega)
    unfold pf_firing_moved_1
    refine ⟨by omega, by omega, i64 (by omega), i64 (by omega), by omega, i64 (by omega), by rw [List.length_set]; omega, ?_, Cnt.next hlt (by omega) (edge_step hE hlt)⟩
    rw [gi_set (by omega)]
    split
    · exact i64 (by omega)
    · exact i64 (by omega)
  · have hk2 : k = es.length := by omega
    rw [hk2, List.take_length]; exact h
theorem p_firing_bounded {R : List Int → Int → Prop} (hl : d.length ≤ 1000000000) (h1 : d.all inF = true → R d 0) (h2 : d.all inF = false → R [] 11) : pf_firing_bounded d R := by
  unfold pf_firing_bounded
  refine p_slices_ContainsFunc_Divisor (p := fun x => !inF x) hl (fun x R' hR => ?_) ⟨fun q => h2 ?_, fun q => h1 ?_⟩
  · unfold pf_firing_bounded_1
    unfold inF at hR
    refine ⟨fun q => ?_, fun q => ?_⟩
    · rw [decide_eq_false (by omega)] at hR; exact hR
    · have e : decide (1048576 < x) = !decide (-1048576 ≤ x ∧ x ≤ 1048576) := by
        by_cases c : 1048576 < x
        · rw [decide_eq_true c, decide_eq_false (by omega)]; rfl
        · rw [decide_eq_false c, decide_eq_true (by omega)]; rfl
      rw [e]; exact hR
  · rw [Bool.eq_false_iff]
    intro hall
    obtain ⟨x, hx, hp⟩ := List.any_eq_true.1 q
    rw [List.all_eq_true.1 hall x hx] at hp; cases hp
  · rw [List.all_eq_true]
    intro x hx
    cases hi : inF x with
    | true => rfl
    | false => exact absurd (List.any_eq_true.2 ⟨x, hx, by rw [hi]; rfl⟩) q
/-- Apply, for right arguments. -/
theorem p_firing_Apply {R : List Int → Int → Prop} (hl : es.length ≤ 1000) (hg : gcheckF n es = 0) (hd : checkF d n = 0) (hs : checkF s n = 0) (h1 : (appF n es d s).all inF = true → R (appF n es d s) 0) (h2 : (appF n es d s).all inF = false → R [] 11) : pf_firing_Apply (n : Int) es d s R := by
  obtain ⟨hdl, hn1, hn12, hdb⟩ := checkF_ok hd
  obtain ⟨hsl, -, -, hsb⟩ := checkF_ok hs
  unfold pf_firing_Apply
  have f1 : fgivenF n es d = 0 := by unfold fgivenF; rw [if_pos hg, hd]
  have f2 : fgivenF n es s = 0 := by unfold fgivenF; rw [if_pos hg, hs]
  refine p_firing_given (by omega) ⟨fun _ => p_firing_Check (by omega) ⟨fun _ => ?_, fun q => absurd f2 q⟩, fun q => absurd f1 q⟩
  exact p_firing_moved hl hg hdl (fun j hj => by have := hdb j hj; omega) hsl (fun j hj => by have := hsb j hj; omega) (p_firing_bounded (by rw [appF_length]; omega) h1 h2)
end
end Go.Proofs.Ytnhmeckhlajeaaa

/- What firing a set comes to. -/
namespace Go.Proofs.Ytnhmeckhlajeaaa
open Go
set_option linter.unusedVariables false
set_option linter.unusedSimpArgs false

section
variable {n : Nat} {es : List E3} {d : List Int} {set : List Int}
theorem p_graph_Subset {R : Int → Prop} (hl : es.length ≤ 1000000000) (hsl : set.length ≤ 1000000000) (hg : gcheckF n es = 0) (hr : ∀ k, k < set.length → 0 ≤ gi set k ∧ gi set k < n) (hs : ∀ k, k + 1 < set.length → gi set k < gi set (k + 1)) (h : R 0) : pf_graph_Subset (n : Int) es set R := by
  unfold pf_graph_Subset
  refine p_graph_Check hl ⟨fun _ => ?_, fun q => absurd hg q⟩
  refine ⟨Cnt set.length (fun _ => True), Cnt.start trivial, ?_⟩
  rintro m _ ⟨k, rfl, rfl, hk, -⟩
  simp only [Int.toNat_natCast]
  refine ⟨fun hlt => ⟨by omega, p_graph_vertex ⟨fun _ => ⟨fun hk0 => ⟨i64 (by omega), by omega, fun q => ?_, fun _ => Cnt.next (by omega) (by omega) trivial⟩, fun _ => Cnt.next (by omega) (by omega) trivial⟩, fun q => absurd (decide_eq_true (hr k (by omega))) q⟩⟩, fun _ => h⟩
  have := hs (k - 1) (by omega)
  rw [show k - 1 + 1 = k by omega] at this
  rw [show ((k : Int) - 1).toNat = k - 1 by omega] at q
  omega
theorem p_firing_of {t : Int} {R : List Int → Prop} (hn : n ≤ 1000) (hsl : set.length ≤ 1000000000) (hr : ∀ k, k < set.length → 0 ≤ gi set k ∧ gi set k < n) (h : ∀ s : List Int, s.length = n → (∀ v : Nat, v < n → gi s v = if (v : Int) ∈ set then t else 0) → R s) : pf_firing_of (n : Int) es set t R := by
  unfold pf_firing_of
  simp only [Int.toNat_natCast]
  refine ⟨by omega, fun m i s => Cnt set.length (fun k => s.length = n ∧ ∀ v : Nat, v < n → gi s v = if (v : Int) ∈ set.take k then t else 0) m i, Cnt.start ⟨by simp, fun v hv => ?_⟩, ?_⟩
  · rw [List.take_zero, if_neg (by simp), gi_of_lt (by simpa using hv)]; simp
  rintro m _ s ⟨k, rfl, rfl, hk, hsn, hinv⟩
  simp only [Int.toNat_natCast]
  refine ⟨fun hlt => ?_, fun hge => ?_⟩
  · have hlt : k < set.length := by omega
    have hx := hr k hlt
    refine ⟨by omega, by omega, Cnt.next hlt (by omega) ⟨by rw [List.length_set]; exact hsn, fun v hv => ?_⟩⟩
    rw [gi_set (by omega), List.take_add_one, List.getElem?_eq_getElem hlt]
    have e : set[k] = gi set k := (gi_of_lt hlt).symm
    by_cases q : v = (gi set k).toNat
    · rw [if_pos q, if_pos]
      rw [e]
      simp
      right; omega
    · rw [if_neg q, hinv v hv]
      have e2 : ((v : Int) ∈ set.take k ++ (some set[k]).toList) ↔ (v : Int) ∈ set.take k := by
        rw [e]; simp; intro q2; omega
      by_cases q3 : (v : Int) ∈ set.take k
      · rw [if_pos q3, if_pos (e2.2 q3)]
      · rw [if_neg q3, if_neg (fun q4 => q3 (e2.1 q4))]
  · have : k = set.length := by omega
    rw [this, List.take_length] at hinv
    exact h s hsn hinv
theorem p_firing_FireSet {R : List Int → Int → Prop} (hl : es.length ≤ 1000) (hsl : set.length ≤ 1000000000) (hg : gcheckF n es = 0) (hd : checkF d n = 0) (hr : ∀ k, k < set.length → 0 ≤ gi set k ∧ gi set k < n) (hs : ∀ k, k + 1 < set.length → gi set k < gi set (k + 1))
    (h1 : ∀ s : List Int, s.length = n → (∀ v : Nat, v < n → gi s v = if (v : Int) ∈ set then 1 else 0) → (appF n es d s).all inF = true → R (appF n es d s) 0) (h2 : ∀ s : List Int, s.length = n → (∀ v : Nat, v < n → gi s v = if (v : Int) ∈ set then 1 else 0) → (appF n es d s).all inF = false → R [] 11) : pf_firing_FireSet (n : Int) es d set R := by
  obtain ⟨hdl, hn1, hn12, hdb⟩ := checkF_ok hd
  unfold pf_firing_FireSet pf_firing_subset
  have f1 : fgivenF n es d = 0 := by unfold fgivenF; rw [if_pos hg, hd]
  refine p_firing_given (by omega) ⟨fun _ => p_graph_Subset (by omega) hsl hg hr hs ⟨fun _ => ?_, fun q => absurd rfl q⟩, fun q => absurd f1 q⟩
  refine p_firing_of (by omega) hsl hr fun s hsn hsv => ?_
  refine p_firing_moved hl hg hdl (fun j hj => by have := hdb j hj; omega) hsn (fun j hj => by rw [hsv j hj]; split <;> omega) (p_firing_bounded (by rw [appF_length]; omega) (h1 s hsn hsv) (h2 s hsn hsv))
end
/-! ### Sets as lists -/
theorem setF_sorted {left : List Bool} : ∀ m k, k + 1 < (setF left m).length → gi (setF left m) k < gi (setF left m) (k + 1)
  | 0, k, h => by simp [setF] at h
  | m + 1, k, h => by
    rw [setF] at h ⊢
    split at h
    · rename_i hb
      rw [if_pos hb]
      rw [List.length_append, List.length_singleton] at h
      have hlt : k < (setF left m).length := by omega
      have e1 : gi (setF left m ++ [(m : Int)]) k = gi (setF left m) k := by
        rw [gi_of_lt (by rw [List.length_append]; omega), gi_of_lt hlt, List.getElem_append_left hlt]
      by_cases q : k + 1 < (setF left m).length
      · have e2 : gi (setF left m ++ [(m : Int)]) (k + 1) = gi (setF left m) (k + 1) := by
          rw [gi_of_lt (by rw [List.length_append]; omega), gi_of_lt q, List.getElem_append_left q]
        rw [e1, e2]; exact setF_sorted m k q
      · have e2 : gi (setF left m ++ [(m : Int)]) (k + 1) = m := by
          rw [gi_of_lt (by rw [List.length_append, List.length_singleton]; omega), List.getElem_append_right (by omega)]; simp
        rw [e1, e2]
        obtain ⟨v, hv, e, -⟩ := mem_setF.1 (gi_mem hlt)
        omega
    · rename_i hb
      rw [if_neg hb]
      exact setF_sorted m k h
theorem setF_range {left : List Bool} {n k : Nat} (hk : k < (setF left n).length) : 0 ≤ gi (setF left n) k ∧ gi (setF left n) k < n := by
  obtain ⟨v, hv, e, -⟩ := mem_setF.1 (gi_mem hk)
  omega
theorem setF_mem {left : List Bool} {n v : Nat} (hv : v < n) : (v : Int) ∈ setF left n ↔ gb left v = true := by
  rw [mem_setF]
  constructor
  · rintro ⟨u, hu, e, hb⟩
    have : v = u := by omega
    subst this; exact hb
  · intro hb; exact ⟨v, hv, rfl, hb⟩
theorem setF_nil {left : List Bool} {n : Nat} (hl : left.length = n) : (setF left n).length = 0 ↔ left.any id = false := by
  rw [List.length_eq_zero_iff, Bool.eq_false_iff]
  constructor
  · intro e h
    obtain ⟨x, hx, hxt⟩ := List.any_eq_true.1 h
    obtain ⟨k, hk, rfl⟩ := List.getElem_of_mem hx
    have : (k : Int) ∈ setF left n := (setF_mem (by omega)).2 (by rw [gb_of_lt hk]; exact hxt)
    rw [e] at this; cases this
  · intro h
    cases hs : setF left n with
    | nil => rfl
    | cons x t =>
      obtain ⟨v, hv, -, hb⟩ := mem_setF.1 (show x ∈ setF left n by rw [hs]; simp)
      exact absurd (List.any_eq_true.2 ⟨true, by rw [← hb, gb_of_lt (by omega)]; exact List.getElem_mem _, rfl⟩) h
end Go.Proofs.Ytnhmeckhlajeaaa

/- ReducedBurnsDown's pure form holds. -/
namespace Go.Proofs.Ytnhmeckhlajeaaa
open Go
set_option linter.unusedVariables false
set_option linter.unusedSimpArgs false

theorem Lp_left {n : Nat} {es : List E3} (hg : gcheckF n es = 0) {left : List Bool} {v : Nat} (hv : v < n) : -600 ≤ Lp n es (ind left) v ∧ Lp n es (ind left) v ≤ 600 := by
  obtain ⟨hE, hn1, hn12⟩ := gcheck_ok hg
  have hb : ∀ p : Nat → Bool, 0 ≤ sm n (fun u => if p u = true then W es v u else 0) ∧ sm n (fun u => if p u = true then W es v u else 0) ≤ 600 := fun p => by
    refine ⟨sm_nonneg fun i _ => ?_, ?_⟩
    · have := W_le50 hg v i
      show 0 ≤ ite _ _ _
      split <;> omega
    · have h1 := deg_bound hg n v
      have h2 : sm n (fun u => if p u = true then W es v u else 0) ≤ sm n (fun u => W es v u) := sm_le fun i _ => by
        have := W_le50 hg v i
        show ite _ _ _ ≤ _
        split <;> omega
      omega
  by_cases h : gb left v = true
  · rw [Lp_ind_in h]
    have := hb (fun u => !gb left u)
    have e : (fun u => if gb left u = true then 0 else W es v u) = (fun u => if (!gb left u) = true then W es v u else 0) := by
      funext u; cases gb left u <;> simp
    rw [e]; omega
  · rw [Lp_ind_out h]
    have := hb (fun u => gb left u)
    omega
theorem p_down {n : Int} {es : List E3} {d : List Int} {a : Int} (ha : 0 ≤ a ∧ a < 256) : pf_l34_ReducedBurnsDown n es d a (fun r => r = true) := by
  unfold pf_l34_ReducedBurnsDown
  refine p_l34_right (fun hR => ⟨fun _ => ?_, fun q => absurd rfl q⟩) ⟨fun q => (by cases q), fun _ => rfl⟩
  obtain ⟨hg, hc, hel, hn1, hn6⟩ := hR.graph
  obtain ⟨hq0, hqn⟩ := tmod_nat ha.1 hn1
  obtain ⟨q, hq⟩ : ∃ q : Nat, a.tmod n = q := ⟨(a.tmod n).toNat, by omega⟩
  rw [hq] at hq0 hqn ⊢
  obtain ⟨n, rfl⟩ : ∃ n' : Nat, n = (n' : Int) := ⟨n.toNat, by omega⟩
  obtain ⟨hdl, hdb⟩ := hR.nat
  obtain ⟨hE, -, -⟩ := gcheck_ok hg
  have hg0 := hR.given (q := q) ⟨by omega, by omega⟩
  refine ⟨i64 (by omega), by omega, p_r34_Debt (by omega) ⟨fun _ => rfl, fun ho => ?_⟩⟩
  have hpos : ∀ v, v < n → v ≠ q → 0 ≤ gi d v := Classical.not_not.1 fun hn => ho ((owes_iff hdl).2 hn)
  refine ⟨by omega, by omega, fun h => absurd (by rw [if_pos hg0, if_neg ho]) h, fun _ burnt hB => ⟨by omega, by omega, fun r _ hr => ?_⟩⟩
  simp only [Int.toNat_natCast] at hB hr ⊢
  have hr := hr hg0
  rw [red_iff hE (by omega) hB hpos] at hr
  have hbl := hB.len
  have hll : (leftOf burnt).length = n := by simp [leftOf, hbl]
  have hnil := setF_nil hll
  have hsl := setF_length (leftOf burnt) n
  refine ⟨True, fun _ => ⟨fun _ => rfl, fun hr2 => ?_⟩, fun _ => ⟨fun _ => ⟨fun _ => ?_, fun h => absurd ?_ h⟩, fun h => absurd hg0 h⟩, fun h => absurd trivial h⟩
  · have hchk : ∀ s : List Int, s.length = n → (∀ v : Nat, v < n → gi s v = if (v : Int) ∈ setF (leftOf burnt) n then 1 else 0) → ∀ v, v < n → gi (appF n es d s) v = gi d v - Lp n es (ind (leftOf burnt)) v := fun s hs1 hs2 v hv => by
      unfold appF
      rw [gi_tab _ hv, Lp_congr (b := ind (leftOf burnt)) (fun i hi => ?_) hv]
      rw [hs2 i hi]
      unfold ind
      by_cases hb : gb (leftOf burnt) i = true
      · rw [if_pos ((setF_mem hi).2 hb), if_pos hb]
      · rw [if_neg (fun h => hb ((setF_mem hi).1 h)), if_neg hb]
    refine p_firing_FireSet (by omega) (by omega) hg hR.chips (fun k hk => setF_range hk) (fun k hk => setF_sorted n k hk) (fun s hs1 hs2 hall => ?_) (fun s hs1 hs2 hall => ?_)
    · refine ⟨fun _ => ⟨fun _ => p_r34_Debt (by rw [appF_length]; omega) ⟨fun h => ?_, fun _ => rfl⟩, fun h => absurd (by rw [appF_length]) h⟩, fun h => absurd rfl h⟩
      refine absurd (fun v hv hvq => ?_) ((owes_iff appF_length).1 h)
      rw [hchk s hs1 hs2 v hv]
      by_cases hb : gb (leftOf burnt) v = true
      · rw [Lp_ind_in hb]
        have h1 := hB.closed v hv (by rw [gb_left hbl hv] at hb; simpa using hb)
        rw [joins_sum hE] at h1
        have e : sm n (fun u => if gb (leftOf burnt) u = true then 0 else W es v u) = sm n (fun u => if gb burnt (u : Int).toNat = true then W es v u else 0) := sm_congr fun u hu => by
          rw [gb_left hbl hu, Int.toNat_natCast]
          cases gb burnt u <;> simp
        rw [e]; omega
      · rw [Lp_ind_out hb]
        have h1 := hpos v hv hvq
        have h2 : 0 ≤ sm n (fun u => if gb (leftOf burnt) u = true then W es v u else 0) := sm_nonneg fun i _ => by
          have := W_le50 hg v i
          show 0 ≤ ite _ _ _
          split <;> omega
        omega
    · exfalso
      rw [Bool.eq_false_iff] at hall
      apply hall
      rw [all_iff_gi]
      intro v hv
      rw [appF_length] at hv
      rw [hchk s hs1 hs2 v hv]
      have h1 := hdb v hv
      have h2 := Lp_left hg (left := leftOf burnt) hv
      unfold inF
      rw [decide_eq_true_eq]; omega
  · refine p_slices_Contains (by omega) ⟨fun h => ?_, fun _ => p_slices_IsSorted (by omega) (fun k hk => Int.le_of_lt (setF_sorted n k hk)) ⟨fun _ => trivial, fun h => absurd rfl h⟩⟩
    rw [decide_eq_true_eq] at h
    have h1 := (setF_mem (by omega)).1 h
    rw [gb_left hbl (by omega), hB.at_q] at h1; cases h1
  · rw [beq_iff_eq, Bool.eq_iff_iff, hr, decide_eq_true_eq, ← hnil]
    omega
end Go.Proofs.Ytnhmeckhlajeaaa

/- What the arguments of the laws read as: numbers, lists, graphs; and what is handed back. -/
namespace Go.Proofs.Ytnhmeckhlajeaaa
open Go Go.ChangeShapes Go.WideShapes Go.ChangeAt Go.RowKit Go.Joins Go.Deep

theorem own : ownKnob Try.prog.godebug = none := by kernel_rfl
theorem laidOut : laidOutB Try.prog = true := by kernel_rfl
theorem cells_int : Try.prog.cellsOf 3 = 1 := by kernel_rfl
theorem cells_graph : Try.prog.cellsOf 24 = 2 := by kernel_rfl
theorem cells_edge : Try.prog.cellsOf 117 = 3 := by kernel_rfl

theorem cells3 {w : World} {base : Nat} {a : Addr} {cs : List Value} (h : w.cells? base a 3 = some cs) : ∃ x y z, cs = [x, y, z] ∧ w.cell? a = some x ∧ w.cell? (a.add 1) = some y ∧ w.cell? (a.add 2) = some z := by
  unfold World.cells? at h
  split at h
  · have e : List.range 3 = [0, 1, 2] := rfl
    rw [e] at h
    cases h0 : w.cell? (a.add 0) with
    | none => simp [h0] at h
    | some x =>
      cases h1 : w.cell? (a.add 1) with
      | none => simp [h0, h1] at h
      | some y =>
        cases h2 : w.cell? (a.add 2) with
        | none => simp [h0, h1, h2] at h
        | some z =>
          simp [h0, h1, h2] at h
          exact ⟨x, y, z, h.symm, h0, rfl, rfl⟩
  · cases h

theorem ints_sl {W : World} {A : Option Addr} {xs : List Int} {c : Nat} (hc : xs.length ≤ c) (h : Ints W A xs) : (FP.sl cI A xs.length c xs).P no W := by
  refine ⟨rfl, hc, fun h0 => ?_⟩
  obtain ⟨b, off, e, hb, hcell⟩ := h h0
  refine ⟨b, off, e, hb, id, fun k x hx => ⟨_, rfl, fun j u hj => ?_⟩⟩
  have hk : k < xs.length := (List.getElem?_eq_some_iff.1 hx).1
  have hj0 : j = 0 := by
    have := (List.getElem?_eq_some_iff.1 hj).1
    simp [fI] at this; exact this
  subst hj0
  have hu : u = .int .i64 x := by
    have : (some (Value.int .i64 x)) = some u := hj
    simpa using this.symm
  rw [gi_some hk] at hx
  cases hx
  rw [hu]
  have := hcell k hk
  simpa [cI, Fl.cod, fI] using this
theorem edges_sl {W : World} {A : Option Addr} {xs : List E3} {c : Nat} (hc : xs.length ≤ c) (h : Edges W A xs) : (FP.sl c3 A xs.length c xs).P no W := by
  refine ⟨rfl, hc, fun h0 => ?_⟩
  obtain ⟨b, off, e, hb, hcell⟩ := h h0
  refine ⟨b, off, e, hb, id, fun k x hx => ⟨_, rfl, fun j u hj => ?_⟩⟩
  have hk : k < xs.length := (List.getElem?_eq_some_iff.1 hx).1
  rw [ge_some hk] at hx
  cases hx
  obtain ⟨q0, q1, q2⟩ := hcell k hk
  match j, hj with
  | 0, hj =>
    have : (some (Value.int .i64 (ge xs k).1)) = some u := hj
    cases this; exact q0
  | 1, hj =>
    have : (some (Value.int .i64 (ge xs k).2.1)) = some u := hj
    cases this; exact q1
  | 2, hj =>
    have : (some (Value.int .i64 (ge xs k).2.2)) = some u := hj
    cases this; exact q2
  | j + 3, hj => cases hj
theorem no_dom (n : Nat) : ∀ k, no k → k < n := fun _ h => h.elim
set_option maxRecDepth 100000
variable {H : Type} {enc : TypeId × Value → H} {W : World} {r : Reach} {b0 : Nat}
theorem open_list {t : TypeId} (ht : Try.prog.underlying t = some (.slice 3)) {v : Value} {d : DataW H} {p : List MemPlace} (hv : Value.okWide Try.prog W r b0 t v) (h : DataW.Trod enc Try.prog W 0 (fun _ => true) true t v d p) :
    ∃ (A : Option Addr) (l : List Int) (c : Nat), v = .slice A l.length c ∧ (FP.sl cI A l.length c l).P no W := by
  suffices h : ∃ (A : Option Addr) (l : List Int) (c : Nat), v = .slice A l.length c ∧ l.length ≤ c ∧ Ints W A l by
    obtain ⟨A, l, c, e, hlc, hi⟩ := h
    exact ⟨A, l, c, e, ints_sl hlc hi⟩
  obtain ⟨a0, len, cap, rfl⟩ := okWide_slice ht hv
  obtain ⟨fuel, hf⟩ := h
  rcases open_ints ht Try.underlying3 cells_int hf with ⟨hcs, hx⟩ | ⟨a, len', cap', zs, hcs, _, hl, hm, hz, hx, hcell, hwz⟩
  · simp [Value.cells] at hcs
    obtain ⟨rfl, rfl, rfl⟩ := hcs
    exact ⟨none, [], 0, rfl, Nat.le_refl _, Ints.nil _ _⟩
  · simp [Value.cells] at hcs
    obtain ⟨rfl, rfl, rfl⟩ := hcs
    simp only [if_true] at hz
    refine ⟨some a, zs.take len, cap, by rw [List.length_take, Nat.min_eq_left (by omega)], by rw [List.length_take]; omega, fun hp => ?_⟩
    rw [List.length_take, Nat.min_eq_left (by omega)] at hp ⊢
    obtain ⟨b, off, rfl, hc⟩ := ints_at hcell (by omega)
    refine ⟨b, off, rfl, ?_, fun k hk => ?_⟩
    · have := hc 0 (by omega)
      apply Nat.lt_of_not_le
      intro hle
      unfold World.cell? at this
      rw [Array.getElem?_eq_none hle] at this
      simp at this
    · rw [hc k (by omega), gi_of_lt (by rw [List.length_take]; omega), List.getElem_take, List.getD_eq_getElem?_getD, List.getElem?_eq_getElem (by omega)]
      rfl
theorem open_ints_f {t : TypeId} (ht : Try.prog.underlying t = some (.slice 3)) {fuel : Nat} {v : Value} {x : DataW H × List MemPlace} (hf : DataW.trod enc Try.prog W 0 (fun _ => true) true fuel t [v] = some x) :
    ∃ (A : Option Addr) (l : List Int) (c : Nat), v = .slice A l.length c ∧ (FP.sl cI A l.length c l).P no W := by
  suffices h : ∃ (A : Option Addr) (l : List Int) (c : Nat), v = .slice A l.length c ∧ l.length ≤ c ∧ Ints W A l by
    obtain ⟨A, l, c, e, hlc, hi⟩ := h
    exact ⟨A, l, c, e, ints_sl hlc hi⟩
  rcases open_ints ht Try.underlying3 cells_int hf with ⟨hcs, hx⟩ | ⟨a, len', cap', zs, hcs, _, hl, hm, hz, hx, hcell, hwz⟩
  · simp at hcs
    subst hcs
    exact ⟨none, [], 0, rfl, Nat.le_refl _, Ints.nil _ _⟩
  · simp at hcs
    subst hcs
    simp only [if_true] at hz
    refine ⟨some a, zs.take len', cap', by rw [List.length_take, Nat.min_eq_left (by omega)], by rw [List.length_take]; omega, fun hp => ?_⟩
    rw [List.length_take, Nat.min_eq_left (by omega)] at hp ⊢
    obtain ⟨b, off, rfl, hc⟩ := ints_at hcell (by omega)
    refine ⟨b, off, rfl, ?_, fun k hk => ?_⟩
    · have := hc 0 (by omega)
      apply Nat.lt_of_not_le
      intro hle
      unfold World.cell? at this
      rw [Array.getElem?_eq_none hle] at this
      simp at this
    · rw [hc k (by omega), gi_of_lt (by rw [List.length_take]; omega), List.getElem_take, List.getD_eq_getElem?_getD, List.getElem?_eq_getElem (by omega)]
      rfl
theorem open_arr2 {t e : TypeId} {k : IntKind} (ht : Try.prog.underlying t = some (.array 2 e)) (he : Try.prog.underlying e = some (.int k)) (hC : Try.prog.cellsOf t = 2) (hce : Try.prog.cellsOf e = 1) {v : Value} {d : DataW H} {p : List MemPlace} (hv : Value.okWide Try.prog W r b0 t v) (h : DataW.Trod enc Try.prog W 0 (fun _ => true) true t v d p) :
    ∃ x y : Int, v = .agg #[.int k x, .int k y] ∧ (Lit.int k x).wf = true ∧ (Lit.int k y).wf = true := by
  simp only [Value.okWide, ht] at hv
  obtain ⟨cs, rfl, hsz, _⟩ := hv
  obtain ⟨c0, c1, rfl⟩ := array2 (hsz.trans (by first | exact hC | simp [hce]))
  obtain ⟨fuel, hf⟩ := h
  obtain ⟨xs, m, rfl, hx, hl, hn, hel⟩ := DataW.trod_array ht hf
  obtain ⟨x0, x1, rfl⟩ : ∃ x0 x1, xs = [x0, x1] := by
    match xs, hn with
    | [x0, x1], _ => exact ⟨_, _, rfl⟩
  have f0 := hel 0 (by omega)
  have f1 := hel 1 (by omega)
  simp [hce, Value.cells] at f0 f1
  obtain ⟨a, e0, -, w0⟩ := DataW.trod_int he f0
  obtain ⟨b, e1, -, w1⟩ := DataW.trod_int he f1
  simp at e0 e1
  subst e0; subst e1
  exact ⟨a, b, rfl, w0, w1⟩
theorem open_edge {fuel base : Nat} {spare : Nat → Bool} {held : Bool} {x y z : Value} {o : DataW H × List MemPlace} (h : DataW.trod enc Try.prog W base spare held fuel 117 [x, y, z] = some o) : ∃ a b c : Int, x = .int .i64 a ∧ y = .int .i64 b ∧ z = .int .i64 c := by
  obtain ⟨xs, n, _, rfl, hl, hlen, hf⟩ := DataW.trod_struct Try.underlying117 h
  obtain ⟨x0, x1, x2, rfl⟩ : ∃ x0 x1 x2, xs = [x0, x1, x2] := by
    match xs, hlen with
    | [x0, x1, x2], _ => exact ⟨_, _, _, rfl⟩
  have f0 := hf 0 _ rfl
  have f1 := hf 1 _ rfl
  have f2 := hf 2 _ rfl
  simp [cells_int] at f0 f1 f2
  obtain ⟨a, e0, -, -⟩ := DataW.trod_int Try.underlying3 f0
  obtain ⟨b, e1, -, -⟩ := DataW.trod_int Try.underlying3 f1
  obtain ⟨c, e2, -, -⟩ := DataW.trod_int Try.underlying3 f2
  simp at e0 e1 e2
  exact ⟨a, b, c, e0, e1, e2⟩
theorem open_graph {v : Value} {d : DataW H} {p : List MemPlace} (hv : Value.okWide Try.prog W r b0 24 v) (h : DataW.Trod enc Try.prog W 0 (fun _ => true) true 24 v d p) :
    ∃ (n : Int) (A : Option Addr) (es : List E3) (c : Nat), v = .agg #[.int .i64 n, .slice A es.length c] ∧ (FP.sl c3 A es.length c es).P no W := by
  suffices h : ∃ (n : Int) (A : Option Addr) (es : List E3) (c : Nat), v = .agg #[.int .i64 n, .slice A es.length c] ∧ es.length ≤ c ∧ Edges W A es by
    obtain ⟨n, A, l, c, e, hlc, hi⟩ := h
    exact ⟨n, A, l, c, e, edges_sl hlc hi⟩
  obtain ⟨c0, c1, y0, y1, m, rfl, rfl, rfl, hy0, hy1⟩ := open_agg2 Try.underlying24 (by kernel_rfl) cells_graph hv h
  obtain ⟨n, e0, -, -⟩ := DataW.trod_int Try.underlying3 hy0
  simp at e0
  subst e0
  rcases open_slice Try.underlying22 hy1 with ⟨hcs, -⟩ | ⟨a, len, cap, mm, nn, D, Pl, hcs, -, hl, hm, hmm, -, hel⟩
  · simp at hcs
    subst hcs
    exact ⟨n, none, [], 0, rfl, Nat.le_refl _, fun h => absurd h (by simp)⟩
  · simp at hcs
    subst hcs
    simp only [if_true] at hmm
    have hex : ∀ i, i < len → ∃ e : E3, W.cell? (a.add (i * 3)) = some (.int .i64 e.1) ∧ W.cell? ((a.add (i * 3)).add 1) = some (.int .i64 e.2.1) ∧ W.cell? ((a.add (i * 3)).add 2) = some (.int .i64 e.2.2) := fun i hi => by
      obtain ⟨cs', hc, ht⟩ := hel i (by omega)
      rw [cells_edge] at hc
      obtain ⟨x, y, z, rfl, k0, k1, k2⟩ := cells3 hc
      obtain ⟨xa, xb, xc, rfl, rfl, rfl⟩ := open_edge ht
      exact ⟨(xa, xb, xc), k0, k1, k2⟩
    let f : Nat → E3 := fun i => if h : i < len then Classical.choose (hex i h) else (0, 0, 0)
    have hf : ∀ i, i < len → W.cell? (a.add (i * 3)) = some (.int .i64 (f i).1) ∧ W.cell? ((a.add (i * 3)).add 1) = some (.int .i64 (f i).2.1) ∧ W.cell? ((a.add (i * 3)).add 2) = some (.int .i64 (f i).2.2) := fun i hi => by
      show _ ∧ _ ∧ _
      have e : f i = Classical.choose (hex i hi) := dif_pos hi
      rw [e]
      exact Classical.choose_spec (hex i hi)
    have hlen : ((List.range len).map f).length = len := by simp
    refine ⟨n, some a, (List.range len).map f, cap, by rw [hlen], by rw [hlen]; omega, fun hp => ?_⟩
    rw [hlen] at hp ⊢
    obtain ⟨b, off, spot⟩ := a
    have hspot : spot = none := by simpa [Addr.add] using World.cell?_spot (hf 0 hp).1
    subst hspot
    refine ⟨b, off, rfl, ?_, fun k hk => ?_⟩
    · have := (hf 0 hp).1
      apply Nat.lt_of_not_le
      intro hle
      unfold World.cell? at this
      rw [Array.getElem?_eq_none (by simpa [Addr.add] using hle)] at this
      simp at this
    · have hg : ge ((List.range len).map f) k = f k := by rw [ge_of_lt (by rw [hlen]; exact hk)]; simp
      rw [hg]
      have := hf k hk
      simpa [Addr.add_mid] using this
end Go.Proofs.Ytnhmeckhlajeaaa
