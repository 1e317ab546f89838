/- Texts laid together: SpG, L34, SpW, SpP, SpF, L36, Gen, SpN, Lw36, Lw36b, Lw36c. -/
import Derived.Test.YtbehbjfcenlaeaaK5
/- What the pure forms of chips, graph and firing come to. -/
namespace Go.Proofs.Ytbehbjfcenlaeaa
open Go
set_option linter.unusedVariables false
set_option linter.unusedSimpArgs false

theorem p_chips_within {k : Int} {R : Bool → Prop} (h : R (inF k)) : pf_chips_within k R := by
  unfold pf_chips_within
  refine ⟨fun h1 => ?_, fun h1 => ?_⟩
  · have e : decide (k ≤ 1048576) = inF k := by unfold inF; simp [h1]
    rw [e]; exact h
  · have e : false = inF k := by unfold inF; simp [h1]
    rw [e]; exact h
theorem p_chips_Check {d : List Int} {n : Int} {R : Int → Prop} (h : R (checkF d n)) : pf_chips_Check d n R := by
  unfold pf_chips_Check pf_chips_vertices
  have hout : ¬ (1 ≤ n ∧ n ≤ 12) → R 2 := fun q => by
    have : checkF d n = 2 := by unfold checkF vertsF; rw [if_neg q, if_neg (by omega)]
    rwa [this] at h
  refine ⟨fun q => ⟨fun q2 => absurd q2 (by omega), fun _ => hout (by omega)⟩, fun q => ⟨fun q2 => ⟨fun q3 => absurd q3 (by omega), fun _ => hout (by omega)⟩, fun q2 => ⟨fun _ => ?_, fun q3 => absurd rfl q3⟩⟩⟩
  have hc : checkF d n = if (d.length : Int) = n then (if d.all inF then 0 else 2) else 8 := by unfold checkF; rw [if_pos (by unfold vertsF; rw [if_pos (by omega)])]
  rw [hc] at h
  refine ⟨fun hln => ?_, fun hln => by rwa [if_neg hln] at h⟩
  rw [if_pos hln] at h
  refine ⟨Cnt d.length (fun k => ∀ j, j < k → inF (gi d j) = true), Cnt.start (fun j hj => absurd hj (by omega)), ?_⟩
  rintro m _ ⟨k, rfl, rfl, hk, hinv⟩
  refine ⟨fun hlt => ⟨by omega, p_chips_within ⟨fun h1 => Cnt.next (by omega) (by omega) fun j hj => ?_, fun h1 => ?_⟩⟩, fun hge => ?_⟩
  · by_cases e : j = k
    · subst e; simpa using h1
    · exact hinv j (by omega)
  · rw [if_neg (fun hall => h1 ((all_iff_gi inF d).1 hall _ (by omega)))] at h; exact h
  · rw [if_pos ((all_iff_gi inF d).2 fun j hj => hinv j (by omega))] at h; exact h
theorem p_graph_vertex {n v : Int} {R : Bool → Prop} (h : R (decide (0 ≤ v ∧ v < n))) : pf_graph_vertex n v R := by
  unfold pf_graph_vertex
  refine ⟨fun h1 => ?_, fun h1 => ?_⟩
  · have e : decide (v < n) = decide (0 ≤ v ∧ v < n) := by simp [h1]
    rw [e]; exact h
  · have e : false = decide (0 ≤ v ∧ v < n) := by simp [h1]
    rw [e]; exact h
theorem p_cmp_Compare {a b : Int} {R : Int → Prop} (h : R (cmpF a b)) : pf_cmp_Compare_int a b R := by
  unfold pf_cmp_Compare_int pf_cmp_isNaN_int
  unfold cmpF at h
  refine ⟨fun q => absurd q (by simp), fun _ => ⟨fun q => absurd q (by simp), fun _ => ⟨fun h1 => by rwa [if_pos h1] at h, fun h1 => ?_⟩⟩⟩
  rw [if_neg h1] at h
  refine ⟨fun h2 => by rwa [if_pos h2] at h, fun h2 => by rwa [if_neg h2] at h⟩
theorem p_cmp_Or2 {x y : Int} {R : Int → Prop} (h : R (orF x y)) : pf_cmp_Or_int [x, y] R := by
  unfold pf_cmp_Or_int
  unfold orF at h
  refine ⟨Cnt 2 (fun k => ∀ j, j < k → gi [x, y] j = 0), Cnt.start (fun j hj => absurd hj (by omega)), ?_⟩
  rintro m _ ⟨k, rfl, rfl, hk, hinv⟩
  simp only [Int.toNat_natCast, List.length_cons, List.length_nil]
  have hk3 : k = 0 ∨ k = 1 ∨ k = 2 := by omega
  have g0 : gi [x, y] 0 = x := rfl
  have g1 : gi [x, y] 1 = y := rfl
  have hnx : gi [x, y] k = 0 → ∀ j, j < k + 1 → gi [x, y] j = 0 := fun q j hj => by
    by_cases e : j = k
    · subst e; exact q
    · exact hinv j (by omega)
  refine ⟨fun hlt => ⟨by omega, fun q => Cnt.next (by omega) (by omega) (hnx q), fun q => ?_⟩, fun hge => ?_⟩
  · rcases hk3 with rfl | rfl | rfl
    · rw [g0] at q ⊢; rwa [if_pos q] at h
    · have h0 := hinv 0 (by omega)
      rw [g0] at h0
      rw [g1]; rwa [if_neg (fun q2 => q2 h0)] at h
    · exact absurd hlt (by omega)
  · have : k = 2 := by omega
    subst this
    have h0 := hinv 0 (by omega)
    have h1 := hinv 1 (by omega)
    rw [g0] at h0
    rw [g1] at h1
    rw [if_neg (fun q2 => q2 h0), h1] at h; exact h
theorem p_pair_compare {a b c d : Int} {R : Int → Prop} (h : R (pcmpF a b c d)) : pf_graph_pair_compare a b c d R :=
  p_cmp_Compare (p_cmp_Compare (p_cmp_Or2 h))
theorem p_graph_Check {n : Int} {es : List E3} {R : Int → Prop} (hl : es.length ≤ 1000000000) (h : R (gcheckF n es)) : pf_graph_Check n es R := by
  unfold pf_graph_Check
  have hout : ¬ (1 ≤ n ∧ n ≤ 12) → R 2 := fun q => by unfold gcheckF at h; rwa [if_neg q] at h
  refine ⟨1 ≤ n ∧ n ≤ 12, fun hn => ?_, fun q => hout (by omega), fun q => ⟨fun q2 => hout (by omega), fun q2 => ⟨by omega, by omega⟩⟩⟩
  have hg : gcheckF n es = gchk n (-1) (-1) es := by unfold gcheckF; rw [if_pos hn]
  rw [hg] at h
  refine ⟨fun m i a b => Cnt es.length (fun k => a = (pre es k).1 ∧ b = (pre es k).2 ∧ gchk n (-1) (-1) es = gchk n (pre es k).1 (pre es k).2 (es.drop k)) m i, Cnt.start ⟨rfl, rfl, rfl⟩, ?_⟩
  rintro m _ _ _ ⟨k, rfl, rfl, hk, rfl, rfl, hinv⟩
  simp only [Int.toNat_natCast]
  refine ⟨fun hlt => ⟨by omega, ?_⟩, fun hge => ?_⟩
  · have hlt : k < es.length := by omega
    rw [ge_drop hlt, gchk_cons] at hinv
    generalize hx : ge es k = x at hinv ⊢
    have hed : R (if edgeF n (pre es k).1 (pre es k).2 x = 0 then gchk n x.1 x.2.1 (es.drop (k + 1)) else edgeF n (pre es k).1 (pre es k).2 x) := by rw [← hinv]; exact h
    have h2 : ¬ ((0 ≤ x.1 ∧ x.1 < n) ∧ (0 ≤ x.2.1 ∧ x.2.1 < n) ∧ 1 ≤ x.2.2 ∧ x.2.2 ≤ 50) → R 2 := fun q => by
      unfold edgeF at hed; rw [if_neg q, if_neg (by omega)] at hed; exact hed
    refine ⟨(0 ≤ x.1 ∧ x.1 < n) ∧ (0 ≤ x.2.1 ∧ x.2.1 < n) ∧ 1 ≤ x.2.2 ∧ x.2.2 ≤ 50, fun hJ => ?_, p_graph_vertex ⟨fun q1 => p_graph_vertex ⟨fun q2 => ⟨fun q3 => h2 (by omega), fun q3 => ⟨fun q4 => h2 (by omega), fun q4 => ?_⟩⟩, fun q2 => h2 (by simp at q2; omega)⟩, fun q1 => h2 (by simp at q1; omega)⟩⟩
    · have he : edgeF n (pre es k).1 (pre es k).2 x = if x.1 ≤ x.2.1 ∧ pcmpF (pre es k).1 (pre es k).2 x.1 x.2.1 < 0 then 0 else 9 := by unfold edgeF; rw [if_pos hJ]
      rw [he] at hed hinv
      refine ⟨fun q => ?_, fun q => p_pair_compare ⟨fun q2 => ?_, fun q2 => Cnt.next hlt (by omega) ⟨?_, ?_, ?_⟩⟩⟩
      · rw [if_neg (show ¬ (x.1 ≤ x.2.1 ∧ _) by omega), if_neg (by omega)] at hed; exact hed
      · rw [if_neg (show ¬ (x.1 ≤ x.2.1 ∧ _) by omega), if_neg (by omega)] at hed; exact hed
      · simp [pre, hx]
      · simp [pre, hx]
      · have hc : x.1 ≤ x.2.1 ∧ pcmpF (pre es k).1 (pre es k).2 x.1 x.2.1 < 0 := ⟨by omega, by omega⟩
        rw [if_pos hc, if_pos rfl] at hinv
        rw [hinv]
        simp [pre, hx]
    · simp only [decide_eq_true_eq] at q1 q2
      exact ⟨q1, q2, by omega, by omega⟩
  · have hk2 : k = es.length := by omega
    rw [hinv, hk2, List.drop_length] at h
    exact h
/-- The error of a graph with a divisor. -/
def fgivenF (n : Int) (es : List E3) (d : List Int) : Int := if gcheckF n es = 0 then checkF d n else gcheckF n es
theorem p_firing_given {n : Int} {es : List E3} {d : List Int} {R : Int → Prop} (hl : es.length ≤ 1000000000) (h : R (fgivenF n es d)) : pf_firing_given n es d R := by
  unfold pf_firing_given
  unfold fgivenF at h
  exact p_graph_Check hl ⟨fun q => p_chips_Check (by rwa [if_pos q] at h), fun q => by rwa [if_neg q] at h⟩
theorem p_firing_Check {n : Int} {es : List E3} {d : List Int} {R : Int → Prop} (hl : es.length ≤ 1000000000) (h : R (fgivenF n es d)) : pf_firing_Check n es d R := p_firing_given hl h

/-! ### What edges move -/
theorem W_snoc (x : E3) (v u : Nat) : ∀ l : List E3, W (l ++ [x]) v u = W l v u + w1 x v u
  | [] => by rw [List.nil_append, W_cons, W_nil]; omega
  | y :: t => by rw [List.cons_append, W_cons, W_cons, W_snoc x v u t]; omega
/-- What an edge takes from a vertex by a script. -/
def e1 (x : E3) (s : Nat → Int) (v : Nat) : Int := (if (v : Int) = x.1 then x.2.2 * (s x.1.toNat - s x.2.1.toNat) else 0) - (if (v : Int) = x.2.1 then x.2.2 * (s x.1.toNat - s x.2.1.toNat) else 0)
theorem Lp_snoc {n : Nat} {l : List E3} {x : E3} {s : Nat → Int} {v : Nat} (hx : 0 ≤ x.1 ∧ x.1 < n ∧ 0 ≤ x.2.1 ∧ x.2.1 < n) (hv : v < n) : Lp n (l ++ [x]) s v = Lp n l s v + e1 x s v := by
  have h1 : Lp n (l ++ [x]) s v = Lp n l s v + sm n (fun u => w1 x v u * (s v - s u)) := by
    unfold Lp
    rw [← sm_add]
    refine sm_congr fun u _ => ?_
    rw [W_snoc, Int.add_mul]
  rw [h1]
  congr 1
  obtain ⟨a, ha⟩ : ∃ a : Nat, x.1 = a := ⟨x.1.toNat, by omega⟩
  obtain ⟨b, hb⟩ : ∃ b : Nat, x.2.1 = b := ⟨x.2.1.toNat, by omega⟩
  unfold e1
  rw [ha, hb, Int.toNat_natCast, Int.toNat_natCast]
  have ean : a < n := by omega
  have ebn : b < n := by omega
  by_cases hab : a = b
  · subst hab
    rw [show (fun u => w1 x v u * (s v - s u)) = fun _ => 0 from ?_, sm_zero]
    · omega
    · funext u
      unfold w1
      rw [if_neg (by omega)]; omega
  · by_cases e1 : v = a
    · subst e1
      rw [if_pos rfl, if_neg (by omega), show (fun u => w1 x v u * (s v - s u)) = fun u => if u = b then x.2.2 * (s v - s b) else 0 from ?_, sm_one _ ebn]
      · omega
      · funext u
        unfold w1
        by_cases e2 : u = b
        · subst e2; rw [if_pos ⟨by omega, .inl ⟨ha, hb⟩⟩, if_pos rfl]
        · rw [if_neg (by omega), if_neg e2]; omega
    · by_cases e3 : v = b
      · subst e3
        rw [if_neg (by omega), if_pos rfl, show (fun u => w1 x v u * (s v - s u)) = fun u => if u = a then x.2.2 * (s v - s a) else 0 from ?_, sm_one _ ean]
        · rw [show s a - s v = -(s v - s a) by omega, Int.mul_neg]; omega
        · funext u
          unfold w1
          by_cases e2 : u = a
          · subst e2; rw [if_pos ⟨by omega, .inr ⟨ha, hb⟩⟩, if_pos rfl]
          · rw [if_neg (by omega), if_neg e2]; omega
      · rw [if_neg (by omega), if_neg (by omega), show (fun u => w1 x v u * (s v - s u)) = fun _ => 0 from ?_, sm_zero]
        · omega
        · funext u
          unfold w1
          rw [if_neg (by omega)]; omega
theorem flow_bound {x : E3} {s : Nat → Int} (hm : 1 ≤ x.2.2 ∧ x.2.2 ≤ 50) (ha : -2000000000 ≤ s x.1.toNat ∧ s x.1.toNat ≤ 2000000000) (hb : -2000000000 ≤ s x.2.1.toNat ∧ s x.2.1.toNat ≤ 2000000000) : -200000000000 ≤ x.2.2 * (s x.1.toNat - s x.2.1.toNat) ∧ x.2.2 * (s x.1.toNat - s x.2.1.toNat) ≤ 200000000000 := by
  generalize x.2.2 = m at hm ⊢
  have h : -4000000000 ≤ s x.1.toNat - s x.2.1.toNat ∧ s x.1.toNat - s x.2.1.toNat ≤ 4000000000 := by omega
  generalize s x.1.toNat - s x.2.1.toNat = y at h ⊢
  have := Int.natAbs_mul m y
  have h4 : m.natAbs ≤ 50 := by omega
  have h5 : y.natAbs ≤ 4000000000 := by omega
  have := Nat.mul_le_mul h4 h5
  omega
theorem Lp_take_bound {n : Nat} {es : List E3} (hE : EOk n es) {s : Nat → Int} (hs : ∀ j, j < n → -2000000000 ≤ s j ∧ s j ≤ 2000000000) {v : Nat} (hv : v < n) : ∀ k, k ≤ es.length → -(400000000000 * (k : Int)) ≤ Lp n (es.take k) s v ∧ Lp n (es.take k) s v ≤ 400000000000 * k
  | 0, _ => by
    have : Lp n [] s v = 0 := by
      unfold Lp
      rw [show (fun u => W [] v u * (s v - s u)) = fun _ => 0 from ?_, sm_zero]
      funext u; rw [W_nil]; omega
    rw [List.take_zero, this]; omega
  | k + 1, hk => by
    have ih := Lp_take_bound hE hs hv k (by omega)
    have hx := hE _ (ge_mem (show k < es.length by omega))
    have hf := flow_bound (x := ge es k) (s := s) (by omega) (hs _ (by omega)) (hs _ (by omega))
    have e : es.take (k + 1) = es.take k ++ [ge es k] := by rw [List.take_add_one, List.getElem?_eq_getElem (by omega), ge_of_lt (by omega)]; rfl
    rw [e, Lp_snoc (by omega) hv]
    unfold e1
    split <;> split <;> omega
theorem Lp_nil {n : Nat} {s : Nat → Int} {v : Nat} : Lp n [] s v = 0 := by
  unfold Lp
  rw [show (fun u => W [] v u * (s v - s u)) = fun _ => 0 from ?_, sm_zero]
  funext u; rw [W_nil]; omega
/-- An edge's step. -/
theorem edge_step {n : Nat} {es : List E3} (hE : EOk n es) {d s : List Int} {k : Nat} (hk : k < es.length) :
    ((appF n (es.take k) d s).set (ge es k).1.toNat (gi (appF n (es.take k) d s) (ge es k).1.toNat - (ge es k).2.2 * (gi s (ge es k).1.toNat - gi s (ge es k).2.1.toNat))).set (ge es k).2.1.toNat
      (gi ((appF n (es.take k) d s).set (ge es k).1.toNat (gi (appF n (es.take k) d s) (ge es k).1.toNat - (ge es k).2.2 * (gi s (ge es k).1.toNat - gi s (ge es k).2.1.toNat))) (ge es k).2.1.toNat + (ge es k).2.2 * (gi s (ge es k).1.toNat - gi s (ge es k).2.1.toNat)) = appF n (es.take (k + 1)) d s := by
  have hx := hE _ (ge_mem hk)
  have e : es.take (k + 1) = es.take k ++ [ge es k] := by rw [List.take_add_one, List.getElem?_eq_getElem hk, ge_of_lt hk]; rfl
  have hal : (appF n (es.take k) d s).length = n := appF_length
  refine gi_ext (by rw [List.length_set, List.length_set, appF_length, appF_length]) fun i hi => ?_
  rw [List.length_set, List.length_set, hal] at hi
  have h1 : ∀ j, j < n → gi (appF n (es.take k) d s) j = gi d j - Lp n (es.take k) (gi s) j := fun j hj => gi_tab _ hj
  have h2 : gi (appF n (es.take (k + 1)) d s) i = gi d i - (Lp n (es.take k) (gi s) i + e1 (ge es k) (gi s) i) := by
    rw [← Lp_snoc (by omega) hi, ← e]; exact gi_tab _ hi
  rw [h2, gi_set (by rw [List.length_set, hal]; omega), gi_set (by rw [hal]; omega), gi_set (by rw [hal]; omega)]
  unfold e1
  by_cases q1 : i = (ge es k).2.1.toNat
  · rw [if_pos q1, if_pos (show (i : Int) = (ge es k).2.1 by omega)]
    by_cases q2 : (ge es k).2.1.toNat = (ge es k).1.toNat
    · rw [if_pos q2, if_pos (show (i : Int) = (ge es k).1 by omega), ← q2, ← q1, h1 i hi]; omega
    · rw [if_neg q2, if_neg (show ¬ (i : Int) = (ge es k).1 by omega), ← q1, h1 i hi]; omega
  · rw [if_neg q1, if_neg (show ¬ (i : Int) = (ge es k).2.1 by omega)]
    by_cases q2 : i = (ge es k).1.toNat
    · rw [if_pos q2, if_pos (show (i : Int) = (ge es k).1 by omega), ← q2, h1 i hi]; omega
    · rw [if_neg q2, if_neg (show ¬ (i : Int) = (ge es k).1 by omega), h1 i hi]; omega
section
variable {n : Nat} {es : List E3} {d s : List Int}
theorem app_start (hdl : d.length = n) : d = appF n (es.take 0) d s := by
  refine eq_tab hdl _ fun i _ => ?_
  rw [List.take_zero, Lp_nil]; omega
end
end Go.Proofs.Ytbehbjfcenlaeaa

/- Words for the laws of layer 34. -/
namespace Go.Proofs.Ytbehbjfcenlaeaa
open Go
set_option linter.unusedVariables false
set_option linter.unusedSimpArgs false

theorem small_of {n : Int} {es : List E3} {d : List Int} (h1 : smallF n es 6 9 = true) (h2 : lowF n d = true) : Small n es d := by
  unfold smallF at h1
  rw [decide_eq_true_eq] at h1
  rw [lowF_iff] at h2
  refine ⟨h1.1, h1.2, fun hc v hv => ?_⟩
  obtain ⟨n, rfl⟩ : ∃ n' : Nat, n = (n' : Int) := ⟨n.toNat, by omega⟩
  have := (checkF_ok hc).1
  have := h2.2 hc v (by omega)
  omega
theorem small_len {n : Int} {es : List E3} (h1 : smallF n es 6 9 = true) : es.length ≤ 40 := by
  unfold smallF at h1
  rw [decide_eq_true_eq] at h1
  exact h1.1
/-- A small connected graph with a divisor that has few chips. -/
structure Right (n : Int) (es : List E3) (d : List Int) : Prop where
  few : smallF n es 6 9 = true
  joined : joinedE n es = 0
  chips : checkF d n = 0
  low : lowF n d = true
theorem Right.given {n : Int} {es : List E3} {d : List Int} (h : Right n es d) {q : Int} (hq : 0 ≤ q ∧ q < n) : givenF n es q d = 0 := by
  have hj := h.joined
  unfold joinedE at hj
  unfold givenF
  by_cases h1 : gcheckF n es = 0
  · rw [if_pos h1] at hj ⊢
    by_cases h2 : connF n es = true
    · rw [if_pos h2, if_pos hq, h.chips]
    · rw [if_neg h2] at hj; omega
  · rw [if_neg h1] at hj; exact absurd hj h1
theorem Right.graph {n : Int} {es : List E3} {d : List Int} (h : Right n es d) : gcheckF n es = 0 ∧ connF n es = true ∧ es.length ≤ 40 ∧ 1 ≤ n ∧ n ≤ 6 := by
  have hj := h.joined
  have hs := h.few
  unfold joinedE at hj
  unfold smallF at hs
  rw [decide_eq_true_eq] at hs
  by_cases h1 : gcheckF n es = 0
  · rw [if_pos h1] at hj
    have hn := (hs.2 h1).1
    have h0 : 1 ≤ n := by
      unfold gcheckF at h1
      split at h1
      · omega
      · omega
    by_cases h2 : connF n es = true
    · exact ⟨h1, h2, hs.1, h0, hn⟩
    · rw [if_neg h2] at hj; omega
  · rw [if_neg h1] at hj; exact absurd hj h1
/-- The divisor of a right pair: as long as there are vertices, with few chips. -/
theorem Right.nat {n : Nat} {es : List E3} {d : List Int} (h : Right (n : Int) es d) : d.length = n ∧ ∀ j, j < n → -100 ≤ gi d j ∧ gi d j ≤ 100 := by
  have hl := (checkF_ok h.chips).1
  refine ⟨hl, fun j hj => (lowF_iff.1 h.low).2 h.chips j (by omega)⟩
end Go.Proofs.Ytbehbjfcenlaeaa

/- What the pure forms of 'effective' and of its reference come to. -/
namespace Go.Proofs.Ytbehbjfcenlaeaa
open Go
set_option linter.unusedVariables false
set_option linter.unusedSimpArgs false

/-! ### The reference: borrowing -/
theorem win_dg {n : Nat} {es : List E3} {d : List Int} (hd : d.length = n) (h : Win n es d) : 0 ≤ dg d := by
  obtain ⟨s, hs⟩ := h
  have h1 : 0 ≤ sm n (fun v => gi d v - Lp n es s v) := sm_nonneg hs
  rw [sm_sub, Lp_total] at h1
  unfold dg
  rw [hd]; omega
theorem conn_all {n : Nat} {es : List E3} (hg : gcheckF n es = 0) (hc : connF n es = true) : ∀ q, q < n → Conn n es q := fun q hq => by
  obtain ⟨hE, hn1, hn12⟩ := gcheck_ok hg
  exact (conn_iff hE hn1 hn12 hq).1 hc
/-! ### Prices -/
/-- Chips more at a vertex. -/
def addAt (d : List Int) (v : Nat) (k : Int) : List Int := d.set v (gi d v + k)
theorem addAt_length (d : List Int) (v : Nat) (k : Int) : (addAt d v k).length = d.length := by simp [addAt]
theorem gi_addAt {d : List Int} {v : Nat} (hv : v < d.length) (k : Int) (i : Nat) : gi (addAt d v k) i = if i = v then gi d v + k else gi d i := by unfold addAt; rw [gi_set hv]
theorem red_addAt {n : Nat} {es : List E3} {v : Nat} {r : List Int} (hr : Red n es v r) (hl : r.length = n) (hv : v < n) (j : Int) : Red n es v (addAt r v j) := by
  refine ⟨fun u hu hne => by rw [gi_addAt (by omega), if_neg hne]; exact hr.pos u hu hne, fun S hS hex => ?_⟩
  obtain ⟨u, hu, hSu, hlt⟩ := hr.no S hS hex
  refine ⟨u, hu, hSu, ?_⟩
  rw [gi_addAt (by omega), if_neg (fun e => by rw [e, hS] at hSu; cases hSu)]
  exact hlt
/-- How many chips more at v are enough. -/
theorem win_price {n : Nat} {es : List E3} {v : Nat} {d r s : List Int} (hE : EOk n es) (hv : v < n) (hd : d.length = n) (h : Reduces n es v d r s) (j : Int) : Win n es (addAt d v j) ↔ -gi r v ≤ j := by
  have hl := h.dl
  rw [win_red hE hv (red_addAt h.red hl hv j) (s := gi s) fun u hu => ?_, gi_addAt (by omega), if_pos rfl]
  · omega
  · rw [gi_addAt (by omega), gi_addAt (by omega), h.lp u hu]
    split
    · rename_i e; rw [e, h.lp v hv]; omega
    · rfl
theorem win_zero {n : Nat} {es : List E3} {d : List Int} {v : Nat} (hv : v < d.length) : addAt d v 0 = d := by
  refine gi_ext (addAt_length _ _ _) fun i hi => ?_
  rw [gi_addAt hv]
  split
  · rename_i e; rw [e]; omega
  · rfl
/-- A reduced divisor has few chips away from q. -/
theorem red_few {n : Nat} {es : List E3} {q : Nat} {r : List Int} (hE : EOk n es) (hq : q < n) (hl : r.length = n) (hr : Red n es q r) : dg r - gi r q ≤ tot n es := by
  have h1 : ∀ v, v < n → (if v = q then 0 else gi r v) ≤ sm n (fun u => W es v u) := fun v hv => by
    by_cases e : v = q
    · rw [if_pos e]; exact sm_nonneg fun u _ => W_nonneg hE v u
    · rw [if_neg e]
      obtain ⟨x, hx, hSx, hlt⟩ := hr.no (fun x => decide (x = v)) (by simp; exact fun h => e h.symm) ⟨v, hv, by simp⟩
      have hxv : x = v := by simpa using hSx
      subst hxv
      refine Int.le_trans (Int.le_of_lt hlt) (sm_le fun u hu => ?_)
      have := W_nonneg hE x u
      show (if _ then _ else _) ≤ _
      split <;> omega
  have h2 := sm_le h1
  have h3 := sm_split (f := gi r) hq
  unfold dg tot
  rw [hl]
  have h4 : sm n (fun v => if v = q then 0 else gi r v) ≤ sm n (fun v => sm n (fun u => W es v u)) := h2
  omega

/-! ### Proofs of a win, of a loss -/
theorem given0 {n : Int} {es : List E3} {d : List Int} : givenF n es 0 d = if joinedE n es = 0 then checkF d n else joinedE n es := by
  unfold givenF joinedE
  by_cases h1 : gcheckF n es = 0
  · rw [if_pos h1, if_pos h1]
    have hn : 1 ≤ n := by
      unfold gcheckF at h1
      split at h1
      · omega
      · omega
    by_cases h2 : connF n es = true
    · rw [if_pos h2, if_pos h2, if_pos rfl, if_pos (by omega)]
    · rw [if_neg h2, if_neg h2, if_neg (by omega)]
  · rw [if_neg h1, if_neg h1, if_neg h1]
theorem p_effective_given {n : Int} {es : List E3} {d : List Int} {R : Int → Prop} (hl : es.length ≤ 1000) (hdl : d.length ≤ 1000000000) (h : R (givenF n es 0 d)) : pf_effective_given n es d R :=
  ⟨hl, hdl, fun _ _ _ => h⟩
theorem p_effective_led {n : Nat} {es : List E3} {d s : List Int} {R : List Int → Prop} (hl : es.length ≤ 1000) (hg : gcheckF n es = 0) (hdl : d.length = n) (hd : ∀ j, j < n → -1000000000000000 ≤ gi d j ∧ gi d j ≤ 1000000000000000) (hsl : s.length = n) (hs : ∀ j, j < n → -2000000000 ≤ gi s j ∧ gi s j ≤ 2000000000) (h : R (appF n es d s)) : pf_effective_led (n : Int) es d s R := by
  obtain ⟨hE, hn1, hn12⟩ := gcheck_ok hg
  unfold pf_effective_led
  refine p_slices_Clone_Divisor (by omega) ?_
  refine ⟨fun m v out => Cnt es.length (fun k => out = appF n (es.take k) d s) m v, Cnt.start (app_start hdl), ?_⟩
  rintro m _ out ⟨k, rfl, rfl, hk, rfl⟩
  simp only [Int.toNat_natCast]
  refine ⟨fun hlt => ⟨by omega, ?_⟩, fun hge => ?_⟩
  · have hlt : k < es.length := by omega
    have hx := hE _ (ge_mem hlt)
    have hf := flow_bound (x := ge es k) (s := gi s) (by omega) (hs _ (by omega)) (hs _ (by omega))
    have ha := hs (ge es k).1.toNat (by omega)
    have hb := hs (ge es k).2.1.toNat (by omega)
    have hal : (appF n (es.take k) d s).length = n := appF_length
    have h1 : ∀ j, j < n → gi (appF n (es.take k) d s) j = gi d j - Lp n (es.take k) (gi s) j := fun j hj => gi_tab _ hj
    have hbd : ∀ j, j < n → -2000000000000000 ≤ gi (appF n (es.take k) d s) j ∧ gi (appF n (es.take k) d s) j ≤ 2000000000000000 := fun j hj => by
      have := Lp_take_bound hE hs hj k (by omega)
      have := hd j hj
      rw [h1 j hj]; omega
    have b1 := hbd (ge es k).1.toNat (by omega)
    have b2 := hbd (ge es k).2.1.toNat (by omega)
    refine ⟨by omega, by omega, i64 (by omega), i64 (by omega), by omega, i64 (by omega), by rw [List.length_set]; omega, ?_, Cnt.next hlt (by omega) (edge_step hE hlt)⟩
    rw [gi_set (by omega)]
    split
    · exact i64 (by omega)
    · exact i64 (by omega)
  · have hk2 : k = es.length := by omega
    rw [hk2, List.take_length]; exact h
/-- The error of a proof that a divisor is winnable. -/
def winE (n : Int) (es : List E3) (d s : List Int) : Int := if givenF n es 0 d = 0 then (if checkF s n = 0 then (if paidF (appF n.toNat es d s) = true then 0 else 16) else checkF s n) else givenF n es 0 d
theorem p_effective_paid {d : List Int} {R : Bool → Prop} (hl : d.length ≤ 1000000000) (h0 : 0 < d.length) (h : R (paidF d)) : pf_effective_paid_v2 d R := by
  unfold pf_effective_paid_v2
  refine p_slices_Min hl h0 fun m ⟨k, hk, hm⟩ hall => ?_
  have e : decide (0 ≤ m) = paidF d := by
    rw [Bool.eq_iff_iff, decide_eq_true_eq, paidF_iff]
    exact ⟨fun h v hv => by have := hall v hv; omega, fun h => by have := h k hk; omega⟩
  rw [e]; exact h
theorem p_effective_VerifyWin {n : Int} {es : List E3} {d s : List Int} {R : Int → Prop} (hl : es.length ≤ 1000) (hdl : d.length ≤ 1000000000) (h : R (winE n es d s)) : pf_effective_VerifyWin n es d s R := by
  unfold pf_effective_VerifyWin
  unfold winE at h
  refine p_effective_given hl hdl ⟨fun h0 => ?_, fun h0 => by rwa [if_neg h0] at h⟩
  rw [if_pos h0] at h
  obtain ⟨k1, k2, k3, k4, k5⟩ := givenF_ok h0
  obtain ⟨n, rfl⟩ : ∃ n' : Nat, n = (n' : Int) := ⟨n.toNat, by omega⟩
  obtain ⟨hE, hn1, hn12⟩ := gcheck_ok k1
  obtain ⟨hdl, -, -, hdb⟩ := checkF_ok k5
  have hf : fgivenF n es s = checkF s n := by unfold fgivenF; rw [if_pos k1]
  unfold pf_effective_proof_check
  refine p_firing_Check (by omega) ⟨fun h1 => ?_, fun h1 => ?_⟩
  · rw [hf] at h1
    rw [if_pos h1] at h
    obtain ⟨hsl, -, -, hsb⟩ := checkF_ok h1
    simp only [Int.toNat_natCast] at h
    refine p_effective_led hl k1 hdl (fun j hj => by have := hdb j hj; omega) hsl (fun j hj => by have := hsb j hj; omega) (p_effective_paid (by rw [appF_length]; omega) (by rw [appF_length]; omega) ⟨fun q => ?_, fun q => ?_⟩)
    · rwa [if_pos q] at h
    · rwa [if_neg q] at h
  · rw [hf] at h1
    rw [if_neg h1] at h
    rw [hf]; exact h
/-- The error of a proof that a divisor is not winnable. -/
def LossOk (n : Int) (es : List E3) (q : Int) (d s : List Int) (e : Int) : Prop :=
  (givenF n es q d ≠ 0 ∧ e = givenF n es q d) ∨ (givenF n es q d = 0 ∧ checkF s n ≠ 0 ∧ e = checkF s n) ∨
  (givenF n es q d = 0 ∧ checkF s n = 0 ∧ (Red n.toNat es q.toNat (appF n.toNat es d s) ∧ gi (appF n.toNat es d s) q.toNat < 0) ∧ e = 0) ∨
  (givenF n es q d = 0 ∧ checkF s n = 0 ∧ ¬ (Red n.toNat es q.toNat (appF n.toNat es d s) ∧ gi (appF n.toNat es d s) q.toNat < 0) ∧ e = 16)
theorem LossOk.eq {n : Int} {es : List E3} {q : Int} {d s : List Int} {e e' : Int} (h : LossOk n es q d s e) (h' : LossOk n es q d s e') : e = e' := by
  rcases h with h | h | h | h <;> rcases h' with h' | h' | h' | h' <;> first | (exact absurd h'.2.2.1 h.2.2.1) | (exact absurd h.2.2.1 h'.2.2.1) | (rw [h.2.2.2, h'.2.2.2]; done) | (rw [h.2, h'.2]; done) | (exact absurd h'.1 h.1) | (exact absurd h.1 h'.1) | (rw [h.2.2, h'.2.2]; done) | (exact absurd h'.2.1 h.2.1) | (exact absurd h.2.1 h'.2.1)
theorem red_set {n : Nat} {es : List E3} {q : Nat} {x : List Int} (hl : x.length = n) (hq : q < n) (z : Int) : Red n es q (x.set q z) ↔ Red n es q x := by
  have hg : ∀ v, v ≠ q → gi (x.set q z) v = gi x v := fun v hv => by rw [gi_set (by omega), if_neg hv]
  constructor
  · rintro ⟨h1, h2⟩
    refine ⟨fun v hv hne => by rw [← hg v hne]; exact h1 v hv hne, fun S hS hex => ?_⟩
    obtain ⟨v, hv, hSv, hlt⟩ := h2 S hS hex
    exact ⟨v, hv, hSv, by rw [← hg v (fun e => by rw [e, hS] at hSv; cases hSv)]; exact hlt⟩
  · rintro ⟨h1, h2⟩
    refine ⟨fun v hv hne => by rw [hg v hne]; exact h1 v hv hne, fun S hS hex => ?_⟩
    obtain ⟨v, hv, hSv, hlt⟩ := h2 S hS hex
    exact ⟨v, hv, hSv, by rw [hg v (fun e => by rw [e, hS] at hSv; cases hSv)]; exact hlt⟩
theorem red_lt {n : Nat} {es : List E3} {q : Nat} {r : List Int} (hE : EOk n es) (hr : Red n es q r) {v : Nat} (hv : v < n) (hne : v ≠ q) : gi r v < deg n es v := by
  obtain ⟨x, hx, hSx, hlt⟩ := hr.no (fun x => decide (x = v)) (by simp; exact fun h => hne h.symm) ⟨v, hv, by simp⟩
  have hxv : x = v := by simpa using hSx
  subst hxv
  refine Int.lt_of_lt_of_le hlt (sm_le fun u hu => ?_)
  have := W_nonneg hE x u
  show (if _ then _ else _) ≤ _
  split <;> omega
theorem p_effective_VerifyLoss {n q : Int} {es : List E3} {d s : List Int} {R : Int → Prop} (hl : es.length ≤ 1000) (hdl : d.length ≤ 1000000000) (h : ∀ e, LossOk n es q d s e → R e) : pf_effective_VerifyLoss n es q d s R := by
  unfold pf_effective_VerifyLoss
  refine ⟨hl, hdl, fun b _ _ => ⟨fun h0 => ?_, fun h0 => h _ (.inl ⟨h0, rfl⟩)⟩⟩
  obtain ⟨k1, k2, k3, k4, k5⟩ := givenF_ok h0
  obtain ⟨n, rfl⟩ : ∃ n' : Nat, n = (n' : Int) := ⟨n.toNat, by omega⟩
  obtain ⟨q, rfl⟩ : ∃ q' : Nat, q = (q' : Int) := ⟨q.toNat, by omega⟩
  obtain ⟨hE, hn1, hn12⟩ := gcheck_ok k1
  obtain ⟨hdl, -, -, hdb⟩ := checkF_ok k5
  have hf : fgivenF n es s = checkF s n := by unfold fgivenF; rw [if_pos k1]
  unfold pf_effective_proof_check_v2
  refine p_firing_Check (by omega) ⟨fun h1 => ?_, fun h1 => ?_⟩
  · rw [hf] at h1
    obtain ⟨hsl, -, -, hsb⟩ := checkF_ok h1
    have yes : (Red n es q (appF n es d s) ∧ gi (appF n es d s) q < 0) → R 0 := fun hy => h _ (.inr (.inr (.inl ⟨h0, h1, hy, rfl⟩)))
    have nay : ¬ (Red n es q (appF n es d s) ∧ gi (appF n es d s) q < 0) → R 16 := fun hy => h _ (.inr (.inr (.inr ⟨h0, h1, hy, rfl⟩)))
    refine p_effective_led hl k1 hdl (fun j hj => by have := hdb j hj; omega) hsl (fun j hj => by have := hsb j hj; omega) ?_
    have hxl : (appF n es d s).length = n := appF_length
    generalize appF n es d s = x at yes nay hxl ⊢
    unfold pf_effective_VerifyLoss_1_v2
    simp only [Int.toNat_natCast]
    refine ⟨by omega, hl, by rw [List.length_set]; omega, fun r c1 c2 => ⟨fun hneg => ⟨fun hr => ?_, fun hr => ⟨fun q => (by cases q), fun _ => nay fun hy => ?_⟩⟩, fun hneg => ⟨fun q => (by cases q), fun _ => nay fun hy => hneg hy.2⟩⟩⟩
    · have hg : givenF n es q (x.set q 0) = 0 := Classical.not_not.1 fun hne => by rw [c1 hne] at hr; cases hr
      rw [hg]
      simp only [Int.toNat_natCast] at c2
      exact ⟨fun _ => yes ⟨(red_set hxl (by omega) 0).1 ((c2 hg).1 hr), hneg⟩, fun q => absurd (decide_eq_true rfl) q⟩
    · have hc : checkF (x.set q 0) n = 0 := checkF_of (by rw [List.length_set, hxl]) hn1 hn12 fun j hj => by
        rw [gi_set (by omega)]
        split
        · omega
        · rename_i e
          have a1 := hy.1.pos j hj e
          have a2 := red_lt hE hy.1 hj e
          have a3 := deg_le k1 hn12 (n := n) j
          omega
      have hg : givenF n es q (x.set q 0) = 0 := by unfold givenF; rw [if_pos k1, if_pos k2, if_pos ⟨k3, k4⟩, hc]
      simp only [Int.toNat_natCast] at c2
      exact hr ((c2 hg).2 ((red_set hxl (by omega) 0).2 hy.1))
  · rw [hf] at h1
    rw [hf]
    exact h _ (.inr (.inl ⟨h0, h1, rfl⟩))
end Go.Proofs.Ytbehbjfcenlaeaa

/- What Winnable, Price and Needy come to, and their references. -/
namespace Go.Proofs.Ytbehbjfcenlaeaa
open Go
set_option linter.unusedVariables false
set_option linter.unusedSimpArgs false

theorem bool_of (p : Nat → Prop) : ∃ f : Nat → Bool, ∀ v, f v = true ↔ p v := ⟨fun v => @decide (p v) (Classical.propDecidable _), fun v => by simp⟩
/-- What a graph and a divisor that are right give. -/
theorem given_all {n : Nat} {es : List E3} {q : Nat} {d : List Int} (h : givenF n es q d = 0) : EOk n es ∧ 1 ≤ n ∧ n ≤ 12 ∧ gcheckF n es = 0 ∧ connF n es = true ∧ q < n ∧ d.length = n ∧ checkF d n = 0 := by
  obtain ⟨k1, k2, k3, k4, k5⟩ := givenF_ok h
  obtain ⟨hE, hn1, hn12⟩ := gcheck_ok k1
  exact ⟨hE, hn1, hn12, k1, k2, by omega, (checkF_ok k5).1, k5⟩
theorem given_at {n : Int} {es : List E3} {d : List Int} (h : givenF n es 0 d = 0) {v : Int} (hv : 0 ≤ v ∧ v < n) : givenF n es v d = 0 := by
  obtain ⟨k1, k2, k3, k4, k5⟩ := givenF_ok h
  unfold givenF
  rw [if_pos k1, if_pos k2, if_pos hv, k5]
theorem p_effective_Winnable {n : Int} {es : List E3} {d : List Int} {R : Bool → List Int → List Int → Int → Prop} (hS : Small n es d ∨ RedIn n es 0 d) (hdl : d.length ≤ 1000000000) (h0 : givenF n es 0 d ≠ 0 → R false [] [] (givenF n es 0 d))
    (h1 : givenF n es 0 d = 0 → ∀ r s, Reduces n.toNat es 0 d r s → ∀ b, (b = true ↔ Win n.toNat es d) → R b r s 0) : pf_effective_Winnable n es d R := by
  unfold pf_effective_Winnable
  refine ⟨hS, hdl, fun h => ⟨fun q => absurd q h, fun _ => h0 h⟩, fun h r s hr hrl hsl => ?_⟩
  obtain ⟨n, rfl⟩ : ∃ n' : Nat, n = (n' : Int) := ⟨n.toNat, by have := givenF_ok h; omega⟩
  obtain ⟨hE, hn1, hn12, hg, hc, -, hd, -⟩ := given_all (q := 0) h
  have e0 : (0 : Int).toNat = 0 := rfl
  simp only [Int.toNat_natCast, e0] at hr hrl hsl h1 ⊢
  refine ⟨fun _ => ⟨by omega, h1 h r s hr _ ?_⟩, fun q => absurd trivial q⟩
  rw [decide_eq_true_eq, win_red hE (by omega) hr.red hr.lp]
/-- The price of a divisor at a vertex. -/
structure PriceOk (n : Nat) (es : List E3) (d : List Int) (v : Nat) (k : Int) : Prop where
  pos : 0 ≤ k
  few : k = 0 ∨ k ≤ 18 - dg d
  iff : ∀ j, 0 ≤ j → (Win n es (addAt d v j) ↔ k ≤ j)
theorem PriceOk.eq {n : Nat} {es : List E3} {d : List Int} {v : Nat} {k k' : Int} (h : PriceOk n es d v k) (h' : PriceOk n es d v k') : k = k' := by
  have h1 := h.pos
  have h2 := h'.pos
  have h3 := (h'.iff k h1).1 ((h.iff k h1).2 (Int.le_refl _))
  have h4 := (h.iff k' h2).1 ((h'.iff k' h2).2 (Int.le_refl _))
  omega
theorem tot_few {n : Nat} {es : List E3} (hE : EOk n es) (hn : 1 ≤ n) (h12 : n ≤ 12) (hs : (es.map (·.2.2)).sum ≤ 9) : tot n es ≤ 18 := by
  have := tot_le hE hn h12; omega
theorem dg_lp {n : Nat} {es : List E3} {x d : List Int} {s : Nat → Int} (hx : x.length = n) (hd : d.length = n) (h : ∀ v, v < n → gi x v = gi d v - Lp n es s v) : dg x = dg d := by
  unfold dg
  rw [hx, hd, sm_congr (g := fun v => gi d v - Lp n es s v) h, sm_sub, Lp_total]; omega
theorem price_of {n : Nat} {es : List E3} {d r s : List Int} {v : Nat} (hE : EOk n es) (ht : tot n es ≤ 18) (hv : v < n) (hd : d.length = n) (h : Reduces n es v d r s) : PriceOk n es d v (mxF 0 (-gi r v)) := by
  have h1 := red_few hE hv h.dl h.red
  have h2 := dg_lp h.dl hd h.lp
  rw [mxF_eq]
  refine ⟨by omega, by omega, fun j hj => ?_⟩
  rw [win_price hE hv hd h]
  omega
theorem p_effective_price {n : Int} {v : Nat} {es : List E3} {d : List Int} {R : Int → Int → Prop} (hS : Small n es d) (hdl : d.length ≤ 1000000000) (hg : givenF n es v d = 0) (h : ∀ k, PriceOk n.toNat es d v k → R k 0) : pf_effective_price n es d (v : Int) R := by
  unfold pf_effective_price
  refine ⟨.inl hS, hdl, fun q => absurd hg q, fun _ r s hr hrl hsl => ⟨fun _ => ?_, fun q => absurd rfl q⟩⟩
  obtain ⟨n, rfl⟩ : ∃ n' : Nat, n = (n' : Int) := ⟨n.toNat, by have := givenF_ok hg; omega⟩
  obtain ⟨hE, hn1, hn12, hg1, hc, hv, hd, -⟩ := given_all hg
  simp only [Int.toNat_natCast] at hr hrl hsl h ⊢
  have hb := hr.bd v hv
  exact ⟨by omega, i64 (by omega), h _ (price_of hE (tot_few hE hn1 hn12 (hS.g hg1).2) hv hd hr)⟩
theorem p_effective_Price {n v : Int} {es : List E3} {d : List Int} {R : Int → Int → Prop} (hS : Small n es d) (hdl : d.length ≤ 1000000000) (h0 : givenF n es 0 d ≠ 0 → R 0 (givenF n es 0 d)) (h1 : givenF n es 0 d = 0 → ¬ (0 ≤ v ∧ v < n) → R 0 2)
    (h2 : givenF n es 0 d = 0 → ∀ v' : Nat, v = v' → v' < n.toNat → ∀ k, PriceOk n.toNat es d v' k → R k 0) : pf_effective_Price n es d v R := by
  unfold pf_effective_Price
  refine p_effective_given (by have := hS.el; omega) hdl ⟨fun hg => ?_, h0⟩
  have out : ¬ (0 ≤ v ∧ v < n) → R 0 2 := h1 hg
  refine ⟨0 ≤ v ∧ v < n, fun hv => ?_, fun q => out (by omega), fun q => ⟨fun q2 => out (by omega), fun q2 => ⟨by omega, by omega⟩⟩⟩
  obtain ⟨v', rfl⟩ : ∃ v' : Nat, v = (v' : Int) := ⟨v.toNat, by omega⟩
  exact p_effective_price hS hdl (given_at hg hv) (h2 hg v' rfl (by omega))
/-- Numbers as integers. -/
def castL (l : List Nat) : List Int := l.map fun v : Nat => (v : Int)
/-- The vertices at which one chip more is enough. -/
def NeedyOk (n : Nat) (es : List E3) (d : List Int) (out : List Int) : Prop := ∃ f : Nat → Bool, (∀ v, v < n → (f v = true ↔ Win n es (addAt d v 1))) ∧ out = castL ((List.range n).filter f)
theorem NeedyOk.eq {n : Nat} {es : List E3} {d o o' : List Int} (h : NeedyOk n es d o) (h' : NeedyOk n es d o') : o = o' := by
  obtain ⟨f, hf, rfl⟩ := h
  obtain ⟨f', hf', rfl⟩ := h'
  congr 1
  refine List.filter_congr fun v hv => ?_
  rw [List.mem_range] at hv
  rw [Bool.eq_iff_iff, hf v hv, hf' v hv]
theorem filt_yes {f : Nat → Bool} {k : Nat} (h : f k = true) : castL ((List.range (k + 1)).filter f) = castL ((List.range k).filter f) ++ [(k : Int)] := by
  unfold castL; rw [List.range_succ, List.filter_append, List.map_append]; simp [h]
theorem filt_no {f : Nat → Bool} {k : Nat} (h : f k ≠ true) : castL ((List.range (k + 1)).filter f) = castL ((List.range k).filter f) := by
  unfold castL; rw [List.range_succ, List.filter_append, List.map_append]; simp [h]
theorem filt_len (f : Nat → Bool) (k : Nat) : (castL ((List.range k).filter f)).length ≤ k := by
  unfold castL
  rw [List.length_map]
  refine Nat.le_trans (List.length_filter_le _ _) ?_
  simp
theorem p_effective_Needy {n : Int} {es : List E3} {d : List Int} {R : List Int → Int → Prop} (hS : Small n es d) (hdl : d.length ≤ 1000000000) (h0 : givenF n es 0 d ≠ 0 → R [] (givenF n es 0 d)) (h1 : givenF n es 0 d = 0 → Win n.toNat es d → R [] 15)
    (h2 : givenF n es 0 d = 0 → ¬ Win n.toNat es d → ∀ out, NeedyOk n.toNat es d out → R out 0) : pf_effective_Needy n es d R := by
  unfold pf_effective_Needy
  refine p_effective_Winnable (.inl hS) hdl (fun h => ⟨fun q => absurd q h, fun _ => h0 h⟩) (fun hg r s hr b hb => ⟨fun _ => ⟨fun hw => h1 hg (hb.1 hw), fun hw => ?_⟩, fun q => absurd rfl q⟩)
  have hnw : ¬ Win n.toNat es d := fun q => hw (hb.2 q)
  obtain ⟨n, rfl⟩ : ∃ n' : Nat, n = (n' : Int) := ⟨n.toNat, by have := givenF_ok hg; omega⟩
  obtain ⟨hE, hn1, hn12, hg1, hc, -, hd, -⟩ := given_all (q := 0) hg
  simp only [Int.toNat_natCast] at h2 hnw hr
  obtain ⟨f, hf⟩ := bool_of fun v => Win n es (addAt d v 1)
  refine ⟨fun l => ∀ (i : Nat) x, l[i]? = some x → i < n ∧ PriceOk n es d i x.1 ∧ x.2 = 0, fun l => l.length = n, ?_, fun pre out v => v = (pre.length : Int) ∧ pre.length ≤ n ∧ out = castL ((List.range pre.length).filter f), ⟨rfl, by simp, rfl⟩, ?_, ?_⟩
  · unfold pf_effective_prices_1
    refine ⟨fun m l v => v = (l.length : Int) ∧ l.length ≤ n ∧ m = n - l.length ∧ ∀ (i : Nat) x, l[i]? = some x → i < n ∧ PriceOk n es d i x.1 ∧ x.2 = 0, ⟨_, rfl, by simp, rfl, by simp⟩, ?_⟩
    rintro m l _ ⟨rfl, hl, rfl, hP⟩
    refine ⟨fun hlt => p_effective_price hS hdl (given_at hg (by omega)) fun k hk => ?_, fun hge => by omega⟩
    simp only [Int.toNat_natCast] at hk
    have hP2 : ∀ (i : Nat) x, (l ++ [(k, (0 : Int))])[i]? = some x → i < n ∧ PriceOk n es d i x.1 ∧ x.2 = 0 := fun i x hx => by
      by_cases e : i < l.length
      · rw [List.getElem?_append_left e] at hx; exact hP i x hx
      · rw [List.getElem?_append_right (by omega)] at hx
        have e2 : i = l.length := by
          have := (List.getElem?_eq_some_iff.1 hx).1
          simp at this; omega
        subst e2
        simp at hx
        subst hx
        exact ⟨by omega, hk, rfl⟩
    exact ⟨hP2, ⟨fun _ => ⟨i64 (by omega), n - (l.length + 1), by omega, by simp, by simp; omega, by simp, hP2⟩, fun q => absurd rfl q⟩, trivial⟩
  · rintro pre y y2 out v ⟨rfl, hpl, rfl⟩ hPr
    obtain ⟨hin, hpk, hy2⟩ := hPr pre.length (y, y2) (by simp)
    simp only at hpk hy2
    have h1y : (y = 1 ↔ f pre.length = true) := by
      rw [hf, hpk.iff 1 (by omega)]
      have h0n : ¬ y ≤ 0 := fun q => hnw (by have := (hpk.iff 0 (by omega)).2 q; rwa [win_zero (n := n) (es := es) (by omega)] at this)
      omega
    refine ⟨fun _ => ⟨fun e => ?_, fun e => ?_⟩, fun q => absurd hy2 q⟩
    · have := filt_len f pre.length
      refine ⟨by omega, i64 (by omega), by simp, by simp; omega, ?_⟩
      rw [List.length_append, List.length_singleton, filt_yes (h1y.1 e)]
    · refine ⟨i64 (by omega), by simp, by simp; omega, ?_⟩
      rw [List.length_append, List.length_singleton, filt_no (fun q => e (h1y.2 q))]
  · rintro ys out v ⟨rfl, hpl, rfl⟩ hlen
    rw [hlen]
    exact h2 hg hnw _ ⟨f, fun v _ => hf v, rfl⟩
/-! ### The reference -/
end Go.Proofs.Ytbehbjfcenlaeaa

/- What firing a set comes to. -/
namespace Go.Proofs.Ytbehbjfcenlaeaa
open Go
set_option linter.unusedVariables false
set_option linter.unusedSimpArgs false

section
variable {n : Nat} {es : List E3} {d : List Int} {set : List Int}
end
/-! ### Sets as lists -/
end Go.Proofs.Ytbehbjfcenlaeaa

/- Words for the laws of layer 36: what its small functions come to; the chapter's examples come out right. -/
namespace Go.Proofs.Ytbehbjfcenlaeaa
open Go
set_option linter.unusedVariables false
set_option linter.unusedSimpArgs false

/-- Reduced, by trying all sets. -/
theorem red_of_dec {n : Nat} {es : List E3} {q : Nat} {d : List Int} (hq : q < n) (h1 : ∀ v, v < n → v ≠ q → 0 ≤ gi d v) (h2 : ∀ m, m < 2 ^ n → 1 ≤ m → m.testBit q = false → ¬ (∀ v, v < n → m.testBit v = true → outS n es m.testBit v ≤ gi d v)) : Red n es q d :=
  (tight_red hq h1).1 fun m a b c => h2 m b a c
def path3 : List E3 := [(0, 1, 1), (1, 2, 1)]
/-- A reduced form that is known. -/
theorem red_known {n : Nat} {es : List E3} {q : Nat} {d r s a t : List Int} (hg : gcheckF (n : Int) es = 0) (hq : q < n) (h : Reduces n es q d r s) (h1 : ∀ v, v < n → v ≠ q → 0 ≤ gi a v) (h2 : ∀ m, m < 2 ^ n → 1 ≤ m → m.testBit q = false → ¬ (∀ v, v < n → m.testBit v = true → outS n es m.testBit v ≤ gi a v))
    (hal : a.length = n) (htl : t.length = n) (hlp : ∀ v, v < n → gi a v = gi d v - Lp n es (gi t) v) (hz : gi t q = 0) : r = a ∧ s = t :=
  reduces_eq (gcheck_ok hg).1 hq h hal htl hlp hz (red_of_dec hq h1 h2)
theorem small_dec {n : Int} {es : List E3} {d : List Int} (h1 : es.length ≤ 40) (h2 : n ≤ 6 ∧ (es.map (·.2.2)).sum ≤ 9) (hd : d.length = n.toNat) (h3 : ∀ v, v < d.length → -200 ≤ gi d v ∧ gi d v ≤ 200) : Small n es d :=
  ⟨h1, fun _ => h2, fun _ v hv => h3 v (by omega)⟩
theorem p_l36_awake {R : Bool → Prop} (h : R true) : pf_l36_awake R := by
  unfold pf_l36_awake
  have g0 : gcheckF ((3 : Nat) : Int) [(0, 1, 1), (0, 2, 1), (1, 2, 1)] = 0 := by decide
  have g1 : gcheckF ((3 : Nat) : Int) [(0, 1, 1), (1, 2, 1)] = 0 := by decide
  refine p_effective_Winnable (.inl (small_dec (by decide) (by decide) (by decide) (by decide))) (by decide) (fun q => absurd (by decide) q) (fun _ r s hr b hb => ?_)
  obtain ⟨rfl, rfl⟩ := red_known (n := 3) (q := 0) (a := [0, 0, 1]) (t := [0, -1, -1]) g0 (by decide) hr (by decide) (by decide) (by decide) (by decide) (by decide) (by decide)
  have hb1 : b = true := hb.2 ((win_red (gcheck_ok g0).1 (by decide) hr.red hr.lp).2 (by decide))
  refine p_effective_Winnable (.inl (small_dec (by decide) (by decide) (by decide) (by decide))) (by decide) (fun q => absurd (by decide) q) (fun _ r s hr b2 hb2 => ?_)
  obtain ⟨rfl, rfl⟩ := red_known (n := 3) (q := 0) (a := [-1, 0, 1]) (t := [0, -1, -1]) g0 (by decide) hr (by decide) (by decide) (by decide) (by decide) (by decide) (by decide)
  have hnw : ¬ Win 3 [(0, 1, 1), (0, 2, 1), (1, 2, 1)] [1, -1, 0] := fun q => absurd ((win_red (gcheck_ok g0).1 (by decide) hr.red hr.lp).1 q) (by decide)
  have hb2 : ¬ b2 = true := fun q => hnw (hb2.1 q)
  refine p_effective_Needy (small_dec (by decide) (by decide) (by decide) (by decide)) (by decide) (fun q => absurd (by decide) q) (fun _ q => absurd q hnw) (fun _ _ out hout => ?_)
  obtain ⟨f, hf, rfl⟩ := hout
  have hall : ∀ v, v < 3 → f v = true := by
    intro v hv
    rw [show ((3 : Int).toNat) = 3 from rfl] at hf
    rw [hf v hv]
    have key : ∀ (d t : List Int), (∀ v, v < 3 → 0 ≤ gi d v - Lp 3 [(0, 1, 1), (0, 2, 1), (1, 2, 1)] (gi t) v) → Win 3 [(0, 1, 1), (0, 2, 1), (1, 2, 1)] d := fun d t h => ⟨gi t, h⟩
    match v, hv with
    | 0, _ => exact key _ [0, -1, -1] (by decide)
    | 1, _ => exact key _ [0, 0, 0] (by decide)
    | 2, _ => exact key _ [0, -1, 0] (by decide)
  have hfl : castL ((List.range (3 : Int).toNat).filter f) = [0, 1, 2] := by
    have e : (List.range (3 : Int).toNat).filter f = [0, 1, 2] := by
      rw [List.filter_eq_self.2 fun v hv => hall v (by simpa using hv)]; rfl
    rw [e]; rfl
  rw [hfl]
  refine p_effective_Winnable (.inl (small_dec (by decide) (by decide) (by decide) (by decide))) (by decide) (fun q => absurd (by decide) q) (fun _ r3 s3 hr3 b3 hb3 => ?_)
  have hb3 : b3 = true := hb3.2 ⟨gi [0, -3, -2], by decide⟩
  refine p_effective_Price (small_dec (by decide) (by decide) (by decide) (by decide)) (by decide) (fun q => absurd (by decide) q) (fun _ q => absurd (by decide) q) (fun _ v' hv' _ k hk => ?_)
  have hk1 : k = 1 := by
    have e : v' = 2 := by omega
    subst e
    rw [show ((3 : Int).toNat) = 3 from rfl] at hk
    have h1 : k ≤ 1 := (hk.iff 1 (by omega)).1 ⟨gi [0, -2, 0], by decide⟩
    have h0 : ¬ k ≤ 0 := fun q => by
      have := win_dg (n := 3) (by decide) ((hk.iff 0 (by omega)).2 q)
      exact absurd this (by decide)
    omega
  subst hk1 hb1 hb3
  refine ⟨True, fun _ => p_effective_VerifyWin (by decide) (by decide) ⟨fun _ => p_effective_VerifyLoss (by decide) (by decide) fun e he => ?_, fun q => absurd (by decide) q⟩, i64 (by omega), i64 (by omega), i64 (by omega), i64 (by omega), fun _ => ⟨fun _ => ⟨fun q => absurd q hb2, fun _ => ⟨fun _ => p_slices_Equal_Divisor (by decide) ⟨fun _ => p_slices_Equal_Divisor (by decide) ⟨fun _ => p_slices_Equal_intS (by decide) ⟨fun _ => ⟨fun _ => trivial, fun q => absurd rfl q⟩, fun q => absurd (by decide) q⟩, fun q => absurd (by decide) q⟩, fun q => absurd (by decide) q⟩, fun q => absurd rfl q⟩⟩, fun q => absurd rfl q⟩, fun q => absurd (by omega) q⟩
  have he0 : e = 0 := he.eq (.inr (.inr (.inl ⟨by decide, by decide, ⟨red_of_dec (n := 3) (q := 0) (by decide) (by decide) (by decide), by decide⟩, rfl⟩)))
  rw [decide_eq_true he0]
  exact h
end Go.Proofs.Ytbehbjfcenlaeaa

/- The genus: how many single edges there are, and how many chips a reduced divisor has. No program in sight. -/
namespace Go.Proofs.Ytbehbjfcenlaeaa
open Go
set_option linter.unusedVariables false
set_option linter.unusedSimpArgs false

/-- The single edges that are no loops. -/
def plainM (es : List E3) : Int := (es.map fun x => if x.1 = x.2.1 then 0 else x.2.2).sum
end Go.Proofs.Ytbehbjfcenlaeaa

/- What the pure forms of sums, of equivalence and of lists of divisors come to. -/
namespace Go.Proofs.Ytbehbjfcenlaeaa
open Go
set_option linter.unusedVariables false
set_option linter.unusedSimpArgs false

theorem own_two {n : Nat} {a b : List Int} (ha : a.length = n ∧ checkF a n = 0) (hb : b.length = n ∧ checkF b n = 0) : ∀ k : Nat, k < ([a, b] : List (List Int)).length → (gx [a, b] k).length = n ∧ checkF (gx [a, b] k) n = 0 := fun k hk => by
  rcases (by simp at hk; omega : k = 0 ∨ k = 1) with rfl | rfl
  · exact ha
  · exact hb
/-! ### Equivalence -/
theorem p_slices_Min_S {x : List Int} {R : Int → Prop} (hl : x.length ≤ 1000000000) (h0 : 0 < x.length) (h : ∀ m, (∃ k, k < x.length ∧ gi x k = m) → (∀ k, k < x.length → m ≤ gi x k) → R m) : pf_slices_Min_Script x R := by
  unfold pf_slices_Min_Script
  refine ⟨True, fun _ => ⟨by omega, ?_⟩, fun q => by omega, fun _ => trivial⟩
  refine ⟨fun c m i => Cnt x.length (fun k => 1 ≤ k ∧ (∃ j, j < k ∧ gi x j = m) ∧ ∀ j, j < k → m ≤ gi x j) c i, ⟨x.length - 1, 1, rfl, rfl, h0, by omega, ⟨0, by omega, rfl⟩, fun j hj => by rw [show j = 0 by omega]; exact Int.le_refl _⟩, ?_⟩
  rintro c m _ ⟨k, rfl, rfl, hk, h1, ⟨j0, hj0, rfl⟩, hm⟩
  simp only [Int.toNat_natCast]
  refine ⟨fun hlt => ⟨by omega, Cnt.next (by omega) (by omega) ⟨by omega, ?_, fun j hj => ?_⟩⟩, fun hge => ?_⟩
  · by_cases q : gi x k < gi x j0
    · exact ⟨k, by omega, by unfold mnF; rw [if_pos q]⟩
    · exact ⟨j0, by omega, by unfold mnF; rw [if_neg q]⟩
  · rw [mnF_eq]
    by_cases e : j = k
    · subst e; omega
    · have := hm j (by omega); omega
  · have : k = x.length := by omega
    subst this
    exact h _ ⟨j0, hj0, rfl⟩ hm
theorem p_equivalence_each {n : Nat} {a b : List Int} {F : Int → Int → (Int → Prop) → Prop} {f : Int → Int → Int} {R : List Int → Prop} (hn : n ≤ 12) (ha : a.length = n) (hb : b.length = n)
    (hF : ∀ v, v < n → ∀ R' : Int → Prop, R' (f (gi a v) (gi b v)) → F (gi a v) (gi b v) R') (h : R (tab (fun i => f (gi a i) (gi b i)) n)) : pf_equivalence_each_Script a b F R := by
  unfold pf_equivalence_each_Script
  refine ⟨by omega, fun m v out => Cnt n (fun k => out = upto (fun i => f (gi a i) (gi b i)) k n) m v, ?_, ?_⟩
  · rw [ha]; exact Cnt.start (upto_zero _ _).symm
  rintro m _ out ⟨k3, rfl, rfl, hk3, rfl⟩
  simp only [Int.toNat_natCast, List.length_replicate, ha]
  refine ⟨fun hlt => ?_, fun hge => ?_⟩
  · exact ⟨by omega, by omega, hF k3 (by omega) _ ⟨by rw [upto_length]; omega, Cnt.next (by omega) (by omega) (upto_set (fun i => f (gi a i) (gi b i)) (by omega))⟩⟩
  · have e : k3 = n := by omega
    subst e
    rw [upto_all]; exact h
theorem p_equivalence_least {n : Nat} {s : List Int} {R : List Int → Prop} (hn : 1 ≤ n ∧ n ≤ 12) (hs : s.length = n) (hb : ∀ j, j < n → -2000000000 ≤ gi s j ∧ gi s j ≤ 2000000000) (h : ∀ w, w < n → (∀ k, k < n → gi s w ≤ gi s k) → R (tab (fun i => gi s i - gi s w) n)) : pf_equivalence_least s R := by
  unfold pf_equivalence_least
  refine ⟨fun q => by omega, fun _ => p_slices_Min_S (by omega) (by omega) fun m ⟨w, hw, hm⟩ hall => ?_⟩
  subst hm
  have hw2 := hb w (by omega)
  exact p_equivalence_each (f := fun x _ => x - gi s w) hn.2 hs hs (fun v hv R' hR' => ⟨i64 (by have := hb v hv; omega), hR'⟩) (h w (by omega) fun k hk => hall k (by omega))
theorem p_equivalence_given {n : Nat} {es : List E3} {l : List (List Int)} {R : Int → Prop} (hl : es.length ≤ 1000) (hll : l.length ≤ 1000) (hg : gcheckF n es = 0) (hc : connF n es = true) (hd : ∀ k, k < l.length → checkF (gx l k) n = 0) (h : R 0) : pf_equivalence_given (n : Int) es l R := by
  unfold pf_equivalence_given
  refine ⟨by omega, fun _ => ⟨fun _ => ?_, fun q => absurd (decide_eq_true ⟨hg, hc⟩) q⟩, fun q => absurd hg q⟩
  refine ⟨Cnt l.length (fun _ => True), Cnt.start trivial, ?_⟩
  rintro m _ ⟨k, rfl, rfl, hk, -⟩
  simp only [Int.toNat_natCast]
  exact ⟨fun hlt => ⟨by omega, p_chips_Check ⟨fun _ => Cnt.next (by omega) (by omega) trivial, fun q => absurd (hd k (by omega)) q⟩⟩, fun _ => h⟩
/-- A script between divisors with few chips, with 0 somewhere, is small. -/
theorem script_small {n : Nat} {es : List E3} {a b : List Int} {u : Nat → Int} (hE : EOk n es) (hn : n ≤ 12) {w : Nat} (hw : w < n) (hC : Conn n es w) (ha : ∀ v, v < n → -200 ≤ gi a v ∧ gi a v ≤ 200) (hb : ∀ v, v < n → -200 ≤ gi b v ∧ gi b v ≤ 200)
    (hl : ∀ v, v < n → gi b v = gi a v - Lp n es u v) (hmin : ∀ v, v < n → u w ≤ u v) : ∀ v, v < n → 0 ≤ u v - u w ∧ u v - u w ≤ 57600 := by
  intro v hv
  have h0 := hmin v hv
  have h1 := climb hE hC hw (f := u) (G := 4800) (by omega) (fun S hS => ?_) v hv
  · have h2 := low_le (f := u) hv
    have h3 : low n u (u v) * 4800 ≤ 12 * 4800 := Int.mul_le_mul_of_nonneg_right (by omega) (by omega)
    omega
  · have h4 : sm n (fun v => if S v = true then Lp n es u v else 0) ≤ sm n (fun _ => 400) := sm_le fun x hx => by
      show (if S x = true then Lp n es u x else 0) ≤ 400
      have h5 := hl x hx
      have h6 := ha x hx
      have h7 := hb x hx
      split <;> omega
    rw [sm_const] at h4
    omega
theorem p_equivalence_Equivalent {n : Nat} {es : List E3} {a b : List Int} {R : Bool → List Int → Int → Prop} (hSa : Small n es a) (hSb : Small n es b) (ga : givenF n es 0 a = 0) (gb : givenF n es 0 b = 0)
    (h1 : ∀ u : List Int, u.length = n → (∀ v, v < n → gi b v = gi a v - Lp n es (gi u) v) → checkF u n = 0 → R true u 0) (h2 : (∀ t : Nat → Int, ¬ ∀ v, v < n → gi b v = gi a v - Lp n es t v) → R false [] 0) : pf_equivalence_Equivalent (n : Int) es a b R := by
  obtain ⟨hE, hn1, hn12, hg, hc, -, hal, hca⟩ := given_all (q := 0) ga
  obtain ⟨-, -, -, -, -, -, hbl, hcb⟩ := given_all (q := 0) gb
  have hel := hSa.el
  unfold pf_equivalence_Equivalent
  refine p_equivalence_given (by omega) (by simp) hg hc (fun k hk => (own_two ⟨hal, hca⟩ ⟨hbl, hcb⟩ k hk).2) ⟨fun _ => ?_, fun q => absurd rfl q⟩
  refine ⟨.inl hSa, by omega, fun q => absurd ga q, fun _ x s hx hxl hsl => ⟨fun _ => ⟨.inl hSb, by omega, fun q => absurd gb q, fun _ y t hy hyl htl => ⟨fun _ => ?_, fun q => absurd rfl q⟩⟩, fun q => absurd rfl q⟩⟩
  have e0 : (0 : Int).toNat = 0 := rfl
  simp only [Int.toNat_natCast, e0] at hx hxl hsl hy hyl htl
  refine p_slices_Equal_Divisor (by omega) ⟨fun he => ?_, fun he => ?_⟩
  · rw [decide_eq_true_eq] at he
    subst he
    have hsb := hx.bs
    have htb := hy.bs
    have hab := hSa.d hca
    have hbb := hSb.d hcb
    have hdl : (tab (fun i => gi s i - gi t i) n).length = n := tab_length _ _
    have hdg : ∀ v, v < n → gi (tab (fun i => gi s i - gi t i) n) v = gi s v - gi t v := fun v hv => gi_tab _ hv
    refine p_equivalence_each (f := fun m k => m - k) hn12 hsl htl (fun v hv R' hR' => ⟨i64 (by have := hsb v hv; have := htb v hv; omega), hR'⟩) ?_
    refine p_equivalence_least ⟨hn1, hn12⟩ hdl (fun j hj => by rw [hdg j hj]; have := hsb j hj; have := htb j hj; omega) fun w hw hmin => ?_
    have hLd : ∀ v, v < n → gi b v = gi a v - Lp n es (gi (tab (fun i => gi s i - gi t i) n)) v := fun v hv => by
      have h3 := Lp_congr (n := n) (es := es) (a := gi (tab (fun i => gi s i - gi t i) n)) (b := fun i => gi s i + (-1) * gi t i) (fun i hi => by rw [hdg i hi]; omega) hv
      rw [h3, Lp_add (gi s) (fun i => (-1) * gi t i), Lp_mul]
      have h4 := hx.lp v hv
      have h5 := hy.lp v hv
      omega
    have hsm := script_small hE hn12 hw (conn_all hg hc w hw) (fun v hv => hab v (by omega)) (fun v hv => hbb v (by omega)) hLd hmin
    generalize tab (fun i => gi s i - gi t i) n = z at hdl hLd hsm hmin ⊢
    refine h1 _ (tab_length _ _) (fun v hv => ?_) (checkF_of (tab_length _ _) hn1 hn12 fun j hj => by rw [gi_tab _ hj]; have := hsm j hj; omega)
    have h3 := Lp_congr (n := n) (es := es) (a := gi (tab (fun i => gi z i - gi z w) n)) (b := fun i => gi z i + (- gi z w)) (fun i hi => by rw [gi_tab _ hi]; omega) hv
    rw [h3, Lp_add (gi z) (fun _ => - gi z w), Lp_const, hLd v hv]; omega
  · rw [decide_eq_true_eq] at he
    refine h2 fun u hu => he ?_
    refine (reduces_eq hE (by omega) hx (a' := y) (s' := tab (fun v => (u v + gi t v) + - u 0) n) hyl (tab_length _ _) (fun v hv => ?_) ?_ hy.red).1
    · rw [Lp_congr (b := fun v => (u v + gi t v) + - u 0) (fun i hi => gi_tab _ hi) hv, Lp_add (fun v => u v + gi t v) (fun _ => - u 0), Lp_const, Lp_add u (gi t), hy.lp v hv, hu v hv]; omega
    · rw [gi_tab _ (by omega), hy.sq]; omega
/-! ### Lists of divisors -/
theorem sum_dg : ∀ (d : List Int), d.sum = dg d := by
  have key : ∀ (l : List Int) (n : Nat), n ≤ l.length → sm n (gi l) = (l.take n).sum := fun l n => by
    induction n with
    | zero => intro _; simp [sm]
    | succ n ih =>
      intro h
      rw [sm, ih (by omega), List.take_add_one, List.sum_append, gi_of_lt (by omega : n < l.length), List.getElem?_eq_getElem (by omega : n < l.length)]
      simp
  intro d
  unfold dg
  rw [key d d.length (Nat.le_refl _), List.take_length]
theorem gi_drop (d : List Int) (k i : Nat) : gi (d.drop k) i = gi d (k + i) := by unfold gi; simp
theorem p_r17_Follows {d : List Int} {R : List Int → Bool → Prop} (hl : d.length ≤ 1000) (h0 : 1 ≤ d.length) (hb : ∀ j, j < d.length → -1000000 ≤ gi d j ∧ gi d j ≤ 1000000) (h1 : ∀ y, nextF d = some y → R y true) (h2 : nextF d = none → R [] false) : pf_r17_Follows d R := by
  unfold pf_r17_Follows
  refine ⟨i64 (by omega), fun m v => -1 ≤ v ∧ v + 2 ≤ d.length ∧ m = (v + 1).toNat ∧ ∀ w : Nat, v < w → w + 2 ≤ d.length → (d.drop (w + 1)).sum = 0, ⟨_, by omega, by omega, rfl, fun w h h' => by omega⟩, ?_⟩
  rintro m v ⟨hv1, hv2, rfl, hinv⟩
  refine ⟨fun h0 => ?_, fun h0 => h2 (nextF_none d fun w hw => hinv w (by omega) hw)⟩
  obtain ⟨v, rfl⟩ : ∃ v' : Nat, v = (v' : Int) := ⟨v.toNat, by omega⟩
  have e1 : ((v : Int) + 1).toNat = v + 1 := by omega
  rw [e1]
  have hdb : ∀ i, i < (d.drop (v + 1)).length → -1000000 ≤ gi (d.drop (v + 1)) i ∧ gi (d.drop (v + 1)) i ≤ 1000000 := fun i hi => by
    rw [gi_drop]; rw [List.length_drop] at hi; exact hb _ (by omega)
  have hdgb : -1000000000 ≤ dg (d.drop (v + 1)) ∧ dg (d.drop (v + 1)) ≤ 1000000000 := by
    have h3 := sm_bound (f := gi (d.drop (v + 1))) (B := 1000000) (by omega) (n := (d.drop (v + 1)).length) hdb
    have h4 : (d.drop (v + 1)).length ≤ 1000 := by rw [List.length_drop]; omega
    unfold dg
    omega
  refine ⟨i64 (by omega), by omega, p_r17_Total (by rw [List.length_drop]; omega) (fun i hi => by have := hdb i hi; omega) ⟨fun hz => ?_, fun hz => ?_⟩⟩
  · refine ⟨i64 (by omega), v, by omega, by omega, by omega, by omega, fun w hw hw2 => ?_⟩
    by_cases e : w = v
    · rw [e, sum_dg, hz]
    · exact hinv w (by omega) hw2
  · have hnx := nextF_some d v (by omega) (by rw [sum_dg]; exact hz) fun w hw hw2 => hinv w (by omega) hw2
    rw [sum_dg] at hnx
    generalize dg (d.drop (v + 1)) = rest at hz hnx hdgb
    have hgv := hb v (by omega)
    simp only [List.nil_append, Int.toNat_natCast]
    refine ⟨by omega, by omega, i64 (by omega), fun m w out => Cnt d.length (fun k => v + 1 ≤ k ∧ out.length = d.length ∧ ∀ i, i < d.length → gi out i = if i < v then gi d i else if i = v then gi d v + 1 else if i < k then 0 else gi d i) m w,
      ⟨d.length - (v + 1), v + 1, rfl, by omega, by omega, Nat.le_refl _, by simp, fun i hi => ?_⟩, ?_⟩
    · rw [gi_set (by omega)]
      by_cases c1 : i < v
      · rw [if_neg (by omega), if_pos c1]
      · rw [if_neg c1]
        by_cases c2 : i = v
        · rw [if_pos c2, if_pos c2]
        · rw [if_neg c2, if_neg c2, if_neg (by omega)]
    rintro m' _ out ⟨k, rfl, rfl, hk, hvk, hol, ho⟩
    simp only [Int.toNat_natCast]
    refine ⟨fun hlt => ⟨by omega, Cnt.next (by omega) (by omega) ⟨by omega, by simp [hol], fun i hi => ?_⟩⟩, fun hge => ?_⟩
    · rw [gi_set (by omega), ho i hi]
      by_cases c1 : i = k
      · rw [if_pos c1, if_neg (by omega), if_neg (by omega), if_pos (by omega)]
      · rw [if_neg c1]
        by_cases c2 : i < v
        · rw [if_pos c2, if_pos c2]
        · rw [if_neg c2, if_neg c2]
          by_cases c3 : i = v
          · rw [if_pos c3, if_pos c3]
          · rw [if_neg c3, if_neg c3]
            by_cases c4 : i < k
            · rw [if_pos c4, if_pos (by omega)]
            · rw [if_neg c4, if_neg (by omega)]
    · have hk2 : k = d.length := by omega
      have e2 : ((d.length : Int) - 1).toNat = d.length - 1 := by omega
      refine ⟨i64 (by omega), i64 (by omega), by omega, ?_⟩
      rw [e2]
      have e3 : out.set (d.length - 1) (rest - 1) = d.take v ++ (gi d v + 1) :: firstF (d.length - v - 1) (rest - 1) := by
        refine gi_ext (by rw [List.length_set, hol, next_length (by omega)]) fun i hi => ?_
        rw [List.length_set, hol] at hi
        rw [gi_next (by omega) _ _ hi, gi_set (by omega), ho i hi]
        by_cases c1 : i = d.length - 1
        · rw [if_pos c1, if_neg (by omega), if_neg (by omega), if_pos (by omega)]
        · rw [if_neg c1]
          by_cases c2 : i < v
          · rw [if_pos c2, if_pos c2]
          · rw [if_neg c2, if_neg c2]
            by_cases c3 : i = v
            · rw [if_pos c3, if_pos c3]
            · rw [if_neg c3, if_neg c3, if_pos (by omega), if_neg (by omega)]
      rw [e3]
      exact h1 _ hnx
theorem dg_entry {d : List Int} (h : ∀ a ∈ d, 0 ≤ a) {j : Nat} (hj : j < d.length) : 0 ≤ gi d j ∧ gi d j ≤ d.sum := by
  have h1 : ∀ i, i < d.length → 0 ≤ gi d i := fun i hi => h _ (gi_mem hi)
  refine ⟨h1 j hj, ?_⟩
  rw [sum_dg]
  exact sm_ge h1 j hj
theorem listF_length (n k : Nat) : (listF (n + 1) k).length ≤ (k + 1) ^ n := by
  induction n generalizing k with
  | zero => simp [listF]
  | succ n ih =>
    show ((List.range (k + 1)).flatMap fun i => (listF (n + 1) (k - i)).map ((i : Int) :: ·)).length ≤ _
    rw [List.length_flatMap]
    have h : ∀ (L : List Nat), (∀ i ∈ L, i ≤ k) → (L.map fun i => ((listF (n + 1) (k - i)).map ((i : Int) :: ·)).length).sum ≤ L.length * (k + 1) ^ n := fun L => by
      induction L with
      | nil => simp
      | cons a L ihL =>
        intro hL
        have h1 := ihL fun i hi => hL i (by simp [hi])
        have h2 := ih (k - a)
        have h3 : (k - a + 1) ^ n ≤ (k + 1) ^ n := Nat.pow_le_pow_left (by omega) n
        simp only [List.map_cons, List.sum_cons, List.length_cons, List.length_map] at h1 ⊢
        rw [Nat.add_mul, Nat.one_mul]
        omega
    have := h (List.range (k + 1)) fun i hi => by rw [List.mem_range] at hi; omega
    rw [List.length_range] at this
    rwa [Nat.pow_succ, Nat.mul_comm]
theorem p_r17_Listed {n k : Nat} {R : List (List Int) → Prop} (hn : n ≤ 11) (hk : k ≤ 1000000) (hlen : (listF (n + 1) k).length ≤ 1000000000) (h : R (listF (n + 1) k)) : pf_r17_Listed ((n + 1 : Nat) : Int) (k : Int) R := by
  unfold pf_r17_Listed
  obtain ⟨⟨B, hB⟩, hs⟩ := listF_steps n k
  have e1 : (((n + 1 : Nat) : Int) - 1).toNat = n := by omega
  refine ⟨by omega, i64 (by omega), by simp; omega, ?_⟩
  rw [e1, Int.toNat_natCast]
  have e2 : (List.replicate (n + 1) (0 : Int)).set n (k : Int) = firstF (n + 1) k := by
    refine gi_ext (by rw [List.length_set, List.length_replicate, firstF_length (by omega)]) fun i hi => ?_
    rw [List.length_set, List.length_replicate] at hi
    rw [gi_set (by simp), gi_firstF]
    by_cases e : i = n
    · rw [if_pos e, if_pos (by omega)]
    · rw [if_neg e, if_neg (by omega), gi_of_lt (by simpa using hi)]; simp
  rw [e2]
  refine ⟨fun m d out ok => (ok = true ∧ ∃ rest, listF (n + 1) k = out ++ d :: rest ∧ m = rest.length + 1) ∨ (ok = false ∧ out = listF (n + 1) k), ⟨_, .inl ⟨rfl, B, by rw [hB]; rfl, rfl⟩⟩, ?_⟩
  rintro m d out ok (⟨rfl, rest, hL, rfl⟩ | ⟨rfl, rfl⟩)
  · refine ⟨fun _ => ?_, fun q => absurd rfl q⟩
    have hmem : d ∈ listF (n + 1) k := by rw [hL]; simp
    obtain ⟨m1, m2, m3⟩ := (listF_mem n k d).1 hmem
    have hlo : out.length + 1 ≤ (listF (n + 1) k).length := by rw [hL, List.length_append, List.length_cons]; omega
    have hnx := (hL ▸ hs).at_
    refine ⟨by omega, p_r17_Follows (by omega) (by omega) (fun j hj => by have := dg_entry m2 hj; omega) (fun y hy => ?_) (fun hy => ?_)⟩
    · rw [hnx] at hy
      cases rest with
      | nil => cases hy
      | cons b rest =>
        cases hy
        exact ⟨rest.length + 1, by simp, .inl ⟨rfl, rest, by rw [hL]; simp, rfl⟩⟩
    · rw [hnx] at hy
      cases rest with
      | nil => exact ⟨0, by simp, .inr ⟨rfl, hL.symm⟩⟩
      | cons b rest => cases hy
  · exact ⟨fun q => (by cases q), fun _ => h⟩
end Go.Proofs.Ytbehbjfcenlaeaa

/- Laws of layer 36: proofs, prices, costs, moves. -/
namespace Go.Proofs.Ytbehbjfcenlaeaa
open Go
set_option linter.unusedVariables false
set_option linter.unusedSimpArgs false

/-! ### What the small functions come to -/
theorem p_slices_ContainsFunc_DivisorS {s : List (List Int)} {F : List Int → (Bool → Prop) → Prop} {p : List Int → Bool} {R : Bool → Prop} (hl : s.length ≤ 1000000000) (hF : ∀ x (R' : Bool → Prop), x ∈ s → R' (p x) → F x R') (h1 : (∀ x ∈ s, p x = false) → R false) (h2 : ∀ x ∈ s, p x = true → R true) : pf_slices_ContainsFunc_DivisorS s F R := by
  unfold pf_slices_ContainsFunc_DivisorS pf_slices_IndexFunc_DivisorS
  have hm : ∀ k, k < s.length → gx s k ∈ s := fun k hk => List.mem_of_getElem? (gx_some hk)
  refine ⟨Cnt s.length (fun k => ∀ j, j < k → p (gx s j) = false), Cnt.start (fun j hj => absurd hj (by omega)), ?_⟩
  rintro m _ ⟨k, rfl, rfl, hk, hinv⟩
  simp only [Int.toNat_natCast]
  refine ⟨fun hlt => ⟨by omega, hF _ _ (hm k (by omega)) ⟨fun h => ?_, fun h => Cnt.next (by omega) (by omega) fun j hj => ?_⟩⟩, fun hge => ?_⟩
  · rw [decide_eq_true (by omega)]; exact h2 _ (hm k (by omega)) h
  · by_cases e : j = k
    · subst e; simpa using h
    · exact hinv j (by omega)
  · rw [decide_eq_false (by omega)]
    refine h1 fun x hx => ?_
    obtain ⟨j, hj⟩ := List.getElem?_of_mem hx
    have hjl := (List.getElem?_eq_some_iff.1 hj).1
    have := hinv j (by omega)
    rw [gx_some hjl] at hj
    cases hj
    exact this
theorem p_l36_right {n : Int} {es : List E3} {l : List (List Int)} {R : Bool → Prop} (hl : l.length ≤ 1000) (h1 : (∀ d ∈ l, Right n es d) → R true) (h2 : R false) : pf_l36_right n es l R := by
  unfold pf_l36_right
  refine p_r34_Few ⟨fun q1 => p_r25_Joined (by have := small_len q1; omega) ⟨fun q2 => ?_, fun _ => h2⟩, fun _ => h2⟩
  refine p_slices_ContainsFunc_DivisorS (p := fun d => if checkF d n = 0 then !(lowF n d) else true) (by omega) (fun d R' hd hR' => ?_) (fun hall => ?_) (fun d hd hp => by simpa using h2)
  · unfold pf_l36_right_1
    refine p_r17_Check ⟨fun h => p_r34_Low ?_, fun h => ?_⟩
    · rwa [if_pos h] at hR'
    · rwa [if_neg h] at hR'
  · refine h1 fun d hd => ?_
    have := hall d hd
    split at this
    · rename_i c
      exact ⟨q1, q2, c, by simpa using this⟩
    · cases this
/-! ### The laws -/
theorem NeedyOk.len {n : Nat} {es : List E3} {d out : List Int} (h : NeedyOk n es d out) : out.length ≤ n := by
  obtain ⟨f, _, rfl⟩ := h
  exact filt_len f n
theorem Right.given0 {n : Int} {es : List E3} {d : List Int} (h : Right n es d) : givenF n es 0 d = 0 := h.given ⟨by omega, by have := h.graph; omega⟩
end Go.Proofs.Ytbehbjfcenlaeaa

/- Laws of layer 36: what an answer proves, equivalent divisors. -/
namespace Go.Proofs.Ytbehbjfcenlaeaa
open Go
set_option linter.unusedVariables false
set_option linter.unusedSimpArgs false

/-- A script leads to what it leads to. -/
theorem app_eq {n : Nat} {es : List E3} {d r s : List Int} (hrl : r.length = n) (h : ∀ v, v < n → gi r v = gi d v - Lp n es (gi s) v) : appF n es d s = r := (eq_tab hrl _ h).symm
end Go.Proofs.Ytbehbjfcenlaeaa

/- Laws of layer 36: sums, and all effective divisors of a degree. -/
namespace Go.Proofs.Ytbehbjfcenlaeaa
open Go
set_option linter.unusedVariables false
set_option linter.unusedSimpArgs false

theorem dg_win {n : Nat} {es : List E3} {d : List Int} (hd : d.length = n) (h : dg d < 0) : ¬ Win n es d := fun q => by have := win_dg hd q; omega
theorem p_efffinds {n : Int} {es : List E3} {d : List Int} : pf_l36_EffectiveFinds n es d (fun r => r = true) := by
  unfold pf_l36_EffectiveFinds
  have T : Right n es d → ∀ {P : Int → Prop}, P (dg d) → pf_r17_Total d P := fun hR P h => by
    have hgr := hR.graph
    obtain ⟨n, rfl⟩ : ∃ n' : Nat, n = (n' : Int) := ⟨n.toNat, by omega⟩
    obtain ⟨hdl, hdb⟩ := hR.nat
    exact p_r17_Total (by omega) (fun i hi => by have := hdb i (by omega); omega) h
  refine ⟨Right n es d ∧ dg d ≤ 4 ∧ n ≤ 4, fun ⟨hR, hd4, hn4⟩ => ?_, p_l36_right (by simp) (fun hR => ⟨fun _ => p_r08_small ⟨fun _ => T (hR d (by simp)) ⟨fun _ => p_l36_awake rfl, fun h1 => ⟨fun _ => p_l36_awake rfl, fun h2 => ⟨hR d (by simp), by omega, by omega⟩⟩⟩, fun _ => p_l36_awake rfl⟩, fun h => absurd rfl h⟩) ⟨fun h => (by cases h), fun _ => p_l36_awake rfl⟩⟩
  have T2 : ∀ {P : Int → Prop}, P (dg d) → pf_r17_Total d P := fun h => T hR h
  obtain ⟨hg, hc, hel, hn1, hn6⟩ := hR.graph
  have hS := small_of hR.few hR.low
  have h0 := hR.given0
  obtain ⟨n, rfl⟩ : ∃ n' : Nat, n = ((n' + 1 : Nat) : Int) := ⟨n.toNat - 1, by omega⟩
  obtain ⟨hdl, hdb⟩ := hR.nat
  obtain ⟨hE, -, hn12⟩ := gcheck_ok hg
  refine p_effective_Winnable (.inl hS) (by omega) (fun h => absurd h0 h) (fun _ r s hr b hb => ⟨fun _ => T2 ⟨fun hneg => ⟨fun hbt => absurd (hb.1 hbt) (by simpa using dg_win hdl hneg), fun _ => p_l36_awake rfl⟩, fun hneg => T2 ?_⟩, fun h => absurd rfl h⟩)
  simp only [Int.toNat_natCast] at hb
  obtain ⟨k, hk⟩ : ∃ k : Nat, dg d = (k : Int) := ⟨(dg d).toNat, by omega⟩
  rw [hk]
  have hLl : (listF (n + 1) k).length ≤ 1000 := by
    have h1 := listF_length n k
    have h2 : (k + 1) ^ n ≤ 5 ^ n := Nat.pow_le_pow_left (by omega) n
    have h3 : 5 ^ n ≤ 5 ^ 3 := Nat.pow_le_pow_right (by omega) (by omega)
    omega
  refine p_r17_Listed (by omega) (by omega) (by omega) ?_
  generalize hL : listF (n + 1) k = L at hLl
  refine ⟨Cnt L.length (fun j => ∀ i, i < j → ∀ t : Nat → Int, ¬ ∀ v, v < n + 1 → gi (gx L i) v = gi d v - Lp (n + 1) es t v), Cnt.start (fun i hi => absurd hi (by omega)), ?_⟩
  rintro m _ ⟨j, rfl, rfl, hj, hinv⟩
  simp only [Int.toNat_natCast]
  refine ⟨fun hlt => ⟨by omega, ?_⟩, fun hge => ⟨fun hbt => ?_, fun _ => p_l36_awake rfl⟩⟩
  · have hjl : j < L.length := by omega
    have hmem : gx L j ∈ listF (n + 1) k := by rw [hL]; exact List.mem_of_getElem? (gx_some hjl)
    obtain ⟨m1, m2, m3⟩ := (listF_mem n k _).1 hmem
    have hxb : ∀ v, v < n + 1 → 0 ≤ gi (gx L j) v ∧ gi (gx L j) v ≤ 4 := fun v hv => by have := dg_entry m2 (j := v) (by omega); omega
    have hxc : checkF (gx L j) ((n + 1 : Nat) : Int) = 0 := checkF_of m1 (by omega) (by omega) fun v hv => by have := hxb v hv; omega
    have gx0 : givenF ((n + 1 : Nat) : Int) es 0 (gx L j) = 0 := by
      obtain ⟨k1, k2, k3, k4, -⟩ := givenF_ok h0
      unfold givenF; rw [if_pos k1, if_pos k2, if_pos ⟨k3, k4⟩, hxc]
    have hSx : Small ((n + 1 : Nat) : Int) es (gx L j) := ⟨hel, hS.g, fun _ v hv => by have := hxb v (by omega); omega⟩
    refine p_equivalence_Equivalent hS hSx h0 gx0 (fun u hul hu huc => ⟨fun _ => ⟨fun _ => ⟨fun _ => ?_, fun hbn => ?_⟩, fun h => absurd rfl h⟩, fun h => absurd rfl h⟩) (fun hno => ⟨fun _ => ⟨fun h => (by cases h), fun _ => Cnt.next hjl (by omega) fun i hi => ?_⟩, fun h => absurd rfl h⟩)
    · refine p_effective_VerifyWin (by omega) (by omega) ⟨fun _ => p_l36_awake rfl, fun h => absurd ?_ h⟩
      unfold winE
      rw [if_pos h0, if_pos huc, Int.toNat_natCast, app_eq m1 hu, if_pos]
      rw [paidF_iff]
      exact fun v hv => (hxb v (by omega)).1
    · exact absurd (hb.2 ⟨gi u, fun v hv => by rw [← hu v hv]; exact (hxb v hv).1⟩) hbn
    · by_cases e : i = j
      · rw [e]; exact hno
      · exact hinv i (by omega)
  · exfalso
    obtain ⟨t, ht⟩ := hb.1 hbt
    have hyl : (tab (fun v => gi d v - Lp (n + 1) es t v) (n + 1)).length = n + 1 := tab_length _ _
    have hyg : ∀ v, v < n + 1 → gi (tab (fun v => gi d v - Lp (n + 1) es t v) (n + 1)) v = gi d v - Lp (n + 1) es t v := fun v hv => gi_tab _ hv
    generalize tab (fun v => gi d v - Lp (n + 1) es t v) (n + 1) = y at hyl hyg
    have hmem : y ∈ listF (n + 1) k := by
      refine (listF_mem n k y).2 ⟨hyl, fun a ha => ?_, ?_⟩
      · obtain ⟨i, hi⟩ := List.getElem?_of_mem ha
        have hil := (List.getElem?_eq_some_iff.1 hi).1
        rw [gi_some hil] at hi
        cases hi
        rw [hyg i (by omega)]
        exact ht i (by omega)
      · rw [sum_dg, dg_lp hyl hdl hyg, hk]
    rw [hL] at hmem
    obtain ⟨i, hi⟩ := List.getElem?_of_mem hmem
    have hil := (List.getElem?_eq_some_iff.1 hi).1
    rw [gx_some hil] at hi
    cases hi
    exact hinv i (by omega) t hyg
end Go.Proofs.Ytbehbjfcenlaeaa
