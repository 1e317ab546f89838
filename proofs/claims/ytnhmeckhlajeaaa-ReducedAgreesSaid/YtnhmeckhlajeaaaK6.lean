/- Texts laid together: Cnt, SpA, SpB, SpC, SpE, SpG, SpI, L34, SpT, Ver, L34R, AgrP, Opn. -/
import Derived.Test.YtnhmeckhlajeaaaRows
import Derived.ProofKit
import Derived.Lib.SmallJoins
import Derived.Deep.Slices
import Derived.Below
import Derived.OpenShut
import Derived.Test.YtnhmeckhlajeaaaK5
/- Words for proofs from pure forms: loops that count up, lists that are filled from the left. No program in sight. -/
namespace Go.Proofs.Ytnhmeckhlajeaaa
open Go
set_option linter.unusedVariables false

/-- A loop that counts up to N: P holds at each count. -/
def Cnt (N : Nat) (P : Nat → Prop) (m : Nat) (v : Int) : Prop := ∃ k : Nat, m = N - k ∧ v = (k : Int) ∧ k ≤ N ∧ P k
theorem Cnt.start {N : Nat} {P : Nat → Prop} (h : P 0) : ∃ m0, Cnt N P m0 0 := ⟨N, 0, rfl, rfl, Nat.zero_le _, h⟩
theorem Cnt.next {N : Nat} {P : Nat → Prop} {k : Nat} (hk : k < N) (hN : N ≤ 1000000000000) (h : P (k + 1)) : In64 ((k : Int) + 1) ∧ ∃ m', m' < N - k ∧ Cnt N P m' ((k : Int) + 1) :=
  ⟨⟨by omega, by omega⟩, N - (k + 1), by omega, k + 1, rfl, by omega, by omega, h⟩
theorem Cnt.next' {N : Nat} {P : Nat → Prop} {k : Nat} (hk : k < N) (h : P (k + 1)) : ∃ m', m' < N - k ∧ Cnt N P m' ((k : Int) + 1) :=
  ⟨N - (k + 1), by omega, k + 1, rfl, by omega, by omega, h⟩
theorem Cnt.in {N k : Nat} (hk : k < N) (hN : N ≤ 1000000000000) : In64 ((k : Int) + 1) := ⟨by omega, by omega⟩

theorem i64 {a : Int} (h : -9000000000000000000 ≤ a ∧ a ≤ 9000000000000000000) : In64 a := ⟨by omega, by omega⟩
theorem rep_len {τ : Type} (n : Nat) (x : τ) : (List.replicate n x).length = n := List.length_replicate

/-- The list of f's values whose first k places are filled. -/
def upto (f : Nat → Int) (k n : Nat) : List Int := (List.range n).map fun i => if i < k then f i else 0
theorem upto_length (f : Nat → Int) (k n : Nat) : (upto f k n).length = n := by simp [upto]
theorem gi_upto (f : Nat → Int) (k n i : Nat) (hi : i < n) : gi (upto f k n) i = if i < k then f i else 0 := by
  rw [gi_of_lt (by rw [upto_length]; exact hi)]; simp [upto]
theorem upto_zero (f : Nat → Int) (n : Nat) : upto f 0 n = List.replicate n 0 := by
  refine List.ext_getElem (by simp [upto_length]) fun i h1 h2 => ?_
  simp [upto]
theorem upto_set (f : Nat → Int) {k n : Nat} (hk : k < n) : (upto f k n).set k (f k) = upto f (k + 1) n := by
  refine gi_ext (by simp [upto_length]) fun i hi => ?_
  rw [List.length_set, upto_length] at hi
  rw [gi_set (by rw [upto_length]; exact hk), gi_upto _ _ _ _ hi, gi_upto _ _ _ _ hi]
  by_cases e : i = k
  · subst e; simp
  · rw [if_neg e]
    by_cases h : i < k
    · rw [if_pos h, if_pos (by omega)]
    · rw [if_neg h, if_neg (by omega)]
/-- The list of f's first n values. -/
def tab (f : Nat → Int) (n : Nat) : List Int := (List.range n).map f
theorem tab_length (f : Nat → Int) (n : Nat) : (tab f n).length = n := by simp [tab]
theorem gi_tab (f : Nat → Int) {n i : Nat} (hi : i < n) : gi (tab f n) i = f i := by rw [gi_of_lt (by rw [tab_length]; exact hi)]; simp [tab]
theorem upto_all (f : Nat → Int) (n : Nat) : upto f n n = tab f n := by
  refine gi_ext (by simp [upto_length, tab_length]) fun i hi => ?_
  rw [upto_length] at hi
  rw [gi_upto _ _ _ _ hi, if_pos hi, gi_tab _ hi]
theorem tab_congr {f g : Nat → Int} {n : Nat} (h : ∀ i, i < n → f i = g i) : tab f n = tab g n := by
  refine gi_ext (by simp [tab_length]) fun i hi => ?_
  rw [tab_length] at hi
  rw [gi_tab _ hi, gi_tab _ hi, h i hi]
theorem tab_self {l : List Int} : tab (gi l) l.length = l := by
  refine gi_ext (by simp [tab_length]) fun i hi => ?_
  rw [tab_length] at hi
  rw [gi_tab _ hi]
theorem eq_tab {l : List Int} {n : Nat} (hl : l.length = n) (f : Nat → Int) (h : ∀ i, i < n → gi l i = f i) : l = tab f n := by
  subst hl
  refine gi_ext (by simp [tab_length]) fun i hi => ?_
  rw [h i hi, gi_tab _ hi]

theorem sm_bound {f : Nat → Int} {B : Int} (hB : 0 ≤ B) : ∀ {n : Nat}, (∀ i, i < n → -B ≤ f i ∧ f i ≤ B) → -(n * B) ≤ sm n f ∧ sm n f ≤ n * B
  | 0, _ => by simp [sm]
  | n + 1, h => by
    have ih := sm_bound hB (n := n) fun i hi => h i (by omega)
    have := h n (by omega)
    rw [sm, show ((n + 1 : Nat) : Int) * B = n * B + B by rw [Int.natCast_add, Int.add_mul]; simp]
    omega
/-- The degree. -/
def dg (d : List Int) : Int := sm d.length (gi d)
end Go.Proofs.Ytnhmeckhlajeaaa

/- What the references' pure forms come to: graphs and divisors. -/
namespace Go.Proofs.Ytnhmeckhlajeaaa
open Go
set_option linter.unusedVariables false
set_option linter.unusedSimpArgs false

theorem p_r17_In {k : Int} {R : Bool → Prop} (h : R (inF k)) : pf_r17_In k R := by
  unfold pf_r17_In
  refine ⟨fun h1 => ?_, fun h1 => ?_⟩
  · have e : decide (k ≤ 1048576) = inF k := by unfold inF; simp [h1]
    rw [e]; exact h
  · have e : false = inF k := by unfold inF; simp [h1]
    rw [e]; exact h
theorem p_r08_Vertex {n v : Int} {es : List E3} {R : Bool → Prop} (h : R (decide (0 ≤ v ∧ v < n))) : pf_r08_Vertex n es v R := by
  unfold pf_r08_Vertex
  refine ⟨fun h1 => ?_, fun h1 => ?_⟩
  · have e : decide (v < n) = decide (0 ≤ v ∧ v < n) := by simp [h1]
    rw [e]; exact h
  · have e : false = decide (0 ≤ v ∧ v < n) := by simp [h1]
    rw [e]; exact h
theorem p_r17_Check {d : List Int} {n : Int} {R : Int → Prop} (h : R (checkF d n)) : pf_r17_Check d n R := by
  unfold pf_r17_Check
  have hout : ¬ (1 ≤ n ∧ n ≤ 12) → R 2 := fun q => by
    have : checkF d n = 2 := by unfold checkF vertsF; rw [if_neg q, if_neg (by omega)]
    rwa [this] at h
  refine ⟨1 ≤ n ∧ n ≤ 12, fun hn => ?_, fun q => hout (by omega), fun q => ⟨fun q2 => hout (by omega), fun q2 => ⟨by omega, by omega⟩⟩⟩
  have hc : checkF d n = if (d.length : Int) = n then (if d.all inF then 0 else 2) else 8 := by unfold checkF; rw [if_pos (by unfold vertsF; rw [if_pos hn])]
  rw [hc] at h
  refine ⟨fun hln => ?_, fun hln => by rwa [if_neg hln] at h⟩
  rw [if_pos hln] at h
  refine ⟨Cnt d.length (fun k => ∀ j, j < k → inF (gi d j) = true), Cnt.start (fun j hj => absurd hj (by omega)), ?_⟩
  rintro m _ ⟨k, rfl, rfl, hk, hinv⟩
  refine ⟨fun hlt => ⟨by omega, p_r17_In ⟨fun h1 => Cnt.next (by omega) (by omega) fun j hj => ?_, fun h1 => ?_⟩⟩, fun hge => ?_⟩
  · by_cases e : j = k
    · subst e; simpa using h1
    · exact hinv j (by omega)
  · rw [if_neg (fun hall => h1 ((all_iff_gi inF d).1 hall _ (by omega)))] at h; exact h
  · rw [if_pos ((all_iff_gi inF d).2 fun j hj => hinv j (by omega))] at h; exact h
/-- Nothing is negative. -/
def paidF (d : List Int) : Bool := (List.range d.length).all fun v => decide (0 ≤ gi d v)
theorem paidF_iff {d : List Int} : paidF d = true ↔ ∀ v, v < d.length → 0 ≤ gi d v := by simp [paidF]
theorem p_r08_edge {n : Int} {es : List E3} {k : Nat} {R : Int → Prop} (hk : k < es.length) (hl : es.length ≤ 1000000000) (h : R (edgeF n (pre es k).1 (pre es k).2 (ge es k))) : pf_r08_edge n es (k : Int) R := by
  unfold pf_r08_edge
  simp only [Int.toNat_natCast]
  generalize hx : ge es k = x at h ⊢
  refine ⟨by omega, (0 ≤ x.1 ∧ x.1 < n) ∧ (0 ≤ x.2.1 ∧ x.2.1 < n) ∧ 1 ≤ x.2.2 ∧ x.2.2 ≤ 50, fun hJ => ?_, ?_⟩
  · have hed : ∀ a b, edgeF n a b x = if x.1 ≤ x.2.1 ∧ pcmpF a b x.1 x.2.1 < 0 then 0 else 9 := fun a b => by unfold edgeF; rw [if_pos hJ]
    rw [hed] at h
    refine ⟨fun q => by rw [if_neg (by omega)] at h; exact h, fun q => ⟨fun h0 => ?_, fun h0 => ?_⟩⟩
    · have e1 : ((k : Int) - 1).toNat = k - 1 := by omega
      rw [e1]
      have hp : pre es k = ((ge es (k - 1)).1, (ge es (k - 1)).2.1) := by unfold pre; rw [if_neg (by omega)]
      rw [hp] at h
      have hc := pcmp_lt (ge es (k - 1)).1 (ge es (k - 1)).2.1 x.1 x.2.1
      refine ⟨i64 (by omega), by omega, fun q1 => ?_, fun q1 => ⟨fun q2 => ⟨fun q3 => ?_, fun q3 => ?_⟩, fun q2 => ?_⟩⟩
      · rw [if_neg (fun h => by have := hc.1 h.2; omega)] at h; exact h
      · rw [if_neg (fun h => by have := hc.1 h.2; omega)] at h; exact h
      · rw [if_pos ⟨by omega, hc.2 (by omega)⟩] at h; exact h
      · rw [if_pos ⟨by omega, hc.2 (by omega)⟩] at h; exact h
    · have hp : pre es k = (-1, -1) := by unfold pre; rw [if_pos (by omega)]
      rw [hp, if_pos ⟨by omega, (pcmp_lt _ _ _ _).2 (.inl (by omega))⟩] at h
      exact h
  · have hed : ¬ ((0 ≤ x.1 ∧ x.1 < n) ∧ (0 ≤ x.2.1 ∧ x.2.1 < n) ∧ 1 ≤ x.2.2 ∧ x.2.2 ≤ 50) → R 2 := fun q => by unfold edgeF at h; rwa [if_neg q] at h
    refine p_r08_Vertex ⟨fun h1 => p_r08_Vertex ⟨fun h2 => ⟨fun h3 => hed (by omega), fun h3 => ⟨fun h4 => hed (by omega), fun h4 => ?_⟩⟩, fun h2 => hed (by simp at h2; omega)⟩, fun h1 => hed (by simp at h1; omega)⟩
    simp only [decide_eq_true_eq] at h1 h2
    exact ⟨h1, h2, by omega, by omega⟩
theorem p_r08_Check {n : Int} {es : List E3} {R : Int → Prop} (hl : es.length ≤ 1000000000) (h : R (gcheckF n es)) : pf_r08_Check n es R := by
  unfold pf_r08_Check
  have hout : ¬ (1 ≤ n ∧ n ≤ 12) → R 2 := fun q => by unfold gcheckF at h; rwa [if_neg q] at h
  refine ⟨1 ≤ n ∧ n ≤ 12, fun hn => ?_, fun q => hout (by omega), fun q => ⟨fun q2 => hout (by omega), fun q2 => ⟨by omega, by omega⟩⟩⟩
  have hg : gcheckF n es = gchk n (-1) (-1) es := by unfold gcheckF; rw [if_pos hn]
  rw [hg] at h
  refine ⟨Cnt es.length (fun k => gchk n (-1) (-1) es = gchk n (pre es k).1 (pre es k).2 (es.drop k)), Cnt.start rfl, ?_⟩
  rintro m _ ⟨k, rfl, rfl, hk, hinv⟩
  refine ⟨fun hlt => p_r08_edge (by omega) hl ⟨fun h0 => Cnt.next (by omega) (by omega) ?_, fun h0 => ?_⟩, fun hge => ?_⟩
  · rw [ge_drop (by omega), gchk_cons, if_pos h0] at hinv
    rw [hinv]; simp [pre]
  · rw [ge_drop (by omega), gchk_cons, if_neg h0] at hinv
    rwa [hinv] at h
  · have hk2 : k = es.length := by omega
    rw [hinv, hk2, List.drop_length] at h
    exact h
theorem p_r08_Between' {n : Int} {es : List E3} {a b : Int} {R : Int → Prop} (hl : es.length ≤ 1000000000) (h : R (((es.find? fun x => decide (x.1 = mnF a b ∧ x.2.1 = mxF a b)).map (·.2.2)).getD 0)) : pf_r08_Between n es a b R := by
  unfold pf_r08_Between
  refine ⟨Cnt es.length (fun k => es.find? (fun x => decide (x.1 = mnF a b ∧ x.2.1 = mxF a b)) = (es.drop k).find? (fun x => decide (x.1 = mnF a b ∧ x.2.1 = mxF a b))), Cnt.start rfl, ?_⟩
  rintro m _ ⟨k, rfl, rfl, hk, hinv⟩
  refine ⟨fun hlt => ?_, fun hge => ?_⟩
  · have hlt : k < es.length := by omega
    rw [ge_drop hlt, List.find?_cons] at hinv
    simp only [Int.toNat_natCast]
    refine ⟨by omega, fun h1 => ⟨fun h2 => ?_, fun h2 => Cnt.next hlt (by omega) ?_⟩, fun h1 => Cnt.next hlt (by omega) ?_⟩
    · rw [hinv] at h; simpa [h1, h2] using h
    · rw [hinv]; simp [h2]
    · rw [hinv]; simp [h1]
  · have hk2 : k = es.length := by omega
    rw [hinv, hk2, List.drop_length] at h
    exact h
/-- The edges of a right graph are few. -/
theorem W_le50 {n : Int} {es : List E3} (hg : gcheckF n es = 0) (u v : Nat) : 0 ≤ W es u v ∧ W es u v ≤ 50 := by
  by_cases e : u = v
  · subst e; rw [W_self]; omega
  · have hok := gchk_ok es _ _ (gcheck_gchk hg)
    rw [← between_W u v e es (-1) (-1) (gcheck_gchk hg)]
    cases hf : es.find? fun x => decide (x.1 = mnF (u : Int) v ∧ x.2.1 = mxF (u : Int) v) with
    | none => simp
    | some x => have := hok x (List.mem_of_find?_eq_some hf); simp; omega
theorem p_r08_Between {n : Int} {es : List E3} {u v : Nat} {R : Int → Prop} (hl : es.length ≤ 1000000000) (hg : gcheckF n es = 0) (huv : u ≠ v) (h : R (W es u v)) : pf_r08_Between n es (u : Int) (v : Int) R :=
  p_r08_Between' hl (by rw [between_W u v huv es (-1) (-1) (gcheck_gchk hg)]; exact h)
theorem deg_bound {n : Int} {es : List E3} (hg : gcheckF n es = 0) (k v : Nat) : 0 ≤ sm k (fun u => W es v u) ∧ sm k (fun u => W es v u) ≤ k * 50 :=
  ⟨sm_nonneg fun i _ => (W_le50 hg v i).1, (sm_bound (f := fun u => W es v u) (B := 50) (by omega) fun i _ => by have := W_le50 hg v i; omega).2⟩
/-- The ends of all single edges. -/
def endsF (es : List E3) : List (Int × Int) := es.flatMap fun x => List.replicate x.2.2.toNat (x.1, x.2.1)
theorem endsF_take {es : List E3} {k : Nat} (hk : k < es.length) : endsF (es.take (k + 1)) = endsF (es.take k) ++ List.replicate (ge es k).2.2.toNat ((ge es k).1, (ge es k).2.1) := by
  unfold endsF
  rw [List.take_add_one, List.getElem?_eq_getElem hk, ge_of_lt hk, List.flatMap_append]
  simp
theorem endsF_length (es : List E3) (hE : ∀ x ∈ es, 1 ≤ x.2.2 ∧ x.2.2 ≤ 50) : ((endsF es).length : Int) = (es.map (·.2.2)).sum ∧ (endsF es).length ≤ 50 * es.length := by
  induction es with
  | nil => simp [endsF]
  | cons x t ih =>
    have hx := hE x (by simp)
    have := ih fun y hy => hE y (by simp [hy])
    unfold endsF at this ⊢
    rw [List.flatMap_cons, List.length_append, List.length_replicate, List.map_cons, List.sum_cons, List.length_cons]
    omega
theorem p_r08_Ends {n : Int} {es : List E3} {R : List (Int × Int) → Prop} (hl : es.length ≤ 1000) (hE : ∀ x ∈ es, 1 ≤ x.2.2 ∧ x.2.2 ≤ 50) (h : R (endsF es)) : pf_r08_Ends n es R := by
  unfold pf_r08_Ends
  have hlen : ∀ k, (endsF (es.take k)).length ≤ 50 * k := fun k => by
    have := (endsF_length (es.take k) fun x hx => hE x (List.mem_of_mem_take hx)).2
    rw [List.length_take] at this
    omega
  refine ⟨fun m out i => Cnt es.length (fun k => out = endsF (es.take k)) m i, Cnt.start (by simp [endsF]), ?_⟩
  rintro m out _ ⟨k, rfl, rfl, hk, rfl⟩
  refine ⟨fun hlt => ?_, fun hge => ?_⟩
  · have hlt : k < es.length := by omega
    have hmk := hE _ (ge_mem hlt)
    have hl2 := hlen k
    simp only [Int.toNat_natCast]
    refine ⟨fun m2 out2 j => Cnt (ge es k).2.2.toNat (fun i => out2 = endsF (es.take k) ++ List.replicate i ((ge es k).1, (ge es k).2.1)) m2 j, Cnt.start (by simp), ?_⟩
    rintro m2 out2 _ ⟨j, rfl, rfl, hj, rfl⟩
    refine ⟨by omega, fun h1 => ⟨?_, Cnt.next (by omega) (by omega) ?_⟩, fun h1 => Cnt.next hlt (by omega) ?_⟩
    · rw [List.length_append, List.length_replicate]; omega
    · rw [List.append_assoc, List.replicate_succ']
    · have : j = (ge es k).2.2.toNat := by omega
      rw [endsF_take hlt, this]
  · have hk2 : k = es.length := by omega
    rw [hk2, List.take_length]; exact h
theorem p_r08_Size {n : Int} {es : List E3} {R : Int → Prop} (hl : es.length ≤ 1000) (hE : ∀ x ∈ es, 1 ≤ x.2.2 ∧ x.2.2 ≤ 50) (h : R ((es.map (·.2.2)).sum)) : pf_r08_Size n es R :=
  p_r08_Ends hl hE (by rw [(endsF_length es hE).1]; exact h)
theorem p_r08_small {n a b : Int} {es : List E3} {R : Bool → Prop} (h : R (smallF n es a b)) : pf_r08_small n es a b R := by
  unfold pf_r08_small
  unfold smallF at h
  refine ⟨fun h1 => ?_, fun h1 => p_r08_Check (by omega) ⟨fun h2 => ⟨fun h3 => ?_, fun h3 => ?_⟩, fun h2 => ?_⟩⟩
  · rwa [decide_eq_false (by omega)] at h
  · have hE := gchk_ok es _ _ (gcheck_gchk h2)
    refine p_r08_Size (by omega) (fun x hx => (hE x hx).2.2.2.2) ?_
    have e : decide ((es.map (·.2.2)).sum ≤ b) = decide (es.length ≤ 40 ∧ (gcheckF n es = 0 → n ≤ a ∧ (es.map (·.2.2)).sum ≤ b)) := by
      rw [decide_eq_decide]; constructor
      · intro q; exact ⟨by omega, fun _ => ⟨h3, q⟩⟩
      · intro q; exact (q.2 h2).2
    rw [e]; exact h
  · rwa [decide_eq_false (fun q => h3 (q.2 h2).1)] at h
  · rwa [decide_eq_true ⟨by omega, fun q => absurd q h2⟩] at h
theorem p_r34_Few {n : Int} {es : List E3} {R : Bool → Prop} (h : R (smallF n es 6 9)) : pf_r34_Few n es R := p_r08_small h
end Go.Proofs.Ytnhmeckhlajeaaa

/- What the references' pure forms come to: connectedness, errors, scripts. -/
namespace Go.Proofs.Ytnhmeckhlajeaaa
open Go
set_option linter.unusedVariables false
set_option linter.unusedSimpArgs false

section
variable {n : Nat} {es : List E3}
theorem p_r08_Reached {v : Nat} {R : List Bool → Prop} (hl : es.length ≤ 1000000000) (hg : gcheckF n es = 0) (hv : v < n) (h : ∀ o : List Bool, o.length = n → (∀ u, u < n → gb o u = decide (root (joinedF es) u = root (joinedF es) v)) → R o) : pf_r08_Reached (n : Int) es (v : Int) R := by
  obtain ⟨hE, hn1, hn12⟩ := gcheck_ok hg
  unfold pf_r08_Reached
  simp only [Int.toNat_natCast]
  refine ⟨by omega, by simp; omega, ?_⟩
  let Q : List Bool → Prop := fun o => o.length = n ∧ gb o v = true ∧ ∀ u, u < n → gb o u = true → root (joinedF es) u = root (joinedF es) v
  let Z : List Bool → List Bool → Prop := fun o0 o => (Cl n es o0 → o = o0) ∧ (o = o0 ∨ cf o < cf o0) ∧ ∀ a, gb o0 a = true → gb o a = true
  have hq4 : Q ((List.replicate n false).set v true) := by
    refine ⟨by simp, by rw [gb_set (by simpa using hv), if_pos rfl], fun u hu h => ?_⟩
    rw [gb_set (by simpa using hv)] at h
    split at h
    · rename_i e; rw [e]
    · rw [gb_rep] at h; cases h
  have hcf0 : cf ((List.replicate n false).set v true) + 1 = n := by
    rw [cf_set (by simpa using hv) (gb_rep n v)]
    unfold cf
    rw [List.filter_eq_self.2 (fun x hx => by rw [(List.mem_replicate.1 hx).2]; rfl)]
    simp
  have hsetQ : ∀ {o : List Bool} {b : Nat}, Q o → b < n → root (joinedF es) b = root (joinedF es) v → Q (o.set b true) := by
    rintro o b ⟨q1, q4, q5⟩ hb hr
    have hbl : b < o.length := by omega
    refine ⟨by simpa using q1, ?_, fun u hu h => ?_⟩
    · rw [gb_set hbl]; split <;> first | rfl | exact q4
    · rw [gb_set hbl] at h
      split at h
      · rename_i e; rw [e]; exact hr
      · exact q5 u hu h
  refine ⟨fun m i o => Cnt n (fun k => Q o ∧ (Cl n es o ∨ cf o + k + 1 ≤ n)) m i, Cnt.start ⟨hq4, .inr (by omega)⟩, ?_⟩
  rintro m _ o0 ⟨k, rfl, rfl, hk, hq5, hpr⟩
  refine ⟨fun hlt => ?_, fun hge => ?_⟩
  · refine ⟨fun m i o => Cnt n (fun a => Q o ∧ Z o0 o ∧ ∀ a', a' < a → gb o0 a' = true → ∀ b, b < n → 0 < W es a' b → gb o b = true) m i, Cnt.start ⟨hq5, ⟨fun _ => rfl, .inl rfl, fun _ h => h⟩, fun a' h => absurd h (by omega)⟩, ?_⟩
    rintro m _ o ⟨a, rfl, rfl, ha, hq6, hz, hdone⟩
    refine ⟨fun hlta => ?_, fun hgea => ?_⟩
    · refine ⟨fun m i o => Cnt n (fun b => Q o ∧ Z o0 o ∧ (∀ a', a' < a → gb o0 a' = true → ∀ b, b < n → 0 < W es a' b → gb o b = true) ∧ (gb o0 a = true → ∀ b', b' < b → 0 < W es a b' → gb o b' = true)) m i, Cnt.start ⟨hq6, hz, hdone, fun _ b' h => absurd h (by omega)⟩, ?_⟩
      clear hq6 hz hdone hq5
      rintro m _ o ⟨b, rfl, rfl, hb, hq7, hz, hdone, hnow⟩
      have hol := hq7.1
      refine ⟨fun hltb => ⟨by omega, fun hx => ?_, fun hx => Cnt.next (by omega) (by omega) ⟨hq7, hz, hdone, fun h => absurd (hz.2.2 a h) (by simpa using hx)⟩⟩, fun hgeb => ?_⟩
      · simp only [Int.toNat_natCast] at hx ⊢
        have hstep : (a ≠ b → 0 < W es a b) → Q (o.set b true) ∧ Z o0 (o.set b true) ∧ (∀ a', a' < a → gb o0 a' = true → ∀ b', b' < n → 0 < W es a' b' → gb (o.set b true) b' = true) ∧ (gb o0 a = true → ∀ b', b' < b + 1 → 0 < W es a b' → gb (o.set b true) b' = true) := by
          intro hW
          have hbl : b < o.length := by omega
          have hup : ∀ x, gb o x = true → gb (o.set b true) x = true := fun x h => by rw [gb_set hbl]; split <;> first | rfl | exact h
          have hrb : root (joinedF es) b = root (joinedF es) v := by
            have h1 := hq7.2.2 a (by omega) hx
            by_cases eab : a = b
            · rw [← eab]; exact h1
            · rw [← root_W hE hn1 hn12 (hW eab)]; exact h1
          refine ⟨hsetQ hq7 (by omega) hrb, ⟨fun hcl => ?_, ?_, fun x h => hup x (hz.2.2 x h)⟩, fun a' h1 h2 b' h3 h4 => hup _ (hdone a' h1 h2 b' h3 h4), fun h1 b' h2 h3 => ?_⟩
          · have e0 := hz.1 hcl
            subst e0
            refine set_same ?_
            by_cases eab : a = b
            · rw [← eab]; exact hx
            · exact hcl a b (by omega) (by omega) hx (hW eab)
          · cases hob : gb o b with
            | true => rw [set_same hob]; exact hz.2.1
            | false =>
              have := cf_set hbl hob
              rcases hz.2.1 with h | h
              · right; rw [← h]; omega
              · right; omega
          · by_cases e2 : b' = b
            · subst e2; rw [gb_set hbl, if_pos rfl]
            · exact hup _ (hnow h1 b' (by omega) h3)
        have hpass : ¬ 0 < W es a b → (gb o0 a = true → ∀ b', b' < b + 1 → 0 < W es a b' → gb o b' = true) := fun h h1 b' h2 h3 => by
          by_cases e2 : b' = b
          · subst e2; exact absurd h3 h
          · exact hnow h1 b' (by omega) h3
        by_cases eab : a = b
        · subst eab
          refine p_r08_Between' hl ⟨fun h => ⟨by omega, Cnt.next (by omega) (by omega) (hstep fun h => absurd rfl h)⟩, fun h => Cnt.next (by omega) (by omega) ⟨hq7, hz, hdone, hpass (by rw [show W es a a = 0 from W_self es a]; omega)⟩⟩
        · refine p_r08_Between hl hg eab ⟨fun h => ⟨by omega, Cnt.next (by omega) (by omega) (hstep fun _ => h)⟩, fun h => Cnt.next (by omega) (by omega) ⟨hq7, hz, hdone, hpass h⟩⟩
      · have hbn : b = n := by omega
        subst hbn
        refine Cnt.next (by omega) (by omega) ⟨hq7, hz, fun a' h1 h2 b' h3 h4 => ?_⟩
        by_cases e2 : a' = a
        · subst e2; exact hnow h2 b' h3 h4
        · exact hdone a' (by omega) h2 b' h3 h4
    · have han : a = n := by omega
      subst han
      refine Cnt.next (by omega) (by omega) ⟨hq6, ?_⟩
      by_cases hcl : Cl a es o0
      · rw [hz.1 hcl]; exact .inl hcl
      · rcases hz.2.1 with h | h
        · exfalso
          subst h
          exact hcl fun x y hx hy h1 h2 => hdone x hx h1 y hy h2
        · rcases hpr with h2 | h2
          · exact absurd h2 hcl
          · right; omega
  · have hkn : k = n := by omega
    subst hkn
    rcases hpr with q | q
    · exact h o0 hq5.1 (cl_root hE hn1 hn12 q hv hq5.2.1 hq5.2.2)
    · omega
theorem p_r08_Parts {R : Int → Prop} (hl : es.length ≤ 1000000000) (hg : gcheckF n es = 0) (h : ∀ k : Int, (k = 1 ↔ connF n es = true) → R k) : pf_r08_Parts (n : Int) es R := by
  obtain ⟨hE, hn1, hn12⟩ := gcheck_ok hg
  have hcr := conn_root hE hn1 hn12
  unfold pf_r08_Parts
  simp only [Int.toNat_natCast]
  refine ⟨by omega, ?_⟩
  refine ⟨fun m k i o => Cnt n (fun v => 0 ≤ k ∧ k ≤ v ∧ (v = 0 → k = 0) ∧ (0 < v → 1 ≤ k ∧ (k = 1 ↔ ∀ x, x < v → root (joinedF es) x = root (joinedF es) 0)) ∧ o.length = n ∧ (∀ u, u < n → (gb o u = true ↔ ∃ x, x < v ∧ root (joinedF es) u = root (joinedF es) x))) m i,
    Cnt.start ⟨by omega, by omega, fun _ => rfl, fun h => absurd h (by omega), by simp, fun u _ => by rw [gb_rep]; simp⟩, ?_⟩
  rintro m k _ o ⟨v, rfl, rfl, hv, k0, k1, k2, k3, hol, hseen⟩
  refine ⟨fun hlt => ?_, fun hge => ?_⟩
  · have hlt : v < n := by omega
    simp only [Int.toNat_natCast]
    refine ⟨by omega, fun hx => ?_, fun hx => ⟨i64 (by omega), p_r08_Reached hl hg hlt fun ro hrl hro => ?_⟩⟩
    · obtain ⟨x, hxv, hxr⟩ := (hseen v hlt).1 hx
      refine Cnt.next hlt (by omega) ⟨k0, by omega, fun h => absurd h (by omega), fun _ => ?_, hol, fun u hu => ?_⟩
      · have h3 := k3 (by omega)
        refine ⟨h3.1, ?_⟩
        rw [h3.2]
        constructor
        · intro h y hy
          by_cases e : y = v
          · subst e; rw [hxr]; exact h x hxv
          · exact h y (by omega)
        · intro h y hy; exact h y (by omega)
      · rw [hseen u hu]
        constructor
        · rintro ⟨y, hy, hyr⟩; exact ⟨y, by omega, hyr⟩
        · rintro ⟨y, hy, hyr⟩
          by_cases e : y = v
          · subst e; exact ⟨x, hxv, hyr.trans hxr⟩
          · exact ⟨y, by omega, hyr⟩
    · refine ⟨fun m i o' => Cnt n (fun u => o'.length = n ∧ (∀ x, x < n → (gb o' x = true ↔ (gb o x = true ∨ (x < u ∧ gb ro x = true))))) m i, Cnt.start ⟨hol, fun x _ => by simp⟩, ?_⟩
      rintro m _ o' ⟨u, rfl, rfl, hu, hol', hor⟩
      refine ⟨fun hltu => ?_, fun hgeu => ?_⟩
      · have hltu : u < n := by omega
        simp only [Int.toNat_natCast]
        have hou := hor u hltu
        have st : ∀ b : Bool, (b = true ↔ (gb o u = true ∨ gb ro u = true)) → (o'.set u b).length = n ∧ (∀ x, x < n → (gb (o'.set u b) x = true ↔ (gb o x = true ∨ (x < u + 1 ∧ gb ro x = true)))) := fun b hbb => by
          refine ⟨by simpa using hol', fun x hx => ?_⟩
          rw [gb_set (by omega)]
          by_cases e : x = u
          · subst e
            rw [if_pos rfl, hbb]
            constructor
            · rintro (h | h)
              · exact .inl h
              · exact .inr ⟨by omega, h⟩
            · rintro (h | h)
              · exact .inl h
              · exact .inr h.2
          · rw [if_neg e, hor x hx]
            constructor
            · rintro (h | h)
              · exact .inl h
              · exact .inr ⟨by omega, h.2⟩
            · rintro (h | h)
              · exact .inl h
              · exact .inr ⟨by omega, h.2⟩
        refine ⟨by omega, fun hx2 => Cnt.next hltu (by omega) (st true ?_), fun hx2 => ⟨by omega, Cnt.next hltu (by omega) (st _ ?_)⟩⟩
        · have := hou.1 hx2
          constructor
          · intro _; rcases this with h | h
            · exact .inl h
            · exact .inr h.2
          · intro _; rfl
        · constructor
          · intro h; exact .inr h
          · rintro (h | h)
            · exact absurd (hou.2 (.inl h)) hx2
            · exact h
      · have hun : u = n := by omega
        subst hun
        have hnew : ¬ ∃ x, x < v ∧ root (joinedF es) v = root (joinedF es) x := fun h => hx ((hseen v hlt).2 h)
        refine Cnt.next (by omega) (by omega) ⟨by omega, by omega, fun h => absurd h (by omega), fun _ => ⟨by omega, ?_⟩, hol', fun x hxn => ?_⟩
        · by_cases e0 : v = 0
          · subst e0
            have := k2 rfl
            subst this
            constructor
            · intro _ y hy; rw [show y = 0 by omega]
            · intro _; rfl
          · have h3 := k3 (by omega)
            constructor
            · intro h; omega
            · intro h; exact absurd ⟨0, by omega, h v (by omega)⟩ hnew
        · rw [hor x hxn, hseen x hxn, hro x hxn, decide_eq_true_eq]
          constructor
          · rintro (⟨y, hy, hyr⟩ | h)
            · exact ⟨y, by omega, hyr⟩
            · exact ⟨v, by omega, h.2⟩
          · rintro ⟨y, hy, hyr⟩
            by_cases e : y = v
            · subst e; exact .inr ⟨hxn, hyr⟩
            · exact .inl ⟨y, by omega, hyr⟩
  · have hvn : v = n := by omega
    subst hvn
    refine h k ?_
    rw [(k3 (by omega)).2, hcr]
theorem p_r08_Connected {R : Bool → Prop} (hl : es.length ≤ 1000000000) (hg : gcheckF n es = 0) (h : R (connF n es)) : pf_r08_Connected (n : Int) es R :=
  p_r08_Parts hl hg fun k hk => by
    have e : decide (k = 1) = connF n es := by rw [Bool.eq_iff_iff, decide_eq_true_eq]; exact hk
    rw [e]; exact h
end
section
variable {n q : Int} {es : List E3} {d s : List Int}
theorem p_r25_Joined {R : Int → Prop} (hl : es.length ≤ 1000000000) (h : R (joinedE n es)) : pf_r25_Joined n es R := by
  unfold pf_r25_Joined
  unfold joinedE at h
  refine p_r08_Check hl ⟨fun h0 => ?_, fun h0 => by rwa [if_neg h0] at h⟩
  rw [if_pos h0] at h
  have hn : 1 ≤ n ∧ n ≤ 12 := by
    unfold gcheckF at h0
    split at h0
    · assumption
    · omega
  obtain ⟨n, rfl⟩ : ∃ n' : Nat, n = (n' : Int) := ⟨n.toNat, by omega⟩
  exact p_r08_Connected hl h0 ⟨fun h1 => by rwa [if_pos h1] at h, fun h1 => by rwa [if_neg h1] at h⟩
def sinkE (n : Int) (es : List E3) (q : Int) : Int := if joinedE n es = 0 then (if 0 ≤ q ∧ q < n then 0 else 2) else joinedE n es
theorem given_sink : givenF n es q d = if sinkE n es q = 0 then checkF d n else sinkE n es q := by
  unfold givenF sinkE joinedE
  by_cases h1 : gcheckF n es = 0
  · rw [if_pos h1, if_pos h1]
    by_cases h2 : connF n es = true
    · rw [if_pos h2, if_pos h2, if_pos rfl]
      by_cases h3 : 0 ≤ q ∧ q < n
      · rw [if_pos h3, if_pos h3, if_pos rfl]
      · rw [if_neg h3, if_neg h3, if_neg (by omega)]
    · rw [if_neg h2, if_neg h2, if_neg (by omega), if_neg (by omega)]
  · rw [if_neg h1, if_neg h1, if_neg h1, if_neg h1]
/-- Few chips, or an error. -/
def lowF (n : Int) (d : List Int) : Bool := decide (d.length ≤ 100 ∧ (checkF d n = 0 → ∀ j, j < d.length → -100 ≤ gi d j ∧ gi d j ≤ 100))
theorem lowF_iff : lowF n d = true ↔ d.length ≤ 100 ∧ (checkF d n = 0 → ∀ j, j < d.length → -100 ≤ gi d j ∧ gi d j ≤ 100) := by unfold lowF; exact decide_eq_true_iff
theorem p_r34_Low {R : Bool → Prop} (h : R (lowF n d)) : pf_r34_Low n es d R := by
  unfold pf_r34_Low
  have ht : (d.length ≤ 100 ∧ (checkF d n = 0 → ∀ j, j < d.length → -100 ≤ gi d j ∧ gi d j ≤ 100)) → R true := fun q => by rwa [lowF_iff.2 q] at h
  have hf : ¬ (d.length ≤ 100 ∧ (checkF d n = 0 → ∀ j, j < d.length → -100 ≤ gi d j ∧ gi d j ≤ 100)) → R false := fun q => by
    have : lowF n d = false := by rw [Bool.eq_false_iff]; exact fun q2 => q (lowF_iff.1 q2)
    rwa [this] at h
  refine ⟨fun h1 => hf (by omega), fun h1 => p_r17_Check ⟨fun h2 => ?_, fun h2 => ht ⟨by omega, fun q => absurd q h2⟩⟩⟩
  refine ⟨Cnt d.length (fun k => ∀ j, j < k → -100 ≤ gi d j ∧ gi d j ≤ 100), Cnt.start (fun j hj => absurd hj (by omega)), ?_⟩
  rintro m _ ⟨k, rfl, rfl, hk, hinv⟩
  simp only [Int.toNat_natCast]
  refine ⟨fun hlt => ⟨by omega, fun h3 => hf fun q => ?_, fun h3 => ⟨fun h4 => hf fun q => ?_, fun h4 => Cnt.next (by omega) (by omega) fun j hj => ?_⟩⟩, fun hge => ht ⟨by omega, fun _ j hj => hinv j (by omega)⟩⟩
  · have := q.2 h2 k (by omega); omega
  · have := q.2 h2 k (by omega); omega
  · by_cases e : j = k
    · subst e; omega
    · exact hinv j (by omega)
/-- The Laplacian of a script, as a list. -/
def lpL (n : Nat) (es : List E3) (s : List Int) : List Int := tab (fun v => Lp n es (gi s) v) n
theorem Lp_row {n : Nat} {es : List E3} (s : List Int) {v : Nat} (hv : v < n) : sm n (fun k => (if v = k then deg n es v else - W es v k) * gi s k) = Lp n es (gi s) v := by
  have e : (fun k => (if v = k then deg n es v else - W es v k) * gi s k) = (fun k => (if k = v then gi s v * deg n es v else 0) - gi s k * W es v k) := by
    funext k
    by_cases e : v = k
    · subst e; rw [if_pos rfl, if_pos rfl, W_self, Int.mul_comm]; omega
    · rw [if_neg e, if_neg (fun q => e q.symm), Int.mul_comm]; simp only [Int.mul_neg]; omega
  rw [Lp_ind, e, sm_sub, sm_one _ hv]
  exact congrArg _ (sm_congr fun k _ => by rw [W_symm es v k])
theorem row_bound {n : Nat} {es : List E3} (hg : gcheckF n es = 0) {s : List Int} (hs : ∀ j, j < n → -2000000000 ≤ gi s j ∧ gi s j ≤ 2000000000) (i k : Nat) (hk : k < n) : -1200000000000 ≤ (if i = k then deg n es i else - W es i k) * gi s k ∧ (if i = k then deg n es i else - W es i k) * gi s k ≤ 1200000000000 := by
  obtain ⟨hE, hn1, hn12⟩ := gcheck_ok hg
  have h1 := deg_bound hg n i
  have h2 := W_le50 hg i k
  have h3 := hs k hk
  have hb : -600 ≤ (if i = k then deg n es i else - W es i k) ∧ (if i = k then deg n es i else - W es i k) ≤ 600 := by
    unfold deg
    split <;> omega
  generalize (if i = k then deg n es i else - W es i k) = c at hb ⊢
  generalize gi s k = x at h3 ⊢
  have := Int.natAbs_mul c x
  have h4 : c.natAbs ≤ 600 := by omega
  have h5 : x.natAbs ≤ 2000000000 := by omega
  have := Nat.mul_le_mul h4 h5
  omega
/-- The sum with a multiple. -/
def plusF (a b : List Int) (k : Int) : List Int := tab (fun i => gi a i + k * gi b i) a.length
theorem Lp_bound {n : Nat} {es : List E3} (hg : gcheckF n es = 0) {s : List Int} (hs : ∀ j, j < n → -2000000000 ≤ gi s j ∧ gi s j ≤ 2000000000) {v : Nat} (hv : v < n) : -20000000000000 ≤ Lp n es (gi s) v ∧ Lp n es (gi s) v ≤ 20000000000000 := by
  obtain ⟨hE, hn1, hn12⟩ := gcheck_ok hg
  rw [← Lp_row s hv]
  have hb := sm_bound (f := fun k => (if v = k then deg n es v else - W es v k) * gi s k) (B := 1200000000000) (by omega) (n := n) fun j hj => row_bound hg hs v j hj
  have : (n : Int) * 1200000000000 ≤ 12 * 1200000000000 := by omega
  omega
/-- A divisor behind a script. -/
def appF (n : Nat) (es : List E3) (d s : List Int) : List Int := tab (fun v => gi d v - Lp n es (gi s) v) n
theorem appF_length {n : Nat} {es : List E3} {d s : List Int} : (appF n es d s).length = n := tab_length _ _
end
end Go.Proofs.Ytnhmeckhlajeaaa

/- What the pure forms of the program's and the library's small functions come to. -/
namespace Go.Proofs.Ytnhmeckhlajeaaa
open Go
set_option linter.unusedVariables false
set_option linter.unusedSimpArgs false

theorem p_slices_Equal_Divisor {a b : List Int} {R : Bool → Prop} (hl : a.length ≤ 1000000000) (h : R (decide (a = b))) : pf_slices_Equal_Divisor a b R := by
  unfold pf_slices_Equal_Divisor
  have ht : a = b → R true := fun q => by rwa [decide_eq_true q] at h
  have hf : ¬ a = b → R false := fun q => by rwa [decide_eq_false q] at h
  refine ⟨fun hln => ?_, fun hln => hf fun q => hln (by rw [q])⟩
  refine ⟨Cnt a.length (fun k => ∀ j, j < k → gi a j = gi b j), Cnt.start (fun j hj => absurd hj (by omega)), ?_⟩
  rintro m _ ⟨k, rfl, rfl, hk, hinv⟩
  simp only [Int.toNat_natCast]
  refine ⟨fun hlt => ⟨by omega, by omega, fun h1 => Cnt.next (by omega) (by omega) fun j hj => ?_, fun h1 => hf fun q => h1 (by rw [q])⟩, fun hge => ht (gi_ext (by omega) fun j hj => hinv j (by omega))⟩
  by_cases e : j = k
  · subst e; exact h1
  · exact hinv j (by omega)

theorem p_slices_Clone_Divisor {s : List Int} {R : List Int → Prop} (hl : s.length ≤ 1000000000) (h : R s) : pf_slices_Clone_Divisor s R := by
  unfold pf_slices_Clone_Divisor
  exact fun nil hn => ⟨fun q => by rw [hn q] at h; exact h, fun q => ⟨by omega, h⟩⟩
end Go.Proofs.Ytnhmeckhlajeaaa

/- What the library's pure forms come to: search, minimum, order. -/
namespace Go.Proofs.Ytnhmeckhlajeaaa
open Go
set_option linter.unusedVariables false
set_option linter.unusedSimpArgs false

theorem any_gi {p : Int → Bool} {s : List Int} : s.any p = true ↔ ∃ k, k < s.length ∧ p (gi s k) = true := by
  rw [List.any_eq_true]
  constructor
  · rintro ⟨x, hx, hp⟩
    obtain ⟨k, hk, rfl⟩ := List.getElem_of_mem hx
    exact ⟨k, hk, by rw [gi_of_lt hk]; exact hp⟩
  · rintro ⟨k, hk, hp⟩
    exact ⟨_, gi_mem hk, hp⟩
theorem p_slices_IndexFunc_Script {s : List Int} {F : Int → (Bool → Prop) → Prop} {p : Int → Bool} {R : Int → Prop} (hl : s.length ≤ 1000000000) (hF : ∀ x (R' : Bool → Prop), R' (p x) → F x R') (h1 : ∀ k : Nat, k < s.length → p (gi s k) = true → R (k : Int)) (h2 : (∀ k, k < s.length → p (gi s k) = false) → R (-1)) : pf_slices_IndexFunc_Script s F R := by
  unfold pf_slices_IndexFunc_Script
  refine ⟨Cnt s.length (fun k => ∀ j, j < k → p (gi s j) = false), Cnt.start (fun j hj => absurd hj (by omega)), ?_⟩
  rintro m _ ⟨k, rfl, rfl, hk, hinv⟩
  simp only [Int.toNat_natCast]
  refine ⟨fun hlt => ⟨by omega, hF _ _ ⟨fun h => h1 k (by omega) h, fun h => Cnt.next (by omega) (by omega) fun j hj => ?_⟩⟩, fun hge => h2 fun j hj => hinv j (by omega)⟩
  by_cases e : j = k
  · subst e; simpa using h
  · exact hinv j (by omega)
theorem p_slices_ContainsFunc_Script {s : List Int} {F : Int → (Bool → Prop) → Prop} {p : Int → Bool} {R : Bool → Prop} (hl : s.length ≤ 1000000000) (hF : ∀ x (R' : Bool → Prop), R' (p x) → F x R') (h : R (s.any p)) : pf_slices_ContainsFunc_Script s F R := by
  unfold pf_slices_ContainsFunc_Script
  refine p_slices_IndexFunc_Script hl hF (fun k hk hp => ?_) (fun hn => ?_)
  · rw [any_gi.2 ⟨k, hk, hp⟩] at h
    have e : decide (0 ≤ (k : Int)) = true := by simp
    rw [e]; exact h
  · have e : s.any p = false := by
      rw [Bool.eq_false_iff]
      intro q
      obtain ⟨k, hk, hp⟩ := any_gi.1 q
      rw [hn k hk] at hp; cases hp
    rw [e] at h; exact h

theorem p_slices_IndexFunc_Divisor {s : List Int} {F : Int → (Bool → Prop) → Prop} {p : Int → Bool} {R : Int → Prop} (hl : s.length ≤ 1000000000) (hF : ∀ x (R' : Bool → Prop), R' (p x) → F x R') (h1 : ∀ k : Nat, k < s.length → p (gi s k) = true → R (k : Int)) (h2 : (∀ k, k < s.length → p (gi s k) = false) → R (-1)) : pf_slices_IndexFunc_Divisor s F R := by
  unfold pf_slices_IndexFunc_Divisor
  refine ⟨Cnt s.length (fun k => ∀ j, j < k → p (gi s j) = false), Cnt.start (fun j hj => absurd hj (by omega)), ?_⟩
  rintro m _ ⟨k, rfl, rfl, hk, hinv⟩
  simp only [Int.toNat_natCast]
  refine ⟨fun hlt => ⟨by omega, hF _ _ ⟨fun h => h1 k (by omega) h, fun h => Cnt.next (by omega) (by omega) fun j hj => ?_⟩⟩, fun hge => h2 fun j hj => hinv j (by omega)⟩
  by_cases e : j = k
  · subst e; simpa using h
  · exact hinv j (by omega)
theorem p_slices_ContainsFunc_Divisor {s : List Int} {F : Int → (Bool → Prop) → Prop} {p : Int → Bool} {R : Bool → Prop} (hl : s.length ≤ 1000000000) (hF : ∀ x (R' : Bool → Prop), R' (p x) → F x R') (h : R (s.any p)) : pf_slices_ContainsFunc_Divisor s F R := by
  unfold pf_slices_ContainsFunc_Divisor
  refine p_slices_IndexFunc_Divisor hl hF (fun k hk hp => ?_) (fun hn => ?_)
  · rw [any_gi.2 ⟨k, hk, hp⟩] at h
    have e : decide (0 ≤ (k : Int)) = true := by simp
    rw [e]; exact h
  · have e : s.any p = false := by
      rw [Bool.eq_false_iff]
      intro q
      obtain ⟨k, hk, hp⟩ := any_gi.1 q
      rw [hn k hk] at hp; cases hp
    rw [e] at h; exact h

end Go.Proofs.Ytnhmeckhlajeaaa

/- What the pure forms of chips, graph and firing come to. -/
namespace Go.Proofs.Ytnhmeckhlajeaaa
open Go
set_option linter.unusedVariables false
set_option linter.unusedSimpArgs false

theorem p_chips_within {k : Int} {R : Bool → Prop} (h : R (inF k)) : pf_chips_within k R := by
  unfold pf_chips_within
  refine ⟨fun h1 => ?_, fun h1 => ?_⟩
  · have e : decide (k ≤ 1048576) = inF k := by unfold inF; simp [h1]
    rw [e]; exact h
  · have e : false = inF k := by unfold inF; simp [h1]
    rw [e]; exact h
theorem p_chips_Check {d : List Int} {n : Int} {R : Int → Prop} (h : R (checkF d n)) : pf_chips_Check d n R := by
  unfold pf_chips_Check pf_chips_vertices
  have hout : ¬ (1 ≤ n ∧ n ≤ 12) → R 2 := fun q => by
    have : checkF d n = 2 := by unfold checkF vertsF; rw [if_neg q, if_neg (by omega)]
    rwa [this] at h
  refine ⟨fun q => ⟨fun q2 => absurd q2 (by omega), fun _ => hout (by omega)⟩, fun q => ⟨fun q2 => ⟨fun q3 => absurd q3 (by omega), fun _ => hout (by omega)⟩, fun q2 => ⟨fun _ => ?_, fun q3 => absurd rfl q3⟩⟩⟩
  have hc : checkF d n = if (d.length : Int) = n then (if d.all inF then 0 else 2) else 8 := by unfold checkF; rw [if_pos (by unfold vertsF; rw [if_pos (by omega)])]
  rw [hc] at h
  refine ⟨fun hln => ?_, fun hln => by rwa [if_neg hln] at h⟩
  rw [if_pos hln] at h
  refine ⟨Cnt d.length (fun k => ∀ j, j < k → inF (gi d j) = true), Cnt.start (fun j hj => absurd hj (by omega)), ?_⟩
  rintro m _ ⟨k, rfl, rfl, hk, hinv⟩
  refine ⟨fun hlt => ⟨by omega, p_chips_within ⟨fun h1 => Cnt.next (by omega) (by omega) fun j hj => ?_, fun h1 => ?_⟩⟩, fun hge => ?_⟩
  · by_cases e : j = k
    · subst e; simpa using h1
    · exact hinv j (by omega)
  · rw [if_neg (fun hall => h1 ((all_iff_gi inF d).1 hall _ (by omega)))] at h; exact h
  · rw [if_pos ((all_iff_gi inF d).2 fun j hj => hinv j (by omega))] at h; exact h
theorem p_graph_vertex {n v : Int} {R : Bool → Prop} (h : R (decide (0 ≤ v ∧ v < n))) : pf_graph_vertex n v R := by
  unfold pf_graph_vertex
  refine ⟨fun h1 => ?_, fun h1 => ?_⟩
  · have e : decide (v < n) = decide (0 ≤ v ∧ v < n) := by simp [h1]
    rw [e]; exact h
  · have e : false = decide (0 ≤ v ∧ v < n) := by simp [h1]
    rw [e]; exact h
theorem p_cmp_Compare {a b : Int} {R : Int → Prop} (h : R (cmpF a b)) : pf_cmp_Compare_int a b R := by
  unfold pf_cmp_Compare_int pf_cmp_isNaN_int
  unfold cmpF at h
  refine ⟨fun q => absurd q (by simp), fun _ => ⟨fun q => absurd q (by simp), fun _ => ⟨fun h1 => by rwa [if_pos h1] at h, fun h1 => ?_⟩⟩⟩
  rw [if_neg h1] at h
  refine ⟨fun h2 => by rwa [if_pos h2] at h, fun h2 => by rwa [if_neg h2] at h⟩
theorem p_cmp_Or2 {x y : Int} {R : Int → Prop} (h : R (orF x y)) : pf_cmp_Or_int [x, y] R := by
  unfold pf_cmp_Or_int
  unfold orF at h
  refine ⟨Cnt 2 (fun k => ∀ j, j < k → gi [x, y] j = 0), Cnt.start (fun j hj => absurd hj (by omega)), ?_⟩
  rintro m _ ⟨k, rfl, rfl, hk, hinv⟩
  simp only [Int.toNat_natCast, List.length_cons, List.length_nil]
  have hk3 : k = 0 ∨ k = 1 ∨ k = 2 := by omega
  have g0 : gi [x, y] 0 = x := rfl
  have g1 : gi [x, y] 1 = y := rfl
  have hnx : gi [x, y] k = 0 → ∀ j, j < k + 1 → gi [x, y] j = 0 := fun q j hj => by
    by_cases e : j = k
    · subst e; exact q
    · exact hinv j (by omega)
  refine ⟨fun hlt => ⟨by omega, fun q => Cnt.next (by omega) (by omega) (hnx q), fun q => ?_⟩, fun hge => ?_⟩
  · rcases hk3 with rfl | rfl | rfl
    · rw [g0] at q ⊢; rwa [if_pos q] at h
    · have h0 := hinv 0 (by omega)
      rw [g0] at h0
      rw [g1]; rwa [if_neg (fun q2 => q2 h0)] at h
    · exact absurd hlt (by omega)
  · have : k = 2 := by omega
    subst this
    have h0 := hinv 0 (by omega)
    have h1 := hinv 1 (by omega)
    rw [g0] at h0
    rw [g1] at h1
    rw [if_neg (fun q2 => q2 h0), h1] at h; exact h
theorem p_pair_compare {a b c d : Int} {R : Int → Prop} (h : R (pcmpF a b c d)) : pf_graph_pair_compare a b c d R :=
  p_cmp_Compare (p_cmp_Compare (p_cmp_Or2 h))
theorem p_graph_Check {n : Int} {es : List E3} {R : Int → Prop} (hl : es.length ≤ 1000000000) (h : R (gcheckF n es)) : pf_graph_Check n es R := by
  unfold pf_graph_Check
  have hout : ¬ (1 ≤ n ∧ n ≤ 12) → R 2 := fun q => by unfold gcheckF at h; rwa [if_neg q] at h
  refine ⟨1 ≤ n ∧ n ≤ 12, fun hn => ?_, fun q => hout (by omega), fun q => ⟨fun q2 => hout (by omega), fun q2 => ⟨by omega, by omega⟩⟩⟩
  have hg : gcheckF n es = gchk n (-1) (-1) es := by unfold gcheckF; rw [if_pos hn]
  rw [hg] at h
  refine ⟨fun m i a b => Cnt es.length (fun k => a = (pre es k).1 ∧ b = (pre es k).2 ∧ gchk n (-1) (-1) es = gchk n (pre es k).1 (pre es k).2 (es.drop k)) m i, Cnt.start ⟨rfl, rfl, rfl⟩, ?_⟩
  rintro m _ _ _ ⟨k, rfl, rfl, hk, rfl, rfl, hinv⟩
  simp only [Int.toNat_natCast]
  refine ⟨fun hlt => ⟨by omega, ?_⟩, fun hge => ?_⟩
  · have hlt : k < es.length := by omega
    rw [ge_drop hlt, gchk_cons] at hinv
    generalize hx : ge es k = x at hinv ⊢
    have hed : R (if edgeF n (pre es k).1 (pre es k).2 x = 0 then gchk n x.1 x.2.1 (es.drop (k + 1)) else edgeF n (pre es k).1 (pre es k).2 x) := by rw [← hinv]; exact h
    have h2 : ¬ ((0 ≤ x.1 ∧ x.1 < n) ∧ (0 ≤ x.2.1 ∧ x.2.1 < n) ∧ 1 ≤ x.2.2 ∧ x.2.2 ≤ 50) → R 2 := fun q => by
      unfold edgeF at hed; rw [if_neg q, if_neg (by omega)] at hed; exact hed
    refine ⟨(0 ≤ x.1 ∧ x.1 < n) ∧ (0 ≤ x.2.1 ∧ x.2.1 < n) ∧ 1 ≤ x.2.2 ∧ x.2.2 ≤ 50, fun hJ => ?_, p_graph_vertex ⟨fun q1 => p_graph_vertex ⟨fun q2 => ⟨fun q3 => h2 (by omega), fun q3 => ⟨fun q4 => h2 (by omega), fun q4 => ?_⟩⟩, fun q2 => h2 (by simp at q2; omega)⟩, fun q1 => h2 (by simp at q1; omega)⟩⟩
    · have he : edgeF n (pre es k).1 (pre es k).2 x = if x.1 ≤ x.2.1 ∧ pcmpF (pre es k).1 (pre es k).2 x.1 x.2.1 < 0 then 0 else 9 := by unfold edgeF; rw [if_pos hJ]
      rw [he] at hed hinv
      refine ⟨fun q => ?_, fun q => p_pair_compare ⟨fun q2 => ?_, fun q2 => Cnt.next hlt (by omega) ⟨?_, ?_, ?_⟩⟩⟩
      · rw [if_neg (show ¬ (x.1 ≤ x.2.1 ∧ _) by omega), if_neg (by omega)] at hed; exact hed
      · rw [if_neg (show ¬ (x.1 ≤ x.2.1 ∧ _) by omega), if_neg (by omega)] at hed; exact hed
      · simp [pre, hx]
      · simp [pre, hx]
      · have hc : x.1 ≤ x.2.1 ∧ pcmpF (pre es k).1 (pre es k).2 x.1 x.2.1 < 0 := ⟨by omega, by omega⟩
        rw [if_pos hc, if_pos rfl] at hinv
        rw [hinv]
        simp [pre, hx]
    · simp only [decide_eq_true_eq] at q1 q2
      exact ⟨q1, q2, by omega, by omega⟩
  · have hk2 : k = es.length := by omega
    rw [hinv, hk2, List.drop_length] at h
    exact h
/-- The error of a graph with a divisor. -/
def fgivenF (n : Int) (es : List E3) (d : List Int) : Int := if gcheckF n es = 0 then checkF d n else gcheckF n es
theorem p_firing_given {n : Int} {es : List E3} {d : List Int} {R : Int → Prop} (hl : es.length ≤ 1000000000) (h : R (fgivenF n es d)) : pf_firing_given n es d R := by
  unfold pf_firing_given
  unfold fgivenF at h
  exact p_graph_Check hl ⟨fun q => p_chips_Check (by rwa [if_pos q] at h), fun q => by rwa [if_neg q] at h⟩
theorem p_firing_Check {n : Int} {es : List E3} {d : List Int} {R : Int → Prop} (hl : es.length ≤ 1000000000) (h : R (fgivenF n es d)) : pf_firing_Check n es d R := p_firing_given hl h

/-! ### What edges move -/
theorem W_snoc (x : E3) (v u : Nat) : ∀ l : List E3, W (l ++ [x]) v u = W l v u + w1 x v u
  | [] => by rw [List.nil_append, W_cons, W_nil]; omega
  | y :: t => by rw [List.cons_append, W_cons, W_cons, W_snoc x v u t]; omega
/-- What an edge takes from a vertex by a script. -/
def e1 (x : E3) (s : Nat → Int) (v : Nat) : Int := (if (v : Int) = x.1 then x.2.2 * (s x.1.toNat - s x.2.1.toNat) else 0) - (if (v : Int) = x.2.1 then x.2.2 * (s x.1.toNat - s x.2.1.toNat) else 0)
theorem Lp_snoc {n : Nat} {l : List E3} {x : E3} {s : Nat → Int} {v : Nat} (hx : 0 ≤ x.1 ∧ x.1 < n ∧ 0 ≤ x.2.1 ∧ x.2.1 < n) (hv : v < n) : Lp n (l ++ [x]) s v = Lp n l s v + e1 x s v := by
  have h1 : Lp n (l ++ [x]) s v = Lp n l s v + sm n (fun u => w1 x v u * (s v - s u)) := by
    unfold Lp
    rw [← sm_add]
    refine sm_congr fun u _ => ?_
    rw [W_snoc, Int.add_mul]
  rw [h1]
  congr 1
  obtain ⟨a, ha⟩ : ∃ a : Nat, x.1 = a := ⟨x.1.toNat, by omega⟩
  obtain ⟨b, hb⟩ : ∃ b : Nat, x.2.1 = b := ⟨x.2.1.toNat, by omega⟩
  unfold e1
  rw [ha, hb, Int.toNat_natCast, Int.toNat_natCast]
  have ean : a < n := by omega
  have ebn : b < n := by omega
  by_cases hab : a = b
  · subst hab
    rw [show (fun u => w1 x v u * (s v - s u)) = fun _ => 0 from ?_, sm_zero]
    · omega
    · funext u
      unfold w1
      rw [if_neg (by omega)]; omega
  · by_cases e1 : v = a
    · subst e1
      rw [if_pos rfl, if_neg (by omega), show (fun u => w1 x v u * (s v - s u)) = fun u => if u = b then x.2.2 * (s v - s b) else 0 from ?_, sm_one _ ebn]
      · omega
      · funext u
        unfold w1
        by_cases e2 : u = b
        · subst e2; rw [if_pos ⟨by omega, .inl ⟨ha, hb⟩⟩, if_pos rfl]
        · rw [if_neg (by omega), if_neg e2]; omega
    · by_cases e3 : v = b
      · subst e3
        rw [if_neg (by omega), if_pos rfl, show (fun u => w1 x v u * (s v - s u)) = fun u => if u = a then x.2.2 * (s v - s a) else 0 from ?_, sm_one _ ean]
        · rw [show s a - s v = -(s v - s a) by omega, Int.mul_neg]; omega
        · funext u
          unfold w1
          by_cases e2 : u = a
          · subst e2; rw [if_pos ⟨by omega, .inr ⟨ha, hb⟩⟩, if_pos rfl]
          · rw [if_neg (by omega), if_neg e2]; omega
      · rw [if_neg (by omega), if_neg (by omega), show (fun u => w1 x v u * (s v - s u)) = fun _ => 0 from ?_, sm_zero]
        · omega
        · funext u
          unfold w1
          rw [if_neg (by omega)]; omega
theorem flow_bound {x : E3} {s : Nat → Int} (hm : 1 ≤ x.2.2 ∧ x.2.2 ≤ 50) (ha : -2000000000 ≤ s x.1.toNat ∧ s x.1.toNat ≤ 2000000000) (hb : -2000000000 ≤ s x.2.1.toNat ∧ s x.2.1.toNat ≤ 2000000000) : -200000000000 ≤ x.2.2 * (s x.1.toNat - s x.2.1.toNat) ∧ x.2.2 * (s x.1.toNat - s x.2.1.toNat) ≤ 200000000000 := by
  generalize x.2.2 = m at hm ⊢
  have h : -4000000000 ≤ s x.1.toNat - s x.2.1.toNat ∧ s x.1.toNat - s x.2.1.toNat ≤ 4000000000 := by omega
  generalize s x.1.toNat - s x.2.1.toNat = y at h ⊢
  have := Int.natAbs_mul m y
  have h4 : m.natAbs ≤ 50 := by omega
  have h5 : y.natAbs ≤ 4000000000 := by omega
  have := Nat.mul_le_mul h4 h5
  omega
theorem Lp_take_bound {n : Nat} {es : List E3} (hE : EOk n es) {s : Nat → Int} (hs : ∀ j, j < n → -2000000000 ≤ s j ∧ s j ≤ 2000000000) {v : Nat} (hv : v < n) : ∀ k, k ≤ es.length → -(400000000000 * (k : Int)) ≤ Lp n (es.take k) s v ∧ Lp n (es.take k) s v ≤ 400000000000 * k
  | 0, _ => by
    have : Lp n [] s v = 0 := by
      unfold Lp
      rw [show (fun u => W [] v u * (s v - s u)) = fun _ => 0 from ?_, sm_zero]
      funext u; rw [W_nil]; omega
    rw [List.take_zero, this]; omega
  | k + 1, hk => by
    have ih := Lp_take_bound hE hs hv k (by omega)
    have hx := hE _ (ge_mem (show k < es.length by omega))
    have hf := flow_bound (x := ge es k) (s := s) (by omega) (hs _ (by omega)) (hs _ (by omega))
    have e : es.take (k + 1) = es.take k ++ [ge es k] := by rw [List.take_add_one, List.getElem?_eq_getElem (by omega), ge_of_lt (by omega)]; rfl
    rw [e, Lp_snoc (by omega) hv]
    unfold e1
    split <;> split <;> omega
theorem Lp_nil {n : Nat} {s : Nat → Int} {v : Nat} : Lp n [] s v = 0 := by
  unfold Lp
  rw [show (fun u => W [] v u * (s v - s u)) = fun _ => 0 from ?_, sm_zero]
  funext u; rw [W_nil]; omega
/-- An edge's step. -/
theorem edge_step {n : Nat} {es : List E3} (hE : EOk n es) {d s : List Int} {k : Nat} (hk : k < es.length) :
    ((appF n (es.take k) d s).set (ge es k).1.toNat (gi (appF n (es.take k) d s) (ge es k).1.toNat - (ge es k).2.2 * (gi s (ge es k).1.toNat - gi s (ge es k).2.1.toNat))).set (ge es k).2.1.toNat
      (gi ((appF n (es.take k) d s).set (ge es k).1.toNat (gi (appF n (es.take k) d s) (ge es k).1.toNat - (ge es k).2.2 * (gi s (ge es k).1.toNat - gi s (ge es k).2.1.toNat))) (ge es k).2.1.toNat + (ge es k).2.2 * (gi s (ge es k).1.toNat - gi s (ge es k).2.1.toNat)) = appF n (es.take (k + 1)) d s := by
  have hx := hE _ (ge_mem hk)
  have e : es.take (k + 1) = es.take k ++ [ge es k] := by rw [List.take_add_one, List.getElem?_eq_getElem hk, ge_of_lt hk]; rfl
  have hal : (appF n (es.take k) d s).length = n := appF_length
  refine gi_ext (by rw [List.length_set, List.length_set, appF_length, appF_length]) fun i hi => ?_
  rw [List.length_set, List.length_set, hal] at hi
  have h1 : ∀ j, j < n → gi (appF n (es.take k) d s) j = gi d j - Lp n (es.take k) (gi s) j := fun j hj => gi_tab _ hj
  have h2 : gi (appF n (es.take (k + 1)) d s) i = gi d i - (Lp n (es.take k) (gi s) i + e1 (ge es k) (gi s) i) := by
    rw [← Lp_snoc (by omega) hi, ← e]; exact gi_tab _ hi
  rw [h2, gi_set (by rw [List.length_set, hal]; omega), gi_set (by rw [hal]; omega), gi_set (by rw [hal]; omega)]
  unfold e1
  by_cases q1 : i = (ge es k).2.1.toNat
  · rw [if_pos q1, if_pos (show (i : Int) = (ge es k).2.1 by omega)]
    by_cases q2 : (ge es k).2.1.toNat = (ge es k).1.toNat
    · rw [if_pos q2, if_pos (show (i : Int) = (ge es k).1 by omega), ← q2, ← q1, h1 i hi]; omega
    · rw [if_neg q2, if_neg (show ¬ (i : Int) = (ge es k).1 by omega), ← q1, h1 i hi]; omega
  · rw [if_neg q1, if_neg (show ¬ (i : Int) = (ge es k).2.1 by omega)]
    by_cases q2 : i = (ge es k).1.toNat
    · rw [if_pos q2, if_pos (show (i : Int) = (ge es k).1 by omega), ← q2, h1 i hi]; omega
    · rw [if_neg q2, if_neg (show ¬ (i : Int) = (ge es k).1 by omega), h1 i hi]; omega
section
variable {n : Nat} {es : List E3} {d s : List Int}
theorem app_start (hdl : d.length = n) : d = appF n (es.take 0) d s := by
  refine eq_tab hdl _ fun i _ => ?_
  rw [List.take_zero, Lp_nil]; omega
theorem p_firing_moved {R : List Int → Prop} (hl : es.length ≤ 1000) (hg : gcheckF n es = 0) (hdl : d.length = n) (hd : ∀ j, j < n → -1000000000000000 ≤ gi d j ∧ gi d j ≤ 1000000000000000) (hsl : s.length = n) (hs : ∀ j, j < n → -2000000000 ≤ gi s j ∧ gi s j ≤ 2000000000) (h : R (appF n es d s)) : pf_firing_moved (n : Int) es d s R := by
  obtain ⟨hE, hn1, hn12⟩ := gcheck_ok hg
  unfold pf_firing_moved
  refine p_slices_Clone_Divisor (by omega) ?_
  refine ⟨fun m v out => Cnt es.length (fun k => out = appF n (es.take k) d s) m v, Cnt.start (app_start hdl), ?_⟩
  rintro m _ out ⟨k, rfl, rfl, hk, rfl⟩
  simp only [Int.toNat_natCast]
  refine ⟨fun hlt => ⟨by omega, ?_⟩, fun hge => ?_⟩
  · have hlt : k < es.length := by omega
    have hx := hE _ (ge_mem hlt)
    have hf := flow_bound (x := ge es k) (s := gi s) (by omega) (hs _ (by omega)) (hs _ (by omega))
    have ha := hs (ge es k).1.toNat (by omega)
    have hb := hs (ge es k).2.1.toNat (by omega)
    have hal : (appF n (es.take k) d s).length = n := appF_length
    have h1 : ∀ j, j < n → gi (appF n (es.take k) d s) j = gi d j - Lp n (es.take k) (gi s) j := fun j hj => gi_tab _ hj
    have hbd : ∀ j, j < n → -2000000000000000 ≤ gi (appF n (es.take k) d s) j ∧ gi (appF n (es.take k) d s) j ≤ 2000000000000000 := fun j hj => by
      have := Lp_take_bound hE hs hj k (by omega)
      have := hd j hj
      rw [h1 j hj]; omega
    have b1 := hbd (ge es k).1.toNat (by omega)
    have b2 := hbd (ge es k).2.1.toNat (by omega)
    unfold pf_firing_moved_1
    refine ⟨by omega, by omega, i64 (by omega), i64 (by omega), by omega, i64 (by omega), by rw [List.length_set]; omega, ?_, Cnt.next hlt (by omega) (edge_step hE hlt)⟩
    rw [gi_set (by omega)]
    split
    · exact i64 (by omega)
    · exact i64 (by omega)
  · have hk2 : k = es.length := by omega
    rw [hk2, List.take_length]; exact h
theorem p_firing_bounded {R : List Int → Int → Prop} (hl : d.length ≤ 1000000000) (h1 : d.all inF = true → R d 0) (h2 : d.all inF = false → R [] 11) : pf_firing_bounded d R := by
  unfold pf_firing_bounded
  refine p_slices_ContainsFunc_Divisor (p := fun x => !inF x) hl (fun x R' hR => ?_) ⟨fun q => h2 ?_, fun q => h1 ?_⟩
  · unfold pf_firing_bounded_1
    unfold inF at hR
    refine ⟨fun q => ?_, fun q => ?_⟩
    · rw [decide_eq_false (by omega)] at hR; exact hR
    · have e : decide (1048576 < x) = !decide (-1048576 ≤ x ∧ x ≤ 1048576) := by
        by_cases c : 1048576 < x
        · rw [decide_eq_true c, decide_eq_false (by omega)]; rfl
        · rw [decide_eq_false c, decide_eq_true (by omega)]; rfl
      rw [e]; exact hR
  · rw [Bool.eq_false_iff]
    intro hall
    obtain ⟨x, hx, hp⟩ := List.any_eq_true.1 q
    rw [List.all_eq_true.1 hall x hx] at hp; cases hp
  · rw [List.all_eq_true]
    intro x hx
    cases hi : inF x with
    | true => rfl
    | false => exact absurd (List.any_eq_true.2 ⟨x, hx, by rw [hi]; rfl⟩) q
/-- Apply, for right arguments. -/
theorem p_firing_Apply {R : List Int → Int → Prop} (hl : es.length ≤ 1000) (hg : gcheckF n es = 0) (hd : checkF d n = 0) (hs : checkF s n = 0) (h1 : (appF n es d s).all inF = true → R (appF n es d s) 0) (h2 : (appF n es d s).all inF = false → R [] 11) : pf_firing_Apply (n : Int) es d s R := by
  obtain ⟨hdl, hn1, hn12, hdb⟩ := checkF_ok hd
  obtain ⟨hsl, -, -, hsb⟩ := checkF_ok hs
  unfold pf_firing_Apply
  have f1 : fgivenF n es d = 0 := by unfold fgivenF; rw [if_pos hg, hd]
  have f2 : fgivenF n es s = 0 := by unfold fgivenF; rw [if_pos hg, hs]
  refine p_firing_given (by omega) ⟨fun _ => p_firing_Check (by omega) ⟨fun _ => ?_, fun q => absurd f2 q⟩, fun q => absurd f1 q⟩
  exact p_firing_moved hl hg hdl (fun j hj => by have := hdb j hj; omega) hsl (fun j hj => by have := hsb j hj; omega) (p_firing_bounded (by rw [appF_length]; omega) h1 h2)
end
end Go.Proofs.Ytnhmeckhlajeaaa

/- What laplacian.Image and chips.Sub compute. -/
namespace Go.Proofs.Ytnhmeckhlajeaaa
open Go
set_option linter.unusedVariables false
set_option linter.unusedSimpArgs false

theorem Lp_few2 {n : Nat} {es : List E3} (hg : gcheckF n es = 0) {s : Nat → Int} {B : Int} (hB : 0 ≤ B) (hs : ∀ j, j < n → -B ≤ s j ∧ s j ≤ B) {v : Nat} (hv : v < n) : -(1200 * B) ≤ Lp n es s v ∧ Lp n es s v ≤ 1200 * B := by
  obtain ⟨hE, hn1, hn12⟩ := gcheck_ok hg
  have h := sm_bound (f := fun u => W es v u * (s v - s u)) (B := 100 * B) (by omega) (n := n) fun u hu => by
    have h1 := W_le50 hg v u
    have h2 := hs v hv
    have h3 := hs u hu
    have hx : -(2 * B) ≤ s v - s u ∧ s v - s u ≤ 2 * B := by omega
    show -(100 * B) ≤ W es v u * (s v - s u) ∧ W es v u * (s v - s u) ≤ 100 * B
    generalize W es v u = w at h1 ⊢
    generalize s v - s u = x at hx ⊢
    have h4 : w * x ≤ w * (2 * B) := Int.mul_le_mul_of_nonneg_left hx.2 h1.1
    have h5 : w * -(2 * B) ≤ w * x := Int.mul_le_mul_of_nonneg_left hx.1 h1.1
    have h6 : w * (2 * B) ≤ 50 * (2 * B) := Int.mul_le_mul_of_nonneg_right h1.2 (by omega)
    rw [Int.mul_neg] at h5
    omega
  have h2 : (n : Int) * (100 * B) ≤ 12 * (100 * B) := Int.mul_le_mul_of_nonneg_right (by omega) (by omega)
  unfold Lp
  omega
theorem p_slices_IndexFunc_intS {s : List Int} {F : Int → (Bool → Prop) → Prop} {p : Int → Bool} {R : Int → Prop} (hl : s.length ≤ 1000000000) (hF : ∀ x (R' : Bool → Prop), R' (p x) → F x R') (h1 : ∀ k : Nat, k < s.length → p (gi s k) = true → R (k : Int)) (h2 : (∀ k, k < s.length → p (gi s k) = false) → R (-1)) : pf_slices_IndexFunc_intS s F R := by
  refine ⟨Cnt s.length (fun k => ∀ j, j < k → p (gi s j) = false), Cnt.start (fun j hj => absurd hj (by omega)), ?_⟩
  rintro m _ ⟨k, rfl, rfl, hk, hinv⟩
  simp only [Int.toNat_natCast]
  refine ⟨fun hlt => ⟨by omega, hF _ _ ⟨fun hp => h1 k (by omega) hp, fun hp => Cnt.next (by omega) (by omega) fun j hj => ?_⟩⟩, fun hge => h2 fun j hj => hinv j (by omega)⟩
  by_cases e : j = k
  · subst e; simpa using hp
  · exact hinv j (by omega)
theorem p_slices_ContainsFunc_intS {s : List Int} {F : Int → (Bool → Prop) → Prop} {p : Int → Bool} {R : Bool → Prop} (hl : s.length ≤ 1000000000) (hF : ∀ x (R' : Bool → Prop), R' (p x) → F x R') (h1 : (∃ k, k < s.length ∧ p (gi s k) = true) → R true) (h2 : (∀ k, k < s.length → p (gi s k) = false) → R false) : pf_slices_ContainsFunc_intS s F R := by
  refine p_slices_IndexFunc_intS hl hF (fun k hk hp => ?_) (fun hno => ?_)
  · have e : decide (0 ≤ (k : Int)) = true := by simp
    rw [e]; exact h1 ⟨k, hk, hp⟩
  · exact h2 hno
theorem p_laplacian_within {l : List Int} {R : Bool → Prop} (hl : l.length ≤ 1000000000) (h1 : (∀ k, k < l.length → inF (gi l k) = true) → R true) (h2 : (∃ k, k < l.length ∧ inF (gi l k) = false) → R false) : pf_laplacian_within l R := by
  refine p_slices_ContainsFunc_intS (p := fun x => !inF x) hl (fun x R' hR => ?_) (fun ⟨k, hk, hp⟩ => h2 ⟨k, hk, by simpa using hp⟩) (fun hno => h1 fun k hk => by have := hno k hk; simpa using this)
  unfold pf_laplacian_within_1
  have e : (!inF x) = (decide (x < -1048576) || decide (1048576 < x)) := by
    unfold inF
    by_cases q1 : x < -1048576 <;> by_cases q2 : 1048576 < x <;> simp [q1, q2] <;> omega
  rw [e] at hR
  refine ⟨fun h => ?_, fun h => ?_⟩
  · simpa [h] using hR
  · simpa [h] using hR
/-- The edges that are no loops. -/
def noLoops (es : List E3) : List E3 := es.filter fun x => decide (x.1 ≠ x.2.1)
theorem noLoops_take {es : List E3} {k : Nat} (hk : k < es.length) : noLoops (es.take (k + 1)) = noLoops (es.take k) ++ if (ge es k).1 = (ge es k).2.1 then [] else [ge es k] := by
  have e : es.take (k + 1) = es.take k ++ [ge es k] := by rw [List.take_add_one, List.getElem?_eq_getElem hk, ge_of_lt hk]; rfl
  unfold noLoops
  rw [e, List.filter_append]
  congr 1
  by_cases q : (ge es k).1 = (ge es k).2.1
  · rw [if_pos q]; simp [q]
  · rw [if_neg q]; simp [q]
theorem noLoops_pre (es : List E3) (k : Nat) : noLoops (es.take k) <+: noLoops es := ⟨noLoops (es.drop k), by unfold noLoops; rw [← List.filter_append, List.take_append_drop]⟩
theorem p_laplacian_links_1 {n : Int} {es : List E3} (hl : es.length ≤ 1000000000) : pf_laplacian_links_1 n es (fun l => l <+: noLoops es) (fun l => l = noLoops es) := by
  refine ⟨fun m pre v => Cnt es.length (fun k => pre = noLoops (es.take k)) m v, Cnt.start rfl, ?_⟩
  rintro m pre _ ⟨k, rfl, rfl, hk, rfl⟩
  simp only [Int.toNat_natCast]
  refine ⟨fun hlt => ⟨by omega, fun q => Cnt.next (by omega) (by omega) ?_, fun q => ?_⟩, fun hge => ?_⟩
  · rw [noLoops_take (by omega), if_pos q, List.append_nil]
  · have e : noLoops (es.take k) ++ [((ge es k).1, (ge es k).2.1, (ge es k).2.2)] = noLoops (es.take (k + 1)) := by rw [noLoops_take (by omega), if_neg q]
    rw [e]
    exact ⟨noLoops_pre es _, Cnt.next (by omega) (by omega) rfl, trivial⟩
  · have e : k = es.length := by omega
    rw [e, List.take_length]
theorem W_noLoops : ∀ (es : List E3) (v u : Nat), W (noLoops es) v u = W es v u
  | [], v, u => rfl
  | x :: es, v, u => by
    unfold noLoops
    rw [List.filter_cons, W_cons]
    by_cases q : x.1 = x.2.1
    · have : w1 x v u = 0 := by unfold w1; rw [if_neg (fun h => h.1 q)]
      rw [if_neg (by simpa using q), this]
      have := W_noLoops es v u
      unfold noLoops at this
      rw [this]; omega
    · rw [if_pos (by simpa using q), W_cons]
      have := W_noLoops es v u
      unfold noLoops at this
      rw [this]
theorem Lp_noLoops (n : Nat) (es : List E3) (s : Nat → Int) (v : Nat) : Lp n (noLoops es) s v = Lp n es s v := by
  unfold Lp
  exact sm_congr fun u _ => by rw [W_noLoops]
theorem lpL_step {n : Nat} {l : List E3} {x : E3} {s : List Int} (hx : 0 ≤ x.1 ∧ x.1 < n ∧ 0 ≤ x.2.1 ∧ x.2.1 < n) :
    ((lpL n l s).set x.1.toNat (gi (lpL n l s) x.1.toNat + x.2.2 * (gi s x.1.toNat - gi s x.2.1.toNat))).set x.2.1.toNat
      (gi ((lpL n l s).set x.1.toNat (gi (lpL n l s) x.1.toNat + x.2.2 * (gi s x.1.toNat - gi s x.2.1.toNat))) x.2.1.toNat - x.2.2 * (gi s x.1.toNat - gi s x.2.1.toNat)) = lpL n (l ++ [x]) s := by
  have hal : (lpL n l s).length = n := tab_length _ _
  refine gi_ext (by rw [List.length_set, List.length_set, hal]; exact (tab_length _ _).symm) fun i hi => ?_
  rw [List.length_set, List.length_set, hal] at hi
  have h1 : ∀ j, j < n → gi (lpL n l s) j = Lp n l (gi s) j := fun j hj => gi_tab _ hj
  have h2 : gi (lpL n (l ++ [x]) s) i = Lp n l (gi s) i + e1 x (gi s) i := by
    rw [← Lp_snoc hx hi]; exact gi_tab _ hi
  rw [h2, gi_set (by rw [List.length_set, hal]; omega), gi_set (by rw [hal]; omega), gi_set (by rw [hal]; omega)]
  unfold e1
  by_cases q1 : i = x.2.1.toNat
  · rw [if_pos q1, if_pos (show (i : Int) = x.2.1 by omega)]
    by_cases q2 : x.2.1.toNat = x.1.toNat
    · rw [if_pos q2, if_pos (show (i : Int) = x.1 by omega), ← q2, ← q1, h1 i hi]; omega
    · rw [if_neg q2, if_neg (show ¬ (i : Int) = x.1 by omega), ← q1, h1 i hi]; omega
  · rw [if_neg q1, if_neg (show ¬ (i : Int) = x.2.1 by omega)]
    by_cases q2 : i = x.1.toNat
    · rw [if_pos q2, if_pos (show (i : Int) = x.1 by omega), ← q2, h1 i hi]; omega
    · rw [if_neg q2, if_neg (show ¬ (i : Int) = x.1 by omega), h1 i hi]; omega
theorem lpL_noLoops (n : Nat) (es : List E3) (s : List Int) : lpL n (noLoops es) s = lpL n es s := by
  unfold lpL
  exact tab_congr fun i _ => Lp_noLoops _ _ _ _
theorem p_laplacian_Image {n : Nat} {es : List E3} {s : List Int} {R : List Int → Int → Prop} (hl : es.length ≤ 1000) (hg : gcheckF n es = 0) (hsl : s.length = n) (hs : ∀ j, j < n → -5 ≤ gi s j ∧ gi s j ≤ 5)
    (h : R (lpL n es s) 0) : pf_laplacian_Image (n : Int) es s R := by
  obtain ⟨hE, hn1, hn12⟩ := gcheck_ok hg
  refine p_graph_Check (by omega) ⟨fun _ => ?_, fun q => absurd hg q⟩
  refine ⟨fun _ => ?_, fun q => absurd (by omega) q⟩
  refine p_laplacian_within (by omega) (fun _ => ⟨fun _ => ?_, fun q => absurd rfl q⟩) (fun ⟨k, hk, hp⟩ => ?_)
  · refine ⟨by omega, fun l => l <+: noLoops es, fun l => l = noLoops es, p_laplacian_links_1 (by omega), fun l out => l <+: noLoops es ∧ out = lpL n l s, ⟨List.nil_prefix, ?_⟩, ?_, ?_⟩
    · simp only [Int.toNat_natCast]
      unfold lpL
      refine eq_tab (by simp) _ fun i hi => ?_
      rw [Lp_nil, gi_of_lt (by simpa using hi)]; simp
    · rintro pre a b m out ⟨hpre, rfl⟩ hPr
      have hEn : EOk n (noLoops es) := fun x hx => hE x (List.mem_filter.1 hx).1
      have hmem : (a, b, m) ∈ noLoops es := hPr.subset (by simp)
      have hx := hEn _ hmem
      simp only at hx
      have hln : (noLoops es).length ≤ 1000 := Nat.le_trans (List.length_filter_le _ _) hl
      have hbd : ∀ j, j < n → -400000000000000 ≤ gi (lpL n pre s) j ∧ gi (lpL n pre s) j ≤ 400000000000000 := fun j hj => by
        have h1 := Lp_take_bound hEn (s := gi s) (fun j hj => by have := hs j hj; omega) hj pre.length hpre.length_le
        rw [← List.prefix_iff_eq_take.1 hpre] at h1
        have h2 : gi (lpL n pre s) j = Lp n pre (gi s) j := gi_tab _ hj
        have h3 := hpre.length_le
        rw [h2]; omega
      have hal : (lpL n pre s).length = n := tab_length _ _
      have hf := flow_bound (x := (a, b, m)) (s := gi s) (by simp only; omega) (by have := hs a.toNat (by omega); simp only; omega) (by have := hs b.toNat (by omega); simp only; omega)
      simp only at hf
      have s1 := hs a.toNat (by omega)
      have s2 := hs b.toNat (by omega)
      have b1 := hbd a.toNat (by omega)
      have b2 := hbd b.toNat (by omega)
      refine ⟨by omega, by omega, i64 (by omega), i64 (by omega), by omega, i64 (by omega), by rw [List.length_set]; omega, ?_, hPr, ?_⟩
      · rw [gi_set (by omega)]
        split <;> exact i64 (by omega)
      · exact lpL_step (x := (a, b, m)) (by simp only; omega)
    · rintro ys out ⟨-, rfl⟩ rfl
      rw [lpL_noLoops]
      have hlen : (lpL n es s).length = n := tab_length _ _
      refine p_laplacian_within (by omega) (fun _ => ⟨fun _ => h, fun q => absurd rfl q⟩) (fun ⟨k, hk, hp⟩ => ?_)
      exfalso
      have h1 := Lp_few2 hg (s := gi s) (B := 5) (by omega) (fun j hj => hs j hj) (v := k) (by omega)
      have h2 : gi (lpL n es s) k = Lp n es (gi s) k := gi_tab _ (by omega)
      rw [h2] at hp
      unfold inF at hp
      simp at hp
      omega
  · have := hs k (by omega)
    unfold inF at hp
    simp at hp
    omega
theorem p_chips_Sub {n : Nat} {a b : List Int} {R : List Int → Int → Prop} (hn : 1 ≤ n ∧ n ≤ 12) (hal : a.length = n) (hbl : b.length = n) (ha : ∀ j, j < n → -400000 ≤ gi a j ∧ gi a j ≤ 400000) (hb : ∀ j, j < n → -400000 ≤ gi b j ∧ gi b j ≤ 400000)
    (h : R (tab (fun i => gi a i - gi b i) n) 0) : pf_chips_Sub a b R := by
  unfold pf_chips_Sub pf_chips_each pf_chips_own
  have ca : checkF a n = 0 := checkF_of hal hn.1 hn.2 fun j hj => by have := ha j hj; omega
  have cb : checkF b n = 0 := checkF_of hbl hn.1 hn.2 fun j hj => by have := hb j hj; omega
  have g0 : ∀ k : Nat, k < 2 → (gx [a, b] k).length = n ∧ checkF (gx [a, b] k) n = 0 := fun k hk => by
    rcases (by omega : k = 0 ∨ k = 1) with rfl | rfl
    · exact ⟨hal, ca⟩
    · exact ⟨hbl, cb⟩
  have hl2 : ([a, b] : List (List Int)).length = 2 := rfl
  rw [hl2]
  refine ⟨Cnt 2 (fun _ => True), Cnt.start trivial, ?_⟩
  rintro m _ ⟨k, rfl, rfl, hk, -⟩
  simp only [Int.toNat_natCast]
  refine ⟨fun hlt => ⟨by omega, p_chips_Check ⟨fun _ => Cnt.next (by omega) (by omega) trivial, fun q => absurd ?_ q⟩⟩, fun hge => ?_⟩
  · rw [(g0 k (by omega)).1]; exact (g0 k (by omega)).2
  · refine ⟨Cnt 2 (fun _ => True), Cnt.start trivial, ?_⟩
    rintro m _ ⟨k2, rfl, rfl, hk2, -⟩
    simp only [Int.toNat_natCast, Int.toNat_zero]
    refine ⟨fun hlt => ⟨by omega, by omega, fun _ => Cnt.next (by omega) (by omega) trivial, fun q => absurd ?_ q⟩, fun hge => ⟨fun _ => ?_, fun q => absurd trivial q⟩⟩
    · rw [(g0 k2 (by omega)).1, (g0 0 (by omega)).1]
    · refine ⟨by omega, fun m v out => Cnt n (fun k => out = upto (fun i => gi a i - gi b i) k n) m v, ?_, ?_⟩
      · rw [hal]; exact Cnt.start (upto_zero _ _).symm
      rintro m _ out ⟨k3, rfl, rfl, hk3, rfl⟩
      simp only [Int.toNat_natCast, List.length_replicate, hal]
      refine ⟨fun hlt => ?_, fun hge => ?_⟩
      · have h1 := ha k3 (by omega)
        have h2 := hb k3 (by omega)
        unfold pf_chips_Sub_1
        refine ⟨by omega, by omega, i64 (by omega), by rw [upto_length]; omega, by rw [List.length_set, upto_length]; omega, p_chips_within ⟨fun _ => Cnt.next (by omega) (by omega) (upto_set (fun i => gi a i - gi b i) (by omega)), fun q => absurd ?_ q⟩⟩
        rw [gi_set (by rw [upto_length]; omega), if_pos rfl]
        unfold inF
        simp
        omega
      · have e : k3 = n := by omega
        subst e
        rw [upto_all]; exact h
end Go.Proofs.Ytnhmeckhlajeaaa

/- Words for the laws of layer 34. -/
namespace Go.Proofs.Ytnhmeckhlajeaaa
open Go
set_option linter.unusedVariables false
set_option linter.unusedSimpArgs false

theorem small_of {n : Int} {es : List E3} {d : List Int} (h1 : smallF n es 6 9 = true) (h2 : lowF n d = true) : Small n es d := by
  unfold smallF at h1
  rw [decide_eq_true_eq] at h1
  rw [lowF_iff] at h2
  refine ⟨h1.1, h1.2, fun hc v hv => ?_⟩
  obtain ⟨n, rfl⟩ : ∃ n' : Nat, n = (n' : Int) := ⟨n.toNat, by omega⟩
  have := (checkF_ok hc).1
  have := h2.2 hc v (by omega)
  omega
theorem small_len {n : Int} {es : List E3} (h1 : smallF n es 6 9 = true) : es.length ≤ 40 := by
  unfold smallF at h1
  rw [decide_eq_true_eq] at h1
  exact h1.1
/-- A small connected graph with a divisor that has few chips. -/
structure Right (n : Int) (es : List E3) (d : List Int) : Prop where
  few : smallF n es 6 9 = true
  joined : joinedE n es = 0
  chips : checkF d n = 0
  low : lowF n d = true
theorem Right.given {n : Int} {es : List E3} {d : List Int} (h : Right n es d) {q : Int} (hq : 0 ≤ q ∧ q < n) : givenF n es q d = 0 := by
  have hj := h.joined
  unfold joinedE at hj
  unfold givenF
  by_cases h1 : gcheckF n es = 0
  · rw [if_pos h1] at hj ⊢
    by_cases h2 : connF n es = true
    · rw [if_pos h2, if_pos hq, h.chips]
    · rw [if_neg h2] at hj; omega
  · rw [if_neg h1] at hj; exact absurd hj h1
theorem Right.graph {n : Int} {es : List E3} {d : List Int} (h : Right n es d) : gcheckF n es = 0 ∧ connF n es = true ∧ es.length ≤ 40 ∧ 1 ≤ n ∧ n ≤ 6 := by
  have hj := h.joined
  have hs := h.few
  unfold joinedE at hj
  unfold smallF at hs
  rw [decide_eq_true_eq] at hs
  by_cases h1 : gcheckF n es = 0
  · rw [if_pos h1] at hj
    have hn := (hs.2 h1).1
    have h0 : 1 ≤ n := by
      unfold gcheckF at h1
      split at h1
      · omega
      · omega
    by_cases h2 : connF n es = true
    · exact ⟨h1, h2, hs.1, h0, hn⟩
    · rw [if_neg h2] at hj; omega
  · rw [if_neg h1] at hj; exact absurd hj h1
/-- The divisor of a right pair: as long as there are vertices, with few chips. -/
theorem Right.nat {n : Nat} {es : List E3} {d : List Int} (h : Right (n : Int) es d) : d.length = n ∧ ∀ j, j < n → -100 ≤ gi d j ∧ gi d j ≤ 100 := by
  have hl := (checkF_ok h.chips).1
  refine ⟨hl, fun j hj => (lowF_iff.1 h.low).2 h.chips j (by omega)⟩
end Go.Proofs.Ytnhmeckhlajeaaa

/- What the references' pure forms on sets come to. -/
namespace Go.Proofs.Ytnhmeckhlajeaaa
open Go
set_option linter.unusedVariables false
set_option linter.unusedSimpArgs false

section
variable {n : Nat} {es : List E3} {d : List Int}
end
/-- A small connected graph with a divisor that has few chips. -/
def rightF (n : Int) (es : List E3) (d : List Int) : Prop := smallF n es 6 9 = true ∧ joinedE n es = 0 ∧ checkF d n = 0 ∧ lowF n d = true
end Go.Proofs.Ytnhmeckhlajeaaa

/- What reduced.Verify and its reference come to: the same. -/
namespace Go.Proofs.Ytnhmeckhlajeaaa
open Go
set_option linter.unusedVariables false
set_option linter.unusedSimpArgs false

/-- The error of a form and a script. -/
def VerOk (n : Int) (es : List E3) (q : Int) (d r s : List Int) (e : Int) : Prop :=
  (givenF n es q d ≠ 0 ∧ e = givenF n es q d) ∨ (givenF n es q d = 0 ∧ checkF r n ≠ 0 ∧ e = checkF r n) ∨ (givenF n es q d = 0 ∧ checkF r n = 0 ∧ checkF s n ≠ 0 ∧ e = checkF s n) ∨
  (givenF n es q d = 0 ∧ checkF r n = 0 ∧ checkF s n = 0 ∧ ((∀ v, v < n.toNat → gi r v = gi d v - Lp n.toNat es (gi s) v) ∧ Red n.toNat es q.toNat r) ∧ e = 0) ∨
  (givenF n es q d = 0 ∧ checkF r n = 0 ∧ checkF s n = 0 ∧ ¬ ((∀ v, v < n.toNat → gi r v = gi d v - Lp n.toNat es (gi s) v) ∧ Red n.toNat es q.toNat r) ∧ e = 16)
theorem VerOk.eq {n : Int} {es : List E3} {q : Int} {d r s : List Int} {e e' : Int} (h : VerOk n es q d r s e) (h' : VerOk n es q d r s e') : e = e' := by
  rcases h with h | h | h | h | h <;> rcases h' with h' | h' | h' | h' | h' <;> first | (exact absurd h'.2.2.2.1 h.2.2.2.1) | (exact absurd h.2.2.2.1 h'.2.2.2.1) | (rw [h.2.2.2.2, h'.2.2.2.2]; done) | (rw [h.2, h'.2]; done) | (exact absurd h'.1 h.1) | (exact absurd h.1 h'.1) | (rw [h.2.2, h'.2.2]; done) | (exact absurd h'.2.1 h.2.1) | (exact absurd h.2.1 h'.2.1) | (rw [h.2.2.2, h'.2.2.2]; done) | (exact absurd h'.2.2.1 h.2.2.1) | (exact absurd h.2.2.1 h'.2.2.1)
section
variable {n q : Int} {es : List E3} {d r s : List Int}
theorem p_reduced_Verify {R : Int → Prop} (hl : es.length ≤ 1000) (hdl : d.length ≤ 1000000000) (hrl : r.length ≤ 1000000000) (h : ∀ e, VerOk n es q d r s e → R e) : pf_reduced_Verify n es q d r s R := by
  unfold pf_reduced_Verify
  refine ⟨by omega, hdl, fun h0 => ?_, fun h0 => h _ (.inl ⟨h0, rfl⟩)⟩
  obtain ⟨k1, k2, k3, k4, k5⟩ := givenF_ok h0
  obtain ⟨n, rfl⟩ : ∃ n' : Nat, n = (n' : Int) := ⟨n.toNat, by omega⟩
  obtain ⟨q, rfl⟩ : ∃ q' : Nat, q = (q' : Int) := ⟨q.toNat, by omega⟩
  obtain ⟨hE, hn1, hn12⟩ := gcheck_ok k1
  refine p_chips_Check ⟨fun h1 => ?_, fun h1 => h _ (.inr (.inl ⟨h0, h1, rfl⟩))⟩
  have hf : fgivenF n es s = checkF s n := by unfold fgivenF; rw [if_pos k1]
  refine p_firing_Check (by omega) ⟨fun h2 => ?_, fun h2 => ?_⟩
  · rw [hf] at h2
    obtain ⟨hrl, -, -, hrb⟩ := checkF_ok h1
    have hgr : givenF n es q r = 0 := by unfold givenF; rw [if_pos k1, if_pos k2, if_pos ⟨k3, k4⟩, h1]
    refine p_firing_Apply hl k1 k5 h2 (fun hall => ?_) (fun hall => ?_)
    · refine ⟨(∀ v, v < n → gi r v = gi d v - Lp n es (gi s) v), fun hJ => ⟨hl, by omega, fun b _ hb => ?_⟩, fun _ => p_slices_Equal_Divisor (by rw [appF_length]; omega) ⟨fun heq => ?_, fun heq => ?_⟩, fun h => absurd rfl h⟩
      · have hb := hb hgr
        refine ⟨fun h4 => h _ (.inr (.inr (.inr (.inl ⟨h0, h1, h2, ⟨hJ, hb.1 h4⟩, rfl⟩)))), fun h4 => h _ (.inr (.inr (.inr (.inr ⟨h0, h1, h2, fun h5 => h4 (hb.2 h5.2), rfl⟩))))⟩
      · intro v hv
        rw [decide_eq_true_eq] at heq
        rw [← heq]; exact gi_tab _ hv
      · refine h _ (.inr (.inr (.inr (.inr ⟨h0, h1, h2, fun h5 => heq ?_, rfl⟩))))
        rw [decide_eq_true_eq]
        exact (eq_tab hrl _ h5.1).symm
    · refine ⟨False, fun h => h.elim, fun h => absurd h (by decide), fun _ => ?_⟩
      refine h _ (.inr (.inr (.inr (.inr ⟨h0, h1, h2, fun h5 => ?_, rfl⟩))))
      have e : r = appF n es d s := eq_tab hrl _ h5.1
      rw [← e] at hall
      rw [Bool.eq_false_iff] at hall
      apply hall
      rw [all_iff_gi]
      intro v hv
      have := hrb v (by omega)
      unfold inF
      rw [decide_eq_true_eq]; omega
  · rw [hf] at h2
    rw [hf]; exact h _ (.inr (.inr (.inl ⟨h0, h1, h2, rfl⟩)))
end
end Go.Proofs.Ytnhmeckhlajeaaa

/- What 'right' of layer 34 comes to. -/
namespace Go.Proofs.Ytnhmeckhlajeaaa
open Go
set_option linter.unusedVariables false

theorem p_l34_right {n : Int} {es : List E3} {d : List Int} {R : Bool → Prop} (h1 : Right n es d → R true) (h2 : R false) : pf_l34_right n es d R := by
  unfold pf_l34_right
  refine p_r34_Few ⟨fun q1 => ?_, fun _ => h2⟩
  have hel := small_len q1
  refine p_r25_Joined (by omega) ⟨fun q2 => p_r17_Check ⟨fun q3 => p_r34_Low ?_, fun _ => h2⟩, fun _ => h2⟩
  cases hq : lowF n d with
  | true => exact h1 ⟨q1, q2, q3, hq⟩
  | false => exact h2
theorem tmod_nat {a n : Int} (ha : 0 ≤ a) (hn : 1 ≤ n) : 0 ≤ a.tmod n ∧ a.tmod n < n := ⟨Int.tmod_nonneg _ ha, Int.tmod_lt_of_pos _ (by omega)⟩
end Go.Proofs.Ytnhmeckhlajeaaa

/- ReducedAgrees' pure form holds. -/
namespace Go.Proofs.Ytnhmeckhlajeaaa
open Go
set_option linter.unusedVariables false
set_option linter.unusedSimpArgs false

theorem p_agrees {n : Int} {es : List E3} {d a : List Int} : pf_l34_ReducedAgrees n es d a (fun r => r = true) := by
  unfold pf_l34_ReducedAgrees
  refine ⟨Right n es d ∧ (a.length : Int) = n ∧ (∀ j, j < a.length → -5 ≤ gi a j ∧ gi a j ≤ 5), fun ⟨hR, han, hab⟩ => ?_, p_l34_right (fun hR => ⟨fun _ => ⟨fun h2 => ?_, fun _ => rfl⟩, fun q => absurd rfl q⟩) ⟨fun q => (by cases q), fun _ => rfl⟩⟩
  · obtain ⟨hg, hc, hel, hn1, hn6⟩ := hR.graph
    obtain ⟨n, rfl⟩ : ∃ n' : Nat, n = (n' : Int) := ⟨n.toNat, by omega⟩
    obtain ⟨hdl, hdb⟩ := hR.nat
    obtain ⟨hE, -, -⟩ := gcheck_ok hg
    have han : a.length = n := by omega
    have hLg : ∀ v, v < n → gi (lpL n es a) v = Lp n es (gi a) v := fun v hv => gi_tab _ hv
    have hLb : ∀ v, v < n → -6000 ≤ gi (lpL n es a) v ∧ gi (lpL n es a) v ≤ 6000 := fun v hv => by
      have h1 := Lp_few2 hg (s := gi a) (B := 5) (by omega) (fun j hj => hab j (by omega)) hv
      rw [hLg v hv]; omega
    refine p_laplacian_Image (by omega) hg han (fun j hj => hab j (by omega)) ?_
    refine p_chips_Sub (n := n) (by omega) hdl (tab_length _ _) (fun j hj => by have := hdb j hj; omega) (fun j hj => by have := hLb j hj; omega) ?_
    have hog : ∀ v, v < n → gi (tab (fun i => gi d i - gi (lpL n es a) i) n) v = gi d v - Lp n es (gi a) v := fun v hv => by rw [gi_tab _ hv, hLg v hv]
    have hol : (tab (fun i => gi d i - gi (lpL n es a) i) n).length = n := tab_length _ _
    have hob : ∀ v, v < n → -7000 ≤ gi (tab (fun i => gi d i - gi (lpL n es a) i) n) v ∧ gi (tab (fun i => gi d i - gi (lpL n es a) i) n) v ≤ 7000 := fun v hv => by
      have h1 := hdb v hv
      have h2 := hLb v hv
      rw [gi_tab _ hv]; omega
    generalize tab (fun i => gi d i - gi (lpL n es a) i) n = o at hog hol hob ⊢
    refine ⟨lowF n o = true, fun hlow => ?_, True, fun _ => ⟨fun _ => ⟨fun _ => rfl, fun q => absurd rfl q⟩, fun q => absurd rfl q⟩, fun _ => ⟨fun _ => p_r34_Low ⟨fun h => h, fun _ => trivial⟩, fun q => absurd rfl q⟩, fun q => absurd rfl q⟩
    refine ⟨Cnt n (fun _ => True), Cnt.start trivial, ?_⟩
    rintro m _ ⟨q, rfl, rfl, hq, -⟩
    refine ⟨fun hlt => ?_, fun _ => rfl⟩
    have hqn : q < n := by omega
    have hoc : checkF o n = 0 := checkF_of hol (by omega) (by omega) fun j hj => by have := hob j hj; omega
    have hR2 : Right n es o := ⟨hR.few, hR.joined, hoc, hlow⟩
    have g1 := hR.given (q := q) ⟨by omega, by omega⟩
    have g2 := hR2.given (q := q) ⟨by omega, by omega⟩
    refine ⟨.inl (small_of hR.few hR.low), by omega, fun h => absurd g1 h, fun _ x s hx hxl hsl => ⟨.inl (small_of hR2.few hR2.low), by omega, fun h => absurd g2 h, fun _ y t hy hyl htl => ?_⟩⟩
    simp only [Int.toNat_natCast] at hx hxl hsl hy hyl htl
    have hxb := hx.bd
    have hsb := hx.bs
    have hxc : checkF x n = 0 := checkF_of hxl (by omega) (by omega) fun j hj => by have := hxb j hj; omega
    have hsc : checkF s n = 0 := checkF_of hsl (by omega) (by omega) fun j hj => by have := hsb j hj; omega
    have g3 : givenF n es q x = 0 := by
      obtain ⟨k1, k2, k3, k4, k5⟩ := givenF_ok g1
      unfold givenF; rw [if_pos k1, if_pos k2, if_pos ⟨k3, k4⟩, hxc]
    refine ⟨.inr ⟨by omega, fun _ => ⟨by simpa using hx.red, fun v hv => hxb v (by omega)⟩⟩, by omega, fun h => absurd g3 h, fun _ z u hz hzl hul => ?_⟩
    simp only [Int.toNat_natCast] at hz hzl hul
    -- the same form
    have exy : x = y := by
      refine (reduces_eq hE hqn hx (a' := y) (s' := tab (fun v => (gi a v + gi t v) + - gi a q) n) hyl (tab_length _ _) (fun v hv => ?_) ?_ hy.red).1
      · have e : Lp n es (gi (tab (fun v => (gi a v + gi t v) + - gi a q) n)) v = Lp n es (gi a) v + Lp n es (gi t) v := by
          rw [Lp_congr (b := fun v => (gi a v + gi t v) + - gi a q) (fun i hi => gi_tab _ hi) hv, Lp_add (fun v => gi a v + gi t v) (fun _ => - gi a q), Lp_const, Lp_add (gi a) (gi t)]; omega
        rw [e, hy.lp v hv, hog v hv]; omega
      · rw [gi_tab _ hqn, hy.sq]; omega
    have hz0 : ∀ i, gi (List.replicate n (0 : Int)) i = 0 := fun i => by
      rcases Nat.lt_or_ge i n with h | h
      · rw [gi_of_lt (by simpa using h)]; simp
      · exact gi_ge (by simpa using h)
    obtain ⟨ezx, eu⟩ := reduces_eq hE hqn hz (a' := x) (s' := List.replicate n 0) hxl (by simp) (fun v hv => by
      rw [Lp_congr (b := fun _ => 0) (fun i _ => hz0 i) hv, Lp_const]; omega) (hz0 q) hx.red
    refine ⟨True, fun _ => ?_, i64 (by omega), i64 (by omega), fun _ => ?_, fun h => absurd (by omega) h⟩
    · refine p_reduced_Verify (by omega) (by omega) (by omega) fun e he => ⟨fun _ => Cnt.next hqn (by omega) trivial, fun hne => absurd (he.eq (.inr (.inr (.inr (.inl ⟨g1, hxc, hsc, ⟨?_, ?_⟩, rfl⟩))))) hne⟩
      · simpa using hx.lp
      · simpa using hx.red
    · refine p_slices_Equal_Divisor (by omega) ⟨fun _ => p_slices_Equal_Divisor (by omega) ⟨fun _ => ?_, fun h => absurd (decide_eq_true ezx.symm) h⟩, fun h => absurd (decide_eq_true exy) h⟩
      refine p_slices_ContainsFunc_Script (p := fun x => !decide (x = 0)) (by omega) (fun x R' hR' => hR') ⟨fun h => ?_, fun _ => trivial⟩
      exfalso
      obtain ⟨j, hj, hp⟩ := any_gi.1 h
      rw [eu, hz0] at hp
      simp at hp
  · have hdl := (lowF_iff.1 hR.low).1
    refine p_slices_ContainsFunc_Script (p := fun x => decide (x < -5 ∨ 5 < x)) (by have := hR.graph; omega) (fun x R' hR' => ?_) ⟨fun _ => rfl, fun h3 => ⟨hR, h2, fun j hj => ?_⟩⟩
    · unfold pf_l34_ReducedAgrees_1
      refine ⟨fun q => ?_, fun q => ?_⟩
      · rwa [decide_eq_true (.inl q)] at hR'
      · have e : decide (5 < x) = decide (x < -5 ∨ 5 < x) := by rw [decide_eq_decide]; omega
        rw [e]; exact hR'
    · have h4 : ¬ ((gi a j < -5 ∨ 5 < gi a j)) := fun h5 => h3 (any_gi.2 ⟨j, hj, decide_eq_true h5⟩)
      omega
end Go.Proofs.Ytnhmeckhlajeaaa

/- What the arguments of the laws read as: numbers, lists, graphs; and what is handed back. -/
namespace Go.Proofs.Ytnhmeckhlajeaaa
open Go Go.ChangeShapes Go.WideShapes Go.ChangeAt Go.RowKit Go.Joins Go.Deep

theorem own : ownKnob Try.prog.godebug = none := by kernel_rfl
theorem laidOut : laidOutB Try.prog = true := by kernel_rfl
theorem cells_int : Try.prog.cellsOf 3 = 1 := by kernel_rfl
theorem cells_graph : Try.prog.cellsOf 24 = 2 := by kernel_rfl
theorem cells_edge : Try.prog.cellsOf 117 = 3 := by kernel_rfl

theorem cells3 {w : World} {base : Nat} {a : Addr} {cs : List Value} (h : w.cells? base a 3 = some cs) : ∃ x y z, cs = [x, y, z] ∧ w.cell? a = some x ∧ w.cell? (a.add 1) = some y ∧ w.cell? (a.add 2) = some z := by
  unfold World.cells? at h
  split at h
  · have e : List.range 3 = [0, 1, 2] := rfl
    rw [e] at h
    cases h0 : w.cell? (a.add 0) with
    | none => simp [h0] at h
    | some x =>
      cases h1 : w.cell? (a.add 1) with
      | none => simp [h0, h1] at h
      | some y =>
        cases h2 : w.cell? (a.add 2) with
        | none => simp [h0, h1, h2] at h
        | some z =>
          simp [h0, h1, h2] at h
          exact ⟨x, y, z, h.symm, h0, rfl, rfl⟩
  · cases h

theorem ints_sl {W : World} {A : Option Addr} {xs : List Int} {c : Nat} (hc : xs.length ≤ c) (h : Ints W A xs) : (FP.sl cI A xs.length c xs).P no W := by
  refine ⟨rfl, hc, fun h0 => ?_⟩
  obtain ⟨b, off, e, hb, hcell⟩ := h h0
  refine ⟨b, off, e, hb, id, fun k x hx => ⟨_, rfl, fun j u hj => ?_⟩⟩
  have hk : k < xs.length := (List.getElem?_eq_some_iff.1 hx).1
  have hj0 : j = 0 := by
    have := (List.getElem?_eq_some_iff.1 hj).1
    simp [fI] at this; exact this
  subst hj0
  have hu : u = .int .i64 x := by
    have : (some (Value.int .i64 x)) = some u := hj
    simpa using this.symm
  rw [gi_some hk] at hx
  cases hx
  rw [hu]
  have := hcell k hk
  simpa [cI, Fl.cod, fI] using this
theorem edges_sl {W : World} {A : Option Addr} {xs : List E3} {c : Nat} (hc : xs.length ≤ c) (h : Edges W A xs) : (FP.sl c3 A xs.length c xs).P no W := by
  refine ⟨rfl, hc, fun h0 => ?_⟩
  obtain ⟨b, off, e, hb, hcell⟩ := h h0
  refine ⟨b, off, e, hb, id, fun k x hx => ⟨_, rfl, fun j u hj => ?_⟩⟩
  have hk : k < xs.length := (List.getElem?_eq_some_iff.1 hx).1
  rw [ge_some hk] at hx
  cases hx
  obtain ⟨q0, q1, q2⟩ := hcell k hk
  match j, hj with
  | 0, hj =>
    have : (some (Value.int .i64 (ge xs k).1)) = some u := hj
    cases this; exact q0
  | 1, hj =>
    have : (some (Value.int .i64 (ge xs k).2.1)) = some u := hj
    cases this; exact q1
  | 2, hj =>
    have : (some (Value.int .i64 (ge xs k).2.2)) = some u := hj
    cases this; exact q2
  | j + 3, hj => cases hj
theorem no_dom (n : Nat) : ∀ k, no k → k < n := fun _ h => h.elim
set_option maxRecDepth 100000
variable {H : Type} {enc : TypeId × Value → H} {W : World} {r : Reach} {b0 : Nat}
theorem open_list {t : TypeId} (ht : Try.prog.underlying t = some (.slice 3)) {v : Value} {d : DataW H} {p : List MemPlace} (hv : Value.okWide Try.prog W r b0 t v) (h : DataW.Trod enc Try.prog W 0 (fun _ => true) true t v d p) :
    ∃ (A : Option Addr) (l : List Int) (c : Nat), v = .slice A l.length c ∧ (FP.sl cI A l.length c l).P no W := by
  suffices h : ∃ (A : Option Addr) (l : List Int) (c : Nat), v = .slice A l.length c ∧ l.length ≤ c ∧ Ints W A l by
    obtain ⟨A, l, c, e, hlc, hi⟩ := h
    exact ⟨A, l, c, e, ints_sl hlc hi⟩
  obtain ⟨a0, len, cap, rfl⟩ := okWide_slice ht hv
  obtain ⟨fuel, hf⟩ := h
  rcases open_ints ht Try.underlying3 cells_int hf with ⟨hcs, hx⟩ | ⟨a, len', cap', zs, hcs, _, hl, hm, hz, hx, hcell, hwz⟩
  · simp [Value.cells] at hcs
    obtain ⟨rfl, rfl, rfl⟩ := hcs
    exact ⟨none, [], 0, rfl, Nat.le_refl _, Ints.nil _ _⟩
  · simp [Value.cells] at hcs
    obtain ⟨rfl, rfl, rfl⟩ := hcs
    simp only [if_true] at hz
    refine ⟨some a, zs.take len, cap, by rw [List.length_take, Nat.min_eq_left (by omega)], by rw [List.length_take]; omega, fun hp => ?_⟩
    rw [List.length_take, Nat.min_eq_left (by omega)] at hp ⊢
    obtain ⟨b, off, rfl, hc⟩ := ints_at hcell (by omega)
    refine ⟨b, off, rfl, ?_, fun k hk => ?_⟩
    · have := hc 0 (by omega)
      apply Nat.lt_of_not_le
      intro hle
      unfold World.cell? at this
      rw [Array.getElem?_eq_none hle] at this
      simp at this
    · rw [hc k (by omega), gi_of_lt (by rw [List.length_take]; omega), List.getElem_take, List.getD_eq_getElem?_getD, List.getElem?_eq_getElem (by omega)]
      rfl
theorem open_ints_f {t : TypeId} (ht : Try.prog.underlying t = some (.slice 3)) {fuel : Nat} {v : Value} {x : DataW H × List MemPlace} (hf : DataW.trod enc Try.prog W 0 (fun _ => true) true fuel t [v] = some x) :
    ∃ (A : Option Addr) (l : List Int) (c : Nat), v = .slice A l.length c ∧ (FP.sl cI A l.length c l).P no W := by
  suffices h : ∃ (A : Option Addr) (l : List Int) (c : Nat), v = .slice A l.length c ∧ l.length ≤ c ∧ Ints W A l by
    obtain ⟨A, l, c, e, hlc, hi⟩ := h
    exact ⟨A, l, c, e, ints_sl hlc hi⟩
  rcases open_ints ht Try.underlying3 cells_int hf with ⟨hcs, hx⟩ | ⟨a, len', cap', zs, hcs, _, hl, hm, hz, hx, hcell, hwz⟩
  · simp at hcs
    subst hcs
    exact ⟨none, [], 0, rfl, Nat.le_refl _, Ints.nil _ _⟩
  · simp at hcs
    subst hcs
    simp only [if_true] at hz
    refine ⟨some a, zs.take len', cap', by rw [List.length_take, Nat.min_eq_left (by omega)], by rw [List.length_take]; omega, fun hp => ?_⟩
    rw [List.length_take, Nat.min_eq_left (by omega)] at hp ⊢
    obtain ⟨b, off, rfl, hc⟩ := ints_at hcell (by omega)
    refine ⟨b, off, rfl, ?_, fun k hk => ?_⟩
    · have := hc 0 (by omega)
      apply Nat.lt_of_not_le
      intro hle
      unfold World.cell? at this
      rw [Array.getElem?_eq_none hle] at this
      simp at this
    · rw [hc k (by omega), gi_of_lt (by rw [List.length_take]; omega), List.getElem_take, List.getD_eq_getElem?_getD, List.getElem?_eq_getElem (by omega)]
      rfl
theorem open_arr2 {t e : TypeId} {k : IntKind} (ht : Try.prog.underlying t = some (.array 2 e)) (he : Try.prog.underlying e = some (.int k)) (hC : Try.prog.cellsOf t = 2) (hce : Try.prog.cellsOf e = 1) {v : Value} {d : DataW H} {p : List MemPlace} (hv : Value.okWide Try.prog W r b0 t v) (h : DataW.Trod enc Try.prog W 0 (fun _ => true) true t v d p) :
    ∃ x y : Int, v = .agg #[.int k x, .int k y] ∧ (Lit.int k x).wf = true ∧ (Lit.int k y).wf = true := by
  simp only [Value.okWide, ht] at hv
  obtain ⟨cs, rfl, hsz, _⟩ := hv
  obtain ⟨c0, c1, rfl⟩ := array2 (hsz.trans (by first | exact hC | simp [hce]))
  obtain ⟨fuel, hf⟩ := h
  obtain ⟨xs, m, rfl, hx, hl, hn, hel⟩ := DataW.trod_array ht hf
  obtain ⟨x0, x1, rfl⟩ : ∃ x0 x1, xs = [x0, x1] := by
    match xs, hn with
    | [x0, x1], _ => exact ⟨_, _, rfl⟩
  have f0 := hel 0 (by omega)
  have f1 := hel 1 (by omega)
  simp [hce, Value.cells] at f0 f1
  obtain ⟨a, e0, -, w0⟩ := DataW.trod_int he f0
  obtain ⟨b, e1, -, w1⟩ := DataW.trod_int he f1
  simp at e0 e1
  subst e0; subst e1
  exact ⟨a, b, rfl, w0, w1⟩
theorem open_edge {fuel base : Nat} {spare : Nat → Bool} {held : Bool} {x y z : Value} {o : DataW H × List MemPlace} (h : DataW.trod enc Try.prog W base spare held fuel 117 [x, y, z] = some o) : ∃ a b c : Int, x = .int .i64 a ∧ y = .int .i64 b ∧ z = .int .i64 c := by
  obtain ⟨xs, n, _, rfl, hl, hlen, hf⟩ := DataW.trod_struct Try.underlying117 h
  obtain ⟨x0, x1, x2, rfl⟩ : ∃ x0 x1 x2, xs = [x0, x1, x2] := by
    match xs, hlen with
    | [x0, x1, x2], _ => exact ⟨_, _, _, rfl⟩
  have f0 := hf 0 _ rfl
  have f1 := hf 1 _ rfl
  have f2 := hf 2 _ rfl
  simp [cells_int] at f0 f1 f2
  obtain ⟨a, e0, -, -⟩ := DataW.trod_int Try.underlying3 f0
  obtain ⟨b, e1, -, -⟩ := DataW.trod_int Try.underlying3 f1
  obtain ⟨c, e2, -, -⟩ := DataW.trod_int Try.underlying3 f2
  simp at e0 e1 e2
  exact ⟨a, b, c, e0, e1, e2⟩
theorem open_graph {v : Value} {d : DataW H} {p : List MemPlace} (hv : Value.okWide Try.prog W r b0 24 v) (h : DataW.Trod enc Try.prog W 0 (fun _ => true) true 24 v d p) :
    ∃ (n : Int) (A : Option Addr) (es : List E3) (c : Nat), v = .agg #[.int .i64 n, .slice A es.length c] ∧ (FP.sl c3 A es.length c es).P no W := by
  suffices h : ∃ (n : Int) (A : Option Addr) (es : List E3) (c : Nat), v = .agg #[.int .i64 n, .slice A es.length c] ∧ es.length ≤ c ∧ Edges W A es by
    obtain ⟨n, A, l, c, e, hlc, hi⟩ := h
    exact ⟨n, A, l, c, e, edges_sl hlc hi⟩
  obtain ⟨c0, c1, y0, y1, m, rfl, rfl, rfl, hy0, hy1⟩ := open_agg2 Try.underlying24 (by kernel_rfl) cells_graph hv h
  obtain ⟨n, e0, -, -⟩ := DataW.trod_int Try.underlying3 hy0
  simp at e0
  subst e0
  rcases open_slice Try.underlying22 hy1 with ⟨hcs, -⟩ | ⟨a, len, cap, mm, nn, D, Pl, hcs, -, hl, hm, hmm, -, hel⟩
  · simp at hcs
    subst hcs
    exact ⟨n, none, [], 0, rfl, Nat.le_refl _, fun h => absurd h (by simp)⟩
  · simp at hcs
    subst hcs
    simp only [if_true] at hmm
    have hex : ∀ i, i < len → ∃ e : E3, W.cell? (a.add (i * 3)) = some (.int .i64 e.1) ∧ W.cell? ((a.add (i * 3)).add 1) = some (.int .i64 e.2.1) ∧ W.cell? ((a.add (i * 3)).add 2) = some (.int .i64 e.2.2) := fun i hi => by
      obtain ⟨cs', hc, ht⟩ := hel i (by omega)
      rw [cells_edge] at hc
      obtain ⟨x, y, z, rfl, k0, k1, k2⟩ := cells3 hc
      obtain ⟨xa, xb, xc, rfl, rfl, rfl⟩ := open_edge ht
      exact ⟨(xa, xb, xc), k0, k1, k2⟩
    let f : Nat → E3 := fun i => if h : i < len then Classical.choose (hex i h) else (0, 0, 0)
    have hf : ∀ i, i < len → W.cell? (a.add (i * 3)) = some (.int .i64 (f i).1) ∧ W.cell? ((a.add (i * 3)).add 1) = some (.int .i64 (f i).2.1) ∧ W.cell? ((a.add (i * 3)).add 2) = some (.int .i64 (f i).2.2) := fun i hi => by
      show _ ∧ _ ∧ _
      have e : f i = Classical.choose (hex i hi) := dif_pos hi
      rw [e]
      exact Classical.choose_spec (hex i hi)
    have hlen : ((List.range len).map f).length = len := by simp
    refine ⟨n, some a, (List.range len).map f, cap, by rw [hlen], by rw [hlen]; omega, fun hp => ?_⟩
    rw [hlen] at hp ⊢
    obtain ⟨b, off, spot⟩ := a
    have hspot : spot = none := by simpa [Addr.add] using World.cell?_spot (hf 0 hp).1
    subst hspot
    refine ⟨b, off, rfl, ?_, fun k hk => ?_⟩
    · have := (hf 0 hp).1
      apply Nat.lt_of_not_le
      intro hle
      unfold World.cell? at this
      rw [Array.getElem?_eq_none (by simpa [Addr.add] using hle)] at this
      simp at this
    · have hg : ge ((List.range len).map f) k = f k := by rw [ge_of_lt (by rw [hlen]; exact hk)]; simp
      rw [hg]
      have := hf k hk
      simpa [Addr.add_mid] using this
end Go.Proofs.Ytnhmeckhlajeaaa
