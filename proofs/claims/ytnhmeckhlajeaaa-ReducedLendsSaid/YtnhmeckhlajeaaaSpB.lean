/- What the references' pure forms come to: connectedness, errors, scripts. -/
import Derived.Test.YtnhmeckhlajeaaaSpA
namespace Go.Proofs.Ytnhmeckhlajeaaa
open Go
set_option linter.unusedVariables false
set_option linter.unusedSimpArgs false

section
variable {n : Nat} {es : List E3}
theorem p_r08_Reached {v : Nat} {R : List Bool → Prop} (hl : es.length ≤ 1000000000) (hg : gcheckF n es = 0) (hv : v < n) (h : ∀ o : List Bool, o.length = n → (∀ u, u < n → gb o u = decide (root (joinedF es) u = root (joinedF es) v)) → R o) : pf_r08_Reached (n : Int) es (v : Int) R := by
  obtain ⟨hE, hn1, hn12⟩ := gcheck_ok hg
  unfold pf_r08_Reached
  simp only [Int.toNat_natCast]
  refine ⟨by omega, by simp; omega, ?_⟩
  let Q : List Bool → Prop := fun o => o.length = n ∧ gb o v = true ∧ ∀ u, u < n → gb o u = true → root (joinedF es) u = root (joinedF es) v
  let Z : List Bool → List Bool → Prop := fun o0 o => (Cl n es o0 → o = o0) ∧ (o = o0 ∨ cf o < cf o0) ∧ ∀ a, gb o0 a = true → gb o a = true
  have hq4 : Q ((List.replicate n false).set v true) := by
    refine ⟨by simp, by rw [gb_set (by simpa using hv), if_pos rfl], fun u hu h => ?_⟩
    rw [gb_set (by simpa using hv)] at h
    split at h
    · rename_i e; rw [e]
    · rw [gb_rep] at h; cases h
  have hcf0 : cf ((List.replicate n false).set v true) + 1 = n := by
    rw [cf_set (by simpa using hv) (gb_rep n v)]
    unfold cf
    rw [List.filter_eq_self.2 (fun x hx => by rw [(List.mem_replicate.1 hx).2]; rfl)]
    simp
  have hsetQ : ∀ {o : List Bool} {b : Nat}, Q o → b < n → root (joinedF es) b = root (joinedF es) v → Q (o.set b true) := by
    rintro o b ⟨q1, q4, q5⟩ hb hr
    have hbl : b < o.length := by omega
    refine ⟨by simpa using q1, ?_, fun u hu h => ?_⟩
    · rw [gb_set hbl]; split <;> first | rfl | exact q4
    · rw [gb_set hbl] at h
      split at h
      · rename_i e; rw [e]; exact hr
      · exact q5 u hu h
  refine ⟨fun m i o => Cnt n (fun k => Q o ∧ (Cl n es o ∨ cf o + k + 1 ≤ n)) m i, Cnt.start ⟨hq4, .inr (by omega)⟩, ?_⟩
  rintro m _ o0 ⟨k, rfl, rfl, hk, hq5, hpr⟩
  refine ⟨fun hlt => ?_, fun hge => ?_⟩
  · refine ⟨fun m i o => Cnt n (fun a => Q o ∧ Z o0 o ∧ ∀ a', a' < a → gb o0 a' = true → ∀ b, b < n → 0 < W es a' b → gb o b = true) m i, Cnt.start ⟨hq5, ⟨fun _ => rfl, .inl rfl, fun _ h => h⟩, fun a' h => absurd h (by omega)⟩, ?_⟩
    rintro m _ o ⟨a, rfl, rfl, ha, hq6, hz, hdone⟩
    refine ⟨fun hlta => ?_, fun hgea => ?_⟩
    · refine ⟨fun m i o => Cnt n (fun b => Q o ∧ Z o0 o ∧ (∀ a', a' < a → gb o0 a' = true → ∀ b, b < n → 0 < W es a' b → gb o b = true) ∧ (gb o0 a = true → ∀ b', b' < b → 0 < W es a b' → gb o b' = true)) m i, Cnt.start ⟨hq6, hz, hdone, fun _ b' h => absurd h (by omega)⟩, ?_⟩
      clear hq6 hz hdone hq5
      rintro m _ o ⟨b, rfl, rfl, hb, hq7, hz, hdone, hnow⟩
      have hol := hq7.1
      refine ⟨fun hltb => ⟨by omega, fun hx => ?_, fun hx => Cnt.next (by omega) (by omega) ⟨hq7, hz, hdone, fun h => absurd (hz.2.2 a h) (by simpa using hx)⟩⟩, fun hgeb => ?_⟩
      · simp only [Int.toNat_natCast] at hx ⊢
        have hstep : (a ≠ b → 0 < W es a b) → Q (o.set b true) ∧ Z o0 (o.set b true) ∧ (∀ a', a' < a → gb o0 a' = true → ∀ b', b' < n → 0 < W es a' b' → gb (o.set b true) b' = true) ∧ (gb o0 a = true → ∀ b', b' < b + 1 → 0 < W es a b' → gb (o.set b true) b' = true) := by
          intro hW
          have hbl : b < o.length := by omega
          have hup : ∀ x, gb o x = true → gb (o.set b true) x = true := fun x h => by rw [gb_set hbl]; split <;> first | rfl | exact h
          have hrb : root (joinedF es) b = root (joinedF es) v := by
            have h1 := hq7.2.2 a (by omega) hx
            by_cases eab : a = b
            · rw [← eab]; exact h1
            · rw [← root_W hE hn1 hn12 (hW eab)]; exact h1
          refine ⟨hsetQ hq7 (by omega) hrb, ⟨fun hcl => ?_, ?_, fun x h => hup x (hz.2.2 x h)⟩, fun a' h1 h2 b' h3 h4 => hup _ (hdone a' h1 h2 b' h3 h4), fun h1 b' h2 h3 => ?_⟩
          · have e0 := hz.1 hcl
            subst e0
            refine set_same ?_
            by_cases eab : a = b
            · rw [← eab]; exact hx
            · exact hcl a b (by omega) (by omega) hx (hW eab)
          · cases hob : gb o b with
            | true => rw [set_same hob]; exact hz.2.1
            | false =>
              have := cf_set hbl hob
              rcases hz.2.1 with h | h
              · right; rw [← h]; omega
              · right; omega
          · by_cases e2 : b' = b
            · subst e2; rw [gb_set hbl, if_pos rfl]
            · exact hup _ (hnow h1 b' (by omega) h3)
        have hpass : ¬ 0 < W es a b → (gb o0 a = true → ∀ b', b' < b + 1 → 0 < W es a b' → gb o b' = true) := fun h h1 b' h2 h3 => by
          by_cases e2 : b' = b
          · subst e2; exact absurd h3 h
          · exact hnow h1 b' (by omega) h3
        by_cases eab : a = b
        · subst eab
          refine p_r08_Between' hl ⟨fun h => ⟨by omega, Cnt.next (by omega) (by omega) (hstep fun h => absurd rfl h)⟩, fun h => Cnt.next (by omega) (by omega) ⟨hq7, hz, hdone, hpass (by rw [show W es a a = 0 from W_self es a]; omega)⟩⟩
        · refine p_r08_Between hl hg eab ⟨fun h => ⟨by omega, Cnt.next (by omega) (by omega) (hstep fun _ => h)⟩, fun h => Cnt.next (by omega) (by omega) ⟨hq7, hz, hdone, hpass h⟩⟩
      · have hbn : b = n := by omega
        subst hbn
        refine Cnt.next (by omega) (by omega) ⟨hq7, hz, fun a' h1 h2 b' h3 h4 => ?_⟩
        by_cases e2 : a' = a
        · subst e2; exact hnow h2 b' h3 h4
        · exact hdone a' (by omega) h2 b' h3 h4
    · have han : a = n := by omega
      subst han
      refine Cnt.next (by omega) (by omega) ⟨hq6, ?_⟩
      by_cases hcl : Cl a es o0
      · rw [hz.1 hcl]; exact .inl hcl
      · rcases hz.2.1 with h | h
        · exfalso
          subst h
          exact hcl fun x y hx hy h1 h2 => hdone x hx h1 y hy h2
        · rcases hpr with h2 | h2
          · exact absurd h2 hcl
          · right; omega
  · have hkn : k = n := by omega
    subst hkn
    rcases hpr with q | q
    · exact h o0 hq5.1 (cl_root hE hn1 hn12 q hv hq5.2.1 hq5.2.2)
    · omega
theorem p_r08_Parts {R : Int → Prop} (hl : es.length ≤ 1000000000) (hg : gcheckF n es = 0) (h : ∀ k : Int, (k = 1 ↔ connF n es = true) → R k) : pf_r08_Parts (n : Int) es R := by
  obtain ⟨hE, hn1, hn12⟩ := gcheck_ok hg
  have hcr := conn_root hE hn1 hn12
  unfold pf_r08_Parts
  simp only [Int.toNat_natCast]
  refine ⟨by omega, ?_⟩
  refine ⟨fun m k i o => Cnt n (fun v => 0 ≤ k ∧ k ≤ v ∧ (v = 0 → k = 0) ∧ (0 < v → 1 ≤ k ∧ (k = 1 ↔ ∀ x, x < v → root (joinedF es) x = root (joinedF es) 0)) ∧ o.length = n ∧ (∀ u, u < n → (gb o u = true ↔ ∃ x, x < v ∧ root (joinedF es) u = root (joinedF es) x))) m i,
    Cnt.start ⟨by omega, by omega, fun _ => rfl, fun h => absurd h (by omega), by simp, fun u _ => by rw [gb_rep]; simp⟩, ?_⟩
  rintro m k _ o ⟨v, rfl, rfl, hv, k0, k1, k2, k3, hol, hseen⟩
  refine ⟨fun hlt => ?_, fun hge => ?_⟩
  · have hlt : v < n := by omega
    simp only [Int.toNat_natCast]
    refine ⟨by omega, fun hx => ?_, fun hx => ⟨i64 (by omega), p_r08_Reached hl hg hlt fun ro hrl hro => ?_⟩⟩
    · obtain ⟨x, hxv, hxr⟩ := (hseen v hlt).1 hx
      refine Cnt.next hlt (by omega) ⟨k0, by omega, fun h => absurd h (by omega), fun _ => ?_, hol, fun u hu => ?_⟩
      · have h3 := k3 (by omega)
        refine ⟨h3.1, ?_⟩
        rw [h3.2]
        constructor
        · intro h y hy
          by_cases e : y = v
          · subst e; rw [hxr]; exact h x hxv
          · exact h y (by omega)
        · intro h y hy; exact h y (by omega)
      · rw [hseen u hu]
        constructor
        · rintro ⟨y, hy, hyr⟩; exact ⟨y, by omega, hyr⟩
        · rintro ⟨y, hy, hyr⟩
          by_cases e : y = v
          · subst e; exact ⟨x, hxv, hyr.trans hxr⟩
          · exact ⟨y, by omega, hyr⟩
    · refine ⟨fun m i o' => Cnt n (fun u => o'.length = n ∧ (∀ x, x < n → (gb o' x = true ↔ (gb o x = true ∨ (x < u ∧ gb ro x = true))))) m i, Cnt.start ⟨hol, fun x _ => by simp⟩, ?_⟩
      rintro m _ o' ⟨u, rfl, rfl, hu, hol', hor⟩
      refine ⟨fun hltu => ?_, fun hgeu => ?_⟩
      · have hltu : u < n := by omega
        simp only [Int.toNat_natCast]
        have hou := hor u hltu
        have st : ∀ b : Bool, (b = true ↔ (gb o u = true ∨ gb ro u = true)) → (o'.set u b).length = n ∧ (∀ x, x < n → (gb (o'.set u b) x = true ↔ (gb o x = true ∨ (x < u + 1 ∧ gb ro x = true)))) := fun b hbb => by
          refine ⟨by simpa using hol', fun x hx => ?_⟩
          rw [gb_set (by omega)]
          by_cases e : x = u
          · subst e
            rw [if_pos rfl, hbb]
            constructor
            · rintro (h | h)
              · exact .inl h
              · exact .inr ⟨by omega, h⟩
            · rintro (h | h)
              · exact .inl h
              · exact .inr h.2
          · rw [if_neg e, hor x hx]
            constructor
            · rintro (h | h)
              · exact .inl h
              · exact .inr ⟨by omega, h.2⟩
            · rintro (h | h)
              · exact .inl h
              · exact .inr ⟨by omega, h.2⟩
        refine ⟨by omega, fun hx2 => Cnt.next hltu (by omega) (st true ?_), fun hx2 => ⟨by omega, Cnt.next hltu (by omega) (st _ ?_)⟩⟩
        · have := hou.1 hx2
          constructor
          · intro _; rcases this with h | h
            · exact .inl h
            · exact .inr h.2
          · intro _; rfl
        · constructor
          · intro h; exact .inr h
          · rintro (h | h)
            · exact absurd (hou.2 (.inl h)) hx2
            · exact h
      · have hun : u = n := by omega
        subst hun
        have hnew : ¬ ∃ x, x < v ∧ root (joinedF es) v = root (joinedF es) x := fun h => hx ((hseen v hlt).2 h)
        refine Cnt.next (by omega) (by omega) ⟨by omega, by omega, fun h => absurd h (by omega), fun _ => ⟨by omega, ?_⟩, hol', fun x hxn => ?_⟩
        · by_cases e0 : v = 0
          · subst e0
            have := k2 rfl
            subst this
            constructor
            · intro _ y hy; rw [show y = 0 by omega]
            · intro _; rfl
          · have h3 := k3 (by omega)
            constructor
            · intro h; omega
            · intro h; exact absurd ⟨0, by omega, h v (by omega)⟩ hnew
        · rw [hor x hxn, hseen x hxn, hro x hxn, decide_eq_true_eq]
          constructor
          · rintro (⟨y, hy, hyr⟩ | h)
            · exact ⟨y, by omega, hyr⟩
            · exact ⟨v, by omega, h.2⟩
          · rintro ⟨y, hy, hyr⟩
            by_cases e : y = v
            · subst e; exact .inr ⟨hxn, hyr⟩
            · exact .inl ⟨y, by omega, hyr⟩
  · have hvn : v = n := by omega
    subst hvn
    refine h k ?_
    rw [(k3 (by omega)).2, hcr]
theorem p_r08_Connected {R : Bool → Prop} (hl : es.length ≤ 1000000000) (hg : gcheckF n es = 0) (h : R (connF n es)) : pf_r08_Connected (n : Int) es R :=
  p_r08_Parts hl hg fun k hk => by
    have e : decide (k = 1) = connF n es := by rw [Bool.eq_iff_iff, decide_eq_true_eq]; exact hk
    rw [e]; exact h
end
section
variable {n q : Int} {es : List E3} {d s : List Int}
theorem p_r25_Joined {R : Int → Prop} (hl : es.length ≤ 1000000000) (h : R (joinedE n es)) : pf_r25_Joined n es R := by
  unfold pf_r25_Joined
  unfold joinedE at h
  refine p_r08_Check hl ⟨fun h0 => ?_, fun h0 => by rwa [if_neg h0] at h⟩
  rw [if_pos h0] at h
  have hn : 1 ≤ n ∧ n ≤ 12 := by
    unfold gcheckF at h0
    split at h0
    · assumption
    · omega
  obtain ⟨n, rfl⟩ : ∃ n' : Nat, n = (n' : Int) := ⟨n.toNat, by omega⟩
  exact p_r08_Connected hl h0 ⟨fun h1 => by rwa [if_pos h1] at h, fun h1 => by rwa [if_neg h1] at h⟩
def sinkE (n : Int) (es : List E3) (q : Int) : Int := if joinedE n es = 0 then (if 0 ≤ q ∧ q < n then 0 else 2) else joinedE n es
theorem p_r25_Sink {R : Int → Prop} (hl : es.length ≤ 1000000000) (h : R (sinkE n es q)) : pf_r25_Sink n es q R := by
  unfold pf_r25_Sink
  unfold sinkE at h
  refine p_r25_Joined hl ⟨fun h0 => ?_, fun h0 => by rwa [if_neg h0] at h⟩
  rw [if_pos h0] at h
  exact p_r08_Vertex ⟨fun h1 => by rwa [if_pos (by simpa using h1)] at h, fun h1 => by rwa [if_neg (by simpa using h1)] at h⟩
theorem given_sink : givenF n es q d = if sinkE n es q = 0 then checkF d n else sinkE n es q := by
  unfold givenF sinkE joinedE
  by_cases h1 : gcheckF n es = 0
  · rw [if_pos h1, if_pos h1]
    by_cases h2 : connF n es = true
    · rw [if_pos h2, if_pos h2, if_pos rfl]
      by_cases h3 : 0 ≤ q ∧ q < n
      · rw [if_pos h3, if_pos h3, if_pos rfl]
      · rw [if_neg h3, if_neg h3, if_neg (by omega)]
    · rw [if_neg h2, if_neg h2, if_neg (by omega), if_neg (by omega)]
  · rw [if_neg h1, if_neg h1, if_neg h1, if_neg h1]
theorem p_r34_Given {R : Int → Prop} (hl : es.length ≤ 1000000000) (hdl : d.length ≤ 1000000000) (h : R (givenF n es q d)) : pf_r34_Given n es q d R := by
  unfold pf_r34_Given
  rw [given_sink] at h
  exact p_r25_Sink hl ⟨fun h0 => p_r17_Check hdl (by rwa [if_pos h0] at h), fun h0 => by rwa [if_neg h0] at h⟩
/-- Few chips, or an error. -/
def lowF (n : Int) (d : List Int) : Bool := decide (d.length ≤ 100 ∧ (checkF d n = 0 → ∀ j, j < d.length → -100 ≤ gi d j ∧ gi d j ≤ 100))
theorem lowF_iff : lowF n d = true ↔ d.length ≤ 100 ∧ (checkF d n = 0 → ∀ j, j < d.length → -100 ≤ gi d j ∧ gi d j ≤ 100) := by unfold lowF; exact decide_eq_true_iff
theorem p_r34_Low {R : Bool → Prop} (h : R (lowF n d)) : pf_r34_Low n es d R := by
  unfold pf_r34_Low
  have ht : (d.length ≤ 100 ∧ (checkF d n = 0 → ∀ j, j < d.length → -100 ≤ gi d j ∧ gi d j ≤ 100)) → R true := fun q => by rwa [lowF_iff.2 q] at h
  have hf : ¬ (d.length ≤ 100 ∧ (checkF d n = 0 → ∀ j, j < d.length → -100 ≤ gi d j ∧ gi d j ≤ 100)) → R false := fun q => by
    have : lowF n d = false := by rw [Bool.eq_false_iff]; exact fun q2 => q (lowF_iff.1 q2)
    rwa [this] at h
  refine ⟨fun h1 => hf (by omega), fun h1 => p_r17_Check (by omega) ⟨fun h2 => ?_, fun h2 => ht ⟨by omega, fun q => absurd q h2⟩⟩⟩
  refine ⟨Cnt d.length (fun k => ∀ j, j < k → -100 ≤ gi d j ∧ gi d j ≤ 100), Cnt.start (fun j hj => absurd hj (by omega)), ?_⟩
  rintro m _ ⟨k, rfl, rfl, hk, hinv⟩
  simp only [Int.toNat_natCast]
  refine ⟨fun hlt => ⟨by omega, fun h3 => hf fun q => ?_, fun h3 => ⟨fun h4 => hf fun q => ?_, fun h4 => Cnt.next (by omega) (by omega) fun j hj => ?_⟩⟩, fun hge => ht ⟨by omega, fun _ j hj => hinv j (by omega)⟩⟩
  · have := q.2 h2 k (by omega); omega
  · have := q.2 h2 k (by omega); omega
  · by_cases e : j = k
    · subst e; omega
    · exact hinv j (by omega)
theorem p_r34_Debt {R : Bool → Prop} (hdl : d.length ≤ 1000000000) (h : R (owesF q d)) : pf_r34_Debt d q R := by
  unfold pf_r34_Debt
  refine ⟨Cnt d.length (fun k => ∀ j : Nat, j < k → ¬ ((j : Int) ≠ q ∧ gi d j < 0)), Cnt.start (fun j hj => absurd hj (by omega)), ?_⟩
  rintro m _ ⟨k, rfl, rfl, hk, hinv⟩
  simp only [Int.toNat_natCast]
  have hnx : ¬ ((k : Int) ≠ q ∧ gi d k < 0) → ∀ j : Nat, j < k + 1 → ¬ ((j : Int) ≠ q ∧ gi d j < 0) := fun h1 j hj => by
    by_cases e : j = k
    · subst e; exact h1
    · exact hinv j (by omega)
  refine ⟨fun hlt => ⟨fun h1 => Cnt.next (by omega) (by omega) (hnx (by omega)), fun h1 => ⟨by omega, fun h2 => ?_, fun h2 => Cnt.next (by omega) (by omega) (hnx (by omega))⟩⟩, fun hge => ?_⟩
  · have e : true = owesF q d := by
      symm; unfold owesF; rw [List.any_eq_true]
      exact ⟨k, by simp; omega, by simp; exact ⟨h1, h2⟩⟩
    rw [e]; exact h
  · have e : false = owesF q d := by
      symm; rw [Bool.eq_false_iff]; unfold owesF; rw [Ne, List.any_eq_true]
      rintro ⟨j, hj, h2⟩
      simp at hj h2
      exact hinv j (by omega) h2
    rw [e]; exact h
/-- The Laplacian of a script, as a list. -/
def lpL (n : Nat) (es : List E3) (s : List Int) : List Int := tab (fun v => Lp n es (gi s) v) n
theorem Lp_row {n : Nat} {es : List E3} (s : List Int) {v : Nat} (hv : v < n) : sm n (fun k => (if v = k then deg n es v else - W es v k) * gi s k) = Lp n es (gi s) v := by
  have e : (fun k => (if v = k then deg n es v else - W es v k) * gi s k) = (fun k => (if k = v then gi s v * deg n es v else 0) - gi s k * W es v k) := by
    funext k
    by_cases e : v = k
    · subst e; rw [if_pos rfl, if_pos rfl, W_self, Int.mul_comm]; omega
    · rw [if_neg e, if_neg (fun q => e q.symm), Int.mul_comm]; simp only [Int.mul_neg]; omega
  rw [Lp_ind, e, sm_sub, sm_one _ hv]
  exact congrArg _ (sm_congr fun k _ => by rw [W_symm es v k])
theorem p_r15_entry {n i k : Nat} {es : List E3} {R : Int → Prop} (hl : es.length ≤ 1000000000) (hg : gcheckF n es = 0) (h : R (if i = k then deg n es i else - W es i k)) : pf_r15_entry (n : Int) es (i : Int) (k : Int) R := by
  unfold pf_r15_entry
  have := W_le50 hg i k
  refine ⟨fun h1 => p_r08_Valence hl hg (by rwa [if_pos (by omega)] at h), fun h1 => p_r08_Between hl hg (by omega) ⟨i64 (by omega), by rwa [if_neg (by omega)] at h⟩⟩
theorem row_bound {n : Nat} {es : List E3} (hg : gcheckF n es = 0) {s : List Int} (hs : ∀ j, j < n → -2000000000 ≤ gi s j ∧ gi s j ≤ 2000000000) (i k : Nat) (hk : k < n) : -1200000000000 ≤ (if i = k then deg n es i else - W es i k) * gi s k ∧ (if i = k then deg n es i else - W es i k) * gi s k ≤ 1200000000000 := by
  obtain ⟨hE, hn1, hn12⟩ := gcheck_ok hg
  have h1 := deg_bound hg n i
  have h2 := W_le50 hg i k
  have h3 := hs k hk
  have hb : -600 ≤ (if i = k then deg n es i else - W es i k) ∧ (if i = k then deg n es i else - W es i k) ≤ 600 := by
    unfold deg
    split <;> omega
  generalize (if i = k then deg n es i else - W es i k) = c at hb ⊢
  generalize gi s k = x at h3 ⊢
  have := Int.natAbs_mul c x
  have h4 : c.natAbs ≤ 600 := by omega
  have h5 : x.natAbs ≤ 2000000000 := by omega
  have := Nat.mul_le_mul h4 h5
  omega
theorem p_r15_Moved {n : Nat} {es : List E3} {s : List Int} {R : List Int → Prop} (hl : es.length ≤ 1000000000) (hg : gcheckF n es = 0) (hsl : s.length = n) (hs : ∀ j, j < n → -2000000000 ≤ gi s j ∧ gi s j ≤ 2000000000) (h : R (lpL n es s)) : pf_r15_Moved (n : Int) es s R := by
  obtain ⟨hE, hn1, hn12⟩ := gcheck_ok hg
  unfold pf_r15_Moved
  simp only [Int.toNat_natCast]
  refine ⟨by omega, fun m i out => Cnt n (fun k => out = upto (fun v => Lp n es (gi s) v) k n) m i, Cnt.start (upto_zero _ _).symm, ?_⟩
  rintro m _ out ⟨i, rfl, rfl, hi, rfl⟩
  refine ⟨fun hlt => ?_, fun hge => ?_⟩
  · have hlt : i < n := by omega
    have hset0 : upto (fun v => Lp n es (gi s) v) i n = (upto (fun v => Lp n es (gi s) v) i n).set i 0 := by
      refine gi_ext (by simp) fun j hj => ?_
      rw [upto_length] at hj
      rw [gi_set (by rw [upto_length]; exact hlt)]
      split
      · rename_i e; subst e; rw [gi_upto _ _ _ _ hj, if_neg (by omega)]
      · rfl
    refine ⟨fun m k out => Cnt n (fun k => out = (upto (fun v => Lp n es (gi s) v) i n).set i (sm k (fun k => (if i = k then deg n es i else - W es i k) * gi s k))) m k, Cnt.start hset0, ?_⟩
    rintro m _ out ⟨k, rfl, rfl, hk, rfl⟩
    refine ⟨fun hltk => ?_, fun hgek => ?_⟩
    · have hltk : k < n := by omega
      have hrb := row_bound hg hs i
      have hb := sm_bound (f := fun k => (if i = k then deg n es i else - W es i k) * gi s k) (B := 1200000000000) (by omega) (n := k) fun j hj => hrb j (by omega)
      have hb1 := hrb k hltk
      simp only [Int.toNat_natCast]
      refine ⟨by simp [upto_length]; omega, by omega, p_r15_entry hl hg ⟨i64 (by omega), ?_, Cnt.next hltk (by omega) ?_⟩⟩
      · rw [gi_set (by rw [upto_length]; exact hlt), if_pos rfl]
        have : (k : Int) * 1200000000000 ≤ 12 * 1200000000000 := by omega
        exact i64 (by omega)
      · rw [gi_set (by rw [upto_length]; exact hlt), if_pos rfl, List.set_set, sm]
    · have hkn : k = n := by omega
      subst hkn
      refine Cnt.next hlt (by omega) ?_
      rw [Lp_row s hlt]
      exact upto_set (fun v => Lp k es (gi s) v) hlt
  · have hkn : i = n := by omega
    subst hkn
    rw [upto_all]; exact h
/-- The sum with a multiple. -/
def plusF (a b : List Int) (k : Int) : List Int := tab (fun i => gi a i + k * gi b i) a.length
theorem p_r25_Plus {a b : List Int} {k : Int} {R : List Int → Prop} (hl : a.length ≤ 1000) (hlb : a.length ≤ b.length) (hk : -1 ≤ k ∧ k ≤ 1) (ha : ∀ j, j < a.length → -1000000000000000 ≤ gi a j ∧ gi a j ≤ 1000000000000000) (hb : ∀ j, j < a.length → -1000000000000000 ≤ gi b j ∧ gi b j ≤ 1000000000000000) (h : R (plusF a b k)) : pf_r25_Plus a b k R := by
  unfold pf_r25_Plus
  simp only [Int.toNat_natCast]
  refine ⟨by omega, fun m i out => Cnt a.length (fun j => out = upto (fun i => gi a i + k * gi b i) j a.length) m i, Cnt.start (upto_zero _ _).symm, ?_⟩
  rintro m _ out ⟨i, rfl, rfl, hi, rfl⟩
  refine ⟨fun hlt => ?_, fun hge => ?_⟩
  · have hlt : i < a.length := by omega
    have h1 := ha i hlt
    have h2 := hb i hlt
    simp only [Int.toNat_natCast]
    have hkb : -1000000000000000 ≤ k * gi b i ∧ k * gi b i ≤ 1000000000000000 := by
      have : k = -1 ∨ k = 0 ∨ k = 1 := by omega
      rcases this with rfl | rfl | rfl <;> omega
    refine ⟨by omega, by omega, i64 (by omega), i64 (by omega), by rw [upto_length]; omega, Cnt.next hlt (by omega) ?_⟩
    exact upto_set (fun i => gi a i + k * gi b i) hlt
  · have hkn : i = a.length := by omega
    subst hkn
    rw [upto_all]; exact h
theorem Lp_bound {n : Nat} {es : List E3} (hg : gcheckF n es = 0) {s : List Int} (hs : ∀ j, j < n → -2000000000 ≤ gi s j ∧ gi s j ≤ 2000000000) {v : Nat} (hv : v < n) : -20000000000000 ≤ Lp n es (gi s) v ∧ Lp n es (gi s) v ≤ 20000000000000 := by
  obtain ⟨hE, hn1, hn12⟩ := gcheck_ok hg
  rw [← Lp_row s hv]
  have hb := sm_bound (f := fun k => (if v = k then deg n es v else - W es v k) * gi s k) (B := 1200000000000) (by omega) (n := n) fun j hj => row_bound hg hs v j hj
  have : (n : Int) * 1200000000000 ≤ 12 * 1200000000000 := by omega
  omega
/-- A divisor behind a script. -/
def appF (n : Nat) (es : List E3) (d s : List Int) : List Int := tab (fun v => gi d v - Lp n es (gi s) v) n
theorem appF_length {n : Nat} {es : List E3} {d s : List Int} : (appF n es d s).length = n := tab_length _ _
theorem p_r34_Applied {n : Nat} {es : List E3} {d s : List Int} {R : List Int → Prop} (hl : es.length ≤ 1000000000) (hg : gcheckF n es = 0) (hdl : d.length = n) (hd : ∀ j, j < n → -1000000000000000 ≤ gi d j ∧ gi d j ≤ 1000000000000000) (hsl : s.length = n) (hs : ∀ j, j < n → -2000000000 ≤ gi s j ∧ gi s j ≤ 2000000000) (h : R (appF n es d s)) : pf_r34_Applied (n : Int) es d s R := by
  obtain ⟨hE, hn1, hn12⟩ := gcheck_ok hg
  have hll : (lpL n es s).length = n := tab_length _ _
  refine p_r15_Moved hl hg hsl hs (p_r25_Plus (by omega) (by omega) (by omega) (fun j hj => hd j (by omega)) (fun j hj => ?_) ?_)
  · unfold lpL
    rw [gi_tab _ (show j < n by omega)]
    have := Lp_bound hg hs (show j < n by omega)
    omega
  · have e : plusF d (lpL n es s) (-1) = appF n es d s := by
      unfold plusF appF
      rw [hdl]
      refine tab_congr fun i hi => ?_
      unfold lpL
      rw [gi_tab _ hi]; omega
    rw [e]; exact h
theorem p_r34_Leads {n : Nat} {es : List E3} {d b s : List Int} {R : Bool → Prop} (hl : es.length ≤ 1000000000) (hg : gcheckF n es = 0) (hdl : d.length = n) (hd : ∀ j, j < n → -1000000000000000 ≤ gi d j ∧ gi d j ≤ 1000000000000000) (hsl : s.length = n) (hs : ∀ j, j < n → -2000000000 ≤ gi s j ∧ gi s j ≤ 2000000000) (hbl : b.length = n)
    (h1 : (∀ v, v < n → gi b v = gi d v - Lp n es (gi s) v) → R true) (h2 : ¬ (∀ v, v < n → gi b v = gi d v - Lp n es (gi s) v) → R false) : pf_r34_Leads (n : Int) es d b s R := by
  obtain ⟨hE, hn1, hn12⟩ := gcheck_ok hg
  refine p_r34_Applied hl hg hdl hd hsl hs ?_
  refine ⟨Cnt n (fun k => ∀ v, v < k → gi b v = gi d v - Lp n es (gi s) v), Cnt.start (fun v hv => absurd hv (by omega)), ?_⟩
  rintro m _ ⟨k, rfl, rfl, hk, hinv⟩
  simp only [Int.toNat_natCast]
  refine ⟨fun hlt => ?_, fun hge => h1 fun v hv => hinv v (by omega)⟩
  have hga : gi (appF n es d s) k = gi d k - Lp n es (gi s) k := gi_tab _ (by omega)
  refine ⟨by rw [appF_length]; omega, by omega, fun q => Cnt.next (by omega) (by omega) fun v hv => ?_, fun q => h2 fun hall => q ?_⟩
  · by_cases e : v = k
    · subst e; rw [← q, hga]
    · exact hinv v (by omega)
  · rw [hga, hall k (by omega)]
end
end Go.Proofs.Ytnhmeckhlajeaaa
