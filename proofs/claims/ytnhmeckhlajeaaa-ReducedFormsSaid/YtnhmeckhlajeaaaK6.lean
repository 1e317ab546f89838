/- Texts laid together: SpB, SpD, SpC, SpT, SpS, L34, FormsP, Opn. -/
import Derived.Test.YtnhmeckhlajeaaaRows
import Derived.ProofKit
import Derived.Lib.SmallJoins
import Derived.Deep.Slices
import Derived.Below
import Derived.OpenShut
import Derived.Test.YtnhmeckhlajeaaaK5
/- What the references' pure forms come to: connectedness, errors, scripts. -/
namespace Go.Proofs.Ytnhmeckhlajeaaa
open Go
set_option linter.unusedVariables false
set_option linter.unusedSimpArgs false

section
variable {n : Nat} {es : List E3}
theorem p_r08_Reached {v : Nat} {R : List Bool → Prop} (hl : es.length ≤ 1000000000) (hg : gcheckF n es = 0) (hv : v < n) (h : ∀ o : List Bool, o.length = n → (∀ u, u < n → gb o u = decide (root (joinedF es) u = root (joinedF es) v)) → R o) : pf_r08_Reached (n : Int) es (v : Int) R := by
  obtain ⟨hE, hn1, hn12⟩ := gcheck_ok hg
  unfold pf_r08_Reached
  simp only [Int.toNat_natCast]
  refine ⟨by omega, by simp; omega, ?_⟩
  let Q : List Bool → Prop := fun o => o.length = n ∧ gb o v = true ∧ ∀ u, u < n → gb o u = true → root (joinedF es) u = root (joinedF es) v
  let Z : List Bool → List Bool → Prop := fun o0 o => (Cl n es o0 → o = o0) ∧ (o = o0 ∨ cf o < cf o0) ∧ ∀ a, gb o0 a = true → gb o a = true
  have hq4 : Q ((List.replicate n false).set v true) := by
    refine ⟨by simp, by rw [gb_set (by simpa using hv), if_pos rfl], fun u hu h => ?_⟩
    rw [gb_set (by simpa using hv)] at h
    split at h
    · rename_i e; rw [e]
    · rw [gb_rep] at h; cases h
  have hcf0 : cf ((List.replicate n false).set v true) + 1 = n := by
    rw [cf_set (by simpa using hv) (gb_rep n v)]
    unfold cf
    rw [List.filter_eq_self.2 (fun x hx => by rw [(List.mem_replicate.1 hx).2]; rfl)]
    simp
  have hsetQ : ∀ {o : List Bool} {b : Nat}, Q o → b < n → root (joinedF es) b = root (joinedF es) v → Q (o.set b true) := by
    rintro o b ⟨q1, q4, q5⟩ hb hr
    have hbl : b < o.length := by omega
    refine ⟨by simpa using q1, ?_, fun u hu h => ?_⟩
    · rw [gb_set hbl]; split <;> first | rfl | exact q4
    · rw [gb_set hbl] at h
      split at h
      · rename_i e; rw [e]; exact hr
      · exact q5 u hu h
  refine ⟨fun m i o => Cnt n (fun k => Q o ∧ (Cl n es o ∨ cf o + k + 1 ≤ n)) m i, Cnt.start ⟨hq4, .inr (by omega)⟩, ?_⟩
  rintro m _ o0 ⟨k, rfl, rfl, hk, hq5, hpr⟩
  refine ⟨fun hlt => ?_, fun hge => ?_⟩
  · refine ⟨fun m i o => Cnt n (fun a => Q o ∧ Z o0 o ∧ ∀ a', a' < a → gb o0 a' = true → ∀ b, b < n → 0 < W es a' b → gb o b = true) m i, Cnt.start ⟨hq5, ⟨fun _ => rfl, .inl rfl, fun _ h => h⟩, fun a' h => absurd h (by omega)⟩, ?_⟩
    rintro m _ o ⟨a, rfl, rfl, ha, hq6, hz, hdone⟩
    refine ⟨fun hlta => ?_, fun hgea => ?_⟩
    · refine ⟨fun m i o => Cnt n (fun b => Q o ∧ Z o0 o ∧ (∀ a', a' < a → gb o0 a' = true → ∀ b, b < n → 0 < W es a' b → gb o b = true) ∧ (gb o0 a = true → ∀ b', b' < b → 0 < W es a b' → gb o b' = true)) m i, Cnt.start ⟨hq6, hz, hdone, fun _ b' h => absurd h (by omega)⟩, ?_⟩
      clear hq6 hz hdone hq5
      rintro m _ o ⟨b, rfl, rfl, hb, hq7, hz, hdone, hnow⟩
      have hol := hq7.1
      refine ⟨fun hltb => ⟨by omega, fun hx => ?_, fun hx => Cnt.next (by omega) (by omega) ⟨hq7, hz, hdone, fun h => absurd (hz.2.2 a h) (by simpa using hx)⟩⟩, fun hgeb => ?_⟩
      · simp only [Int.toNat_natCast] at hx ⊢
        have hstep : (a ≠ b → 0 < W es a b) → Q (o.set b true) ∧ Z o0 (o.set b true) ∧ (∀ a', a' < a → gb o0 a' = true → ∀ b', b' < n → 0 < W es a' b' → gb (o.set b true) b' = true) ∧ (gb o0 a = true → ∀ b', b' < b + 1 → 0 < W es a b' → gb (o.set b true) b' = true) := by
          intro hW
          have hbl : b < o.length := by omega
          have hup : ∀ x, gb o x = true → gb (o.set b true) x = true := fun x h => by rw [gb_set hbl]; split <;> first | rfl | exact h
          have hrb : root (joinedF es) b = root (joinedF es) v := by
            have h1 := hq7.2.2 a (by omega) hx
            by_cases eab : a = b
            · rw [← eab]; exact h1
            · rw [← root_W hE hn1 hn12 (hW eab)]; exact h1
          refine ⟨hsetQ hq7 (by omega) hrb, ⟨fun hcl => ?_, ?_, fun x h => hup x (hz.2.2 x h)⟩, fun a' h1 h2 b' h3 h4 => hup _ (hdone a' h1 h2 b' h3 h4), fun h1 b' h2 h3 => ?_⟩
          · have e0 := hz.1 hcl
            subst e0
            refine set_same ?_
            by_cases eab : a = b
            · rw [← eab]; exact hx
            · exact hcl a b (by omega) (by omega) hx (hW eab)
          · cases hob : gb o b with
            | true => rw [set_same hob]; exact hz.2.1
            | false =>
              have := cf_set hbl hob
              rcases hz.2.1 with h | h
              · right; rw [← h]; omega
              · right; omega
          · by_cases e2 : b' = b
            · subst e2; rw [gb_set hbl, if_pos rfl]
            · exact hup _ (hnow h1 b' (by omega) h3)
        have hpass : ¬ 0 < W es a b → (gb o0 a = true → ∀ b', b' < b + 1 → 0 < W es a b' → gb o b' = true) := fun h h1 b' h2 h3 => by
          by_cases e2 : b' = b
          · subst e2; exact absurd h3 h
          · exact hnow h1 b' (by omega) h3
        by_cases eab : a = b
        · subst eab
          refine p_r08_Between' hl ⟨fun h => ⟨by omega, Cnt.next (by omega) (by omega) (hstep fun h => absurd rfl h)⟩, fun h => Cnt.next (by omega) (by omega) ⟨hq7, hz, hdone, hpass (by rw [show W es a a = 0 from W_self es a]; omega)⟩⟩
        · refine p_r08_Between hl hg eab ⟨fun h => ⟨by omega, Cnt.next (by omega) (by omega) (hstep fun _ => h)⟩, fun h => Cnt.next (by omega) (by omega) ⟨hq7, hz, hdone, hpass h⟩⟩
      · have hbn : b = n := by omega
        subst hbn
        refine Cnt.next (by omega) (by omega) ⟨hq7, hz, fun a' h1 h2 b' h3 h4 => ?_⟩
        by_cases e2 : a' = a
        · subst e2; exact hnow h2 b' h3 h4
        · exact hdone a' (by omega) h2 b' h3 h4
    · have han : a = n := by omega
      subst han
      refine Cnt.next (by omega) (by omega) ⟨hq6, ?_⟩
      by_cases hcl : Cl a es o0
      · rw [hz.1 hcl]; exact .inl hcl
      · rcases hz.2.1 with h | h
        · exfalso
          subst h
          exact hcl fun x y hx hy h1 h2 => hdone x hx h1 y hy h2
        · rcases hpr with h2 | h2
          · exact absurd h2 hcl
          · right; omega
  · have hkn : k = n := by omega
    subst hkn
    rcases hpr with q | q
    · exact h o0 hq5.1 (cl_root hE hn1 hn12 q hv hq5.2.1 hq5.2.2)
    · omega
theorem p_r08_Parts {R : Int → Prop} (hl : es.length ≤ 1000000000) (hg : gcheckF n es = 0) (h : ∀ k : Int, (k = 1 ↔ connF n es = true) → R k) : pf_r08_Parts (n : Int) es R := by
  obtain ⟨hE, hn1, hn12⟩ := gcheck_ok hg
  have hcr := conn_root hE hn1 hn12
  unfold pf_r08_Parts
  simp only [Int.toNat_natCast]
  refine ⟨by omega, ?_⟩
  refine ⟨fun m k i o => Cnt n (fun v => 0 ≤ k ∧ k ≤ v ∧ (v = 0 → k = 0) ∧ (0 < v → 1 ≤ k ∧ (k = 1 ↔ ∀ x, x < v → root (joinedF es) x = root (joinedF es) 0)) ∧ o.length = n ∧ (∀ u, u < n → (gb o u = true ↔ ∃ x, x < v ∧ root (joinedF es) u = root (joinedF es) x))) m i,
    Cnt.start ⟨by omega, by omega, fun _ => rfl, fun h => absurd h (by omega), by simp, fun u _ => by rw [gb_rep]; simp⟩, ?_⟩
  rintro m k _ o ⟨v, rfl, rfl, hv, k0, k1, k2, k3, hol, hseen⟩
  refine ⟨fun hlt => ?_, fun hge => ?_⟩
  · have hlt : v < n := by omega
    simp only [Int.toNat_natCast]
    refine ⟨by omega, fun hx => ?_, fun hx => ⟨i64 (by omega), p_r08_Reached hl hg hlt fun ro hrl hro => ?_⟩⟩
    · obtain ⟨x, hxv, hxr⟩ := (hseen v hlt).1 hx
      refine Cnt.next hlt (by omega) ⟨k0, by omega, fun h => absurd h (by omega), fun _ => ?_, hol, fun u hu => ?_⟩
      · have h3 := k3 (by omega)
        refine ⟨h3.1, ?_⟩
        rw [h3.2]
        constructor
        · intro h y hy
          by_cases e : y = v
          · subst e; rw [hxr]; exact h x hxv
          · exact h y (by omega)
        · intro h y hy; exact h y (by omega)
      · rw [hseen u hu]
        constructor
        · rintro ⟨y, hy, hyr⟩; exact ⟨y, by omega, hyr⟩
        · rintro ⟨y, hy, hyr⟩
          by_cases e : y = v
          · subst e; exact ⟨x, hxv, hyr.trans hxr⟩
          · exact ⟨y, by omega, hyr⟩
    · refine ⟨fun m i o' => Cnt n (fun u => o'.length = n ∧ (∀ x, x < n → (gb o' x = true ↔ (gb o x = true ∨ (x < u ∧ gb ro x = true))))) m i, Cnt.start ⟨hol, fun x _ => by simp⟩, ?_⟩
      rintro m _ o' ⟨u, rfl, rfl, hu, hol', hor⟩
      refine ⟨fun hltu => ?_, fun hgeu => ?_⟩
      · have hltu : u < n := by omega
        simp only [Int.toNat_natCast]
        have hou := hor u hltu
        have st : ∀ b : Bool, (b = true ↔ (gb o u = true ∨ gb ro u = true)) → (o'.set u b).length = n ∧ (∀ x, x < n → (gb (o'.set u b) x = true ↔ (gb o x = true ∨ (x < u + 1 ∧ gb ro x = true)))) := fun b hbb => by
          refine ⟨by simpa using hol', fun x hx => ?_⟩
          rw [gb_set (by omega)]
          by_cases e : x = u
          · subst e
            rw [if_pos rfl, hbb]
            constructor
            · rintro (h | h)
              · exact .inl h
              · exact .inr ⟨by omega, h⟩
            · rintro (h | h)
              · exact .inl h
              · exact .inr h.2
          · rw [if_neg e, hor x hx]
            constructor
            · rintro (h | h)
              · exact .inl h
              · exact .inr ⟨by omega, h.2⟩
            · rintro (h | h)
              · exact .inl h
              · exact .inr ⟨by omega, h.2⟩
        refine ⟨by omega, fun hx2 => Cnt.next hltu (by omega) (st true ?_), fun hx2 => ⟨by omega, Cnt.next hltu (by omega) (st _ ?_)⟩⟩
        · have := hou.1 hx2
          constructor
          · intro _; rcases this with h | h
            · exact .inl h
            · exact .inr h.2
          · intro _; rfl
        · constructor
          · intro h; exact .inr h
          · rintro (h | h)
            · exact absurd (hou.2 (.inl h)) hx2
            · exact h
      · have hun : u = n := by omega
        subst hun
        have hnew : ¬ ∃ x, x < v ∧ root (joinedF es) v = root (joinedF es) x := fun h => hx ((hseen v hlt).2 h)
        refine Cnt.next (by omega) (by omega) ⟨by omega, by omega, fun h => absurd h (by omega), fun _ => ⟨by omega, ?_⟩, hol', fun x hxn => ?_⟩
        · by_cases e0 : v = 0
          · subst e0
            have := k2 rfl
            subst this
            constructor
            · intro _ y hy; rw [show y = 0 by omega]
            · intro _; rfl
          · have h3 := k3 (by omega)
            constructor
            · intro h; omega
            · intro h; exact absurd ⟨0, by omega, h v (by omega)⟩ hnew
        · rw [hor x hxn, hseen x hxn, hro x hxn, decide_eq_true_eq]
          constructor
          · rintro (⟨y, hy, hyr⟩ | h)
            · exact ⟨y, by omega, hyr⟩
            · exact ⟨v, by omega, h.2⟩
          · rintro ⟨y, hy, hyr⟩
            by_cases e : y = v
            · subst e; exact .inr ⟨hxn, hyr⟩
            · exact .inl ⟨y, by omega, hyr⟩
  · have hvn : v = n := by omega
    subst hvn
    refine h k ?_
    rw [(k3 (by omega)).2, hcr]
theorem p_r08_Connected {R : Bool → Prop} (hl : es.length ≤ 1000000000) (hg : gcheckF n es = 0) (h : R (connF n es)) : pf_r08_Connected (n : Int) es R :=
  p_r08_Parts hl hg fun k hk => by
    have e : decide (k = 1) = connF n es := by rw [Bool.eq_iff_iff, decide_eq_true_eq]; exact hk
    rw [e]; exact h
end
section
variable {n q : Int} {es : List E3} {d s : List Int}
theorem p_r25_Joined {R : Int → Prop} (hl : es.length ≤ 1000000000) (h : R (joinedE n es)) : pf_r25_Joined n es R := by
  unfold pf_r25_Joined
  unfold joinedE at h
  refine p_r08_Check hl ⟨fun h0 => ?_, fun h0 => by rwa [if_neg h0] at h⟩
  rw [if_pos h0] at h
  have hn : 1 ≤ n ∧ n ≤ 12 := by
    unfold gcheckF at h0
    split at h0
    · assumption
    · omega
  obtain ⟨n, rfl⟩ : ∃ n' : Nat, n = (n' : Int) := ⟨n.toNat, by omega⟩
  exact p_r08_Connected hl h0 ⟨fun h1 => by rwa [if_pos h1] at h, fun h1 => by rwa [if_neg h1] at h⟩
def sinkE (n : Int) (es : List E3) (q : Int) : Int := if joinedE n es = 0 then (if 0 ≤ q ∧ q < n then 0 else 2) else joinedE n es
theorem p_r25_Sink {R : Int → Prop} (hl : es.length ≤ 1000000000) (h : R (sinkE n es q)) : pf_r25_Sink n es q R := by
  unfold pf_r25_Sink
  unfold sinkE at h
  refine p_r25_Joined hl ⟨fun h0 => ?_, fun h0 => by rwa [if_neg h0] at h⟩
  rw [if_pos h0] at h
  exact p_r08_Vertex ⟨fun h1 => by rwa [if_pos (by simpa using h1)] at h, fun h1 => by rwa [if_neg (by simpa using h1)] at h⟩
theorem given_sink : givenF n es q d = if sinkE n es q = 0 then checkF d n else sinkE n es q := by
  unfold givenF sinkE joinedE
  by_cases h1 : gcheckF n es = 0
  · rw [if_pos h1, if_pos h1]
    by_cases h2 : connF n es = true
    · rw [if_pos h2, if_pos h2, if_pos rfl]
      by_cases h3 : 0 ≤ q ∧ q < n
      · rw [if_pos h3, if_pos h3, if_pos rfl]
      · rw [if_neg h3, if_neg h3, if_neg (by omega)]
    · rw [if_neg h2, if_neg h2, if_neg (by omega), if_neg (by omega)]
  · rw [if_neg h1, if_neg h1, if_neg h1, if_neg h1]
theorem p_r34_Given {R : Int → Prop} (hl : es.length ≤ 1000000000) (h : R (givenF n es q d)) : pf_r34_Given n es q d R := by
  unfold pf_r34_Given
  rw [given_sink] at h
  exact p_r25_Sink hl ⟨fun h0 => p_r17_Check (by rwa [if_pos h0] at h), fun h0 => by rwa [if_neg h0] at h⟩
/-- Few chips, or an error. -/
def lowF (n : Int) (d : List Int) : Bool := decide (d.length ≤ 100 ∧ (checkF d n = 0 → ∀ j, j < d.length → -100 ≤ gi d j ∧ gi d j ≤ 100))
theorem lowF_iff : lowF n d = true ↔ d.length ≤ 100 ∧ (checkF d n = 0 → ∀ j, j < d.length → -100 ≤ gi d j ∧ gi d j ≤ 100) := by unfold lowF; exact decide_eq_true_iff
theorem p_r34_Low {R : Bool → Prop} (h : R (lowF n d)) : pf_r34_Low n es d R := by
  unfold pf_r34_Low
  have ht : (d.length ≤ 100 ∧ (checkF d n = 0 → ∀ j, j < d.length → -100 ≤ gi d j ∧ gi d j ≤ 100)) → R true := fun q => by rwa [lowF_iff.2 q] at h
  have hf : ¬ (d.length ≤ 100 ∧ (checkF d n = 0 → ∀ j, j < d.length → -100 ≤ gi d j ∧ gi d j ≤ 100)) → R false := fun q => by
    have : lowF n d = false := by rw [Bool.eq_false_iff]; exact fun q2 => q (lowF_iff.1 q2)
    rwa [this] at h
  refine ⟨fun h1 => hf (by omega), fun h1 => p_r17_Check ⟨fun h2 => ?_, fun h2 => ht ⟨by omega, fun q => absurd q h2⟩⟩⟩
  refine ⟨Cnt d.length (fun k => ∀ j, j < k → -100 ≤ gi d j ∧ gi d j ≤ 100), Cnt.start (fun j hj => absurd hj (by omega)), ?_⟩
  rintro m _ ⟨k, rfl, rfl, hk, hinv⟩
  simp only [Int.toNat_natCast]
  refine ⟨fun hlt => ⟨by omega, fun h3 => hf fun q => ?_, fun h3 => ⟨fun h4 => hf fun q => ?_, fun h4 => Cnt.next (by omega) (by omega) fun j hj => ?_⟩⟩, fun hge => ht ⟨by omega, fun _ j hj => hinv j (by omega)⟩⟩
  · have := q.2 h2 k (by omega); omega
  · have := q.2 h2 k (by omega); omega
  · by_cases e : j = k
    · subst e; omega
    · exact hinv j (by omega)
theorem p_r34_Debt {R : Bool → Prop} (hdl : d.length ≤ 1000000000) (h : R (owesF q d)) : pf_r34_Debt d q R := by
  unfold pf_r34_Debt
  refine ⟨Cnt d.length (fun k => ∀ j : Nat, j < k → ¬ ((j : Int) ≠ q ∧ gi d j < 0)), Cnt.start (fun j hj => absurd hj (by omega)), ?_⟩
  rintro m _ ⟨k, rfl, rfl, hk, hinv⟩
  simp only [Int.toNat_natCast]
  have hnx : ¬ ((k : Int) ≠ q ∧ gi d k < 0) → ∀ j : Nat, j < k + 1 → ¬ ((j : Int) ≠ q ∧ gi d j < 0) := fun h1 j hj => by
    by_cases e : j = k
    · subst e; exact h1
    · exact hinv j (by omega)
  refine ⟨fun hlt => ⟨fun h1 => Cnt.next (by omega) (by omega) (hnx (by omega)), fun h1 => ⟨by omega, fun h2 => ?_, fun h2 => Cnt.next (by omega) (by omega) (hnx (by omega))⟩⟩, fun hge => ?_⟩
  · have e : true = owesF q d := by
      symm; unfold owesF; rw [List.any_eq_true]
      exact ⟨k, by simp; omega, by simp; exact ⟨h1, h2⟩⟩
    rw [e]; exact h
  · have e : false = owesF q d := by
      symm; rw [Bool.eq_false_iff]; unfold owesF; rw [Ne, List.any_eq_true]
      rintro ⟨j, hj, h2⟩
      simp at hj h2
      exact hinv j (by omega) h2
    rw [e]; exact h
/-- The Laplacian of a script, as a list. -/
def lpL (n : Nat) (es : List E3) (s : List Int) : List Int := tab (fun v => Lp n es (gi s) v) n
theorem Lp_row {n : Nat} {es : List E3} (s : List Int) {v : Nat} (hv : v < n) : sm n (fun k => (if v = k then deg n es v else - W es v k) * gi s k) = Lp n es (gi s) v := by
  have e : (fun k => (if v = k then deg n es v else - W es v k) * gi s k) = (fun k => (if k = v then gi s v * deg n es v else 0) - gi s k * W es v k) := by
    funext k
    by_cases e : v = k
    · subst e; rw [if_pos rfl, if_pos rfl, W_self, Int.mul_comm]; omega
    · rw [if_neg e, if_neg (fun q => e q.symm), Int.mul_comm]; simp only [Int.mul_neg]; omega
  rw [Lp_ind, e, sm_sub, sm_one _ hv]
  exact congrArg _ (sm_congr fun k _ => by rw [W_symm es v k])
theorem p_r15_entry {n i k : Nat} {es : List E3} {R : Int → Prop} (hl : es.length ≤ 1000000000) (hg : gcheckF n es = 0) (h : R (if i = k then deg n es i else - W es i k)) : pf_r15_entry (n : Int) es (i : Int) (k : Int) R := by
  unfold pf_r15_entry
  have := W_le50 hg i k
  refine ⟨fun h1 => p_r08_Valence hl hg (by rwa [if_pos (by omega)] at h), fun h1 => p_r08_Between hl hg (by omega) ⟨i64 (by omega), by rwa [if_neg (by omega)] at h⟩⟩
theorem row_bound {n : Nat} {es : List E3} (hg : gcheckF n es = 0) {s : List Int} (hs : ∀ j, j < n → -2000000000 ≤ gi s j ∧ gi s j ≤ 2000000000) (i k : Nat) (hk : k < n) : -1200000000000 ≤ (if i = k then deg n es i else - W es i k) * gi s k ∧ (if i = k then deg n es i else - W es i k) * gi s k ≤ 1200000000000 := by
  obtain ⟨hE, hn1, hn12⟩ := gcheck_ok hg
  have h1 := deg_bound hg n i
  have h2 := W_le50 hg i k
  have h3 := hs k hk
  have hb : -600 ≤ (if i = k then deg n es i else - W es i k) ∧ (if i = k then deg n es i else - W es i k) ≤ 600 := by
    unfold deg
    split <;> omega
  generalize (if i = k then deg n es i else - W es i k) = c at hb ⊢
  generalize gi s k = x at h3 ⊢
  have := Int.natAbs_mul c x
  have h4 : c.natAbs ≤ 600 := by omega
  have h5 : x.natAbs ≤ 2000000000 := by omega
  have := Nat.mul_le_mul h4 h5
  omega
theorem p_r15_Moved {n : Nat} {es : List E3} {s : List Int} {R : List Int → Prop} (hl : es.length ≤ 1000000000) (hg : gcheckF n es = 0) (hsl : s.length = n) (hs : ∀ j, j < n → -2000000000 ≤ gi s j ∧ gi s j ≤ 2000000000) (h : R (lpL n es s)) : pf_r15_Moved (n : Int) es s R := by
  obtain ⟨hE, hn1, hn12⟩ := gcheck_ok hg
  unfold pf_r15_Moved
  simp only [Int.toNat_natCast]
  refine ⟨by omega, fun m i out => Cnt n (fun k => out = upto (fun v => Lp n es (gi s) v) k n) m i, Cnt.start (upto_zero _ _).symm, ?_⟩
  rintro m _ out ⟨i, rfl, rfl, hi, rfl⟩
  refine ⟨fun hlt => ?_, fun hge => ?_⟩
  · have hlt : i < n := by omega
    have hset0 : upto (fun v => Lp n es (gi s) v) i n = (upto (fun v => Lp n es (gi s) v) i n).set i 0 := by
      refine gi_ext (by simp) fun j hj => ?_
      rw [upto_length] at hj
      rw [gi_set (by rw [upto_length]; exact hlt)]
      split
      · rename_i e; subst e; rw [gi_upto _ _ _ _ hj, if_neg (by omega)]
      · rfl
    refine ⟨fun m k out => Cnt n (fun k => out = (upto (fun v => Lp n es (gi s) v) i n).set i (sm k (fun k => (if i = k then deg n es i else - W es i k) * gi s k))) m k, Cnt.start hset0, ?_⟩
    rintro m _ out ⟨k, rfl, rfl, hk, rfl⟩
    refine ⟨fun hltk => ?_, fun hgek => ?_⟩
    · have hltk : k < n := by omega
      have hrb := row_bound hg hs i
      have hb := sm_bound (f := fun k => (if i = k then deg n es i else - W es i k) * gi s k) (B := 1200000000000) (by omega) (n := k) fun j hj => hrb j (by omega)
      have hb1 := hrb k hltk
      simp only [Int.toNat_natCast]
      refine ⟨by simp [upto_length]; omega, by omega, p_r15_entry hl hg ⟨i64 (by omega), ?_, Cnt.next hltk (by omega) ?_⟩⟩
      · rw [gi_set (by rw [upto_length]; exact hlt), if_pos rfl]
        have : (k : Int) * 1200000000000 ≤ 12 * 1200000000000 := by omega
        exact i64 (by omega)
      · rw [gi_set (by rw [upto_length]; exact hlt), if_pos rfl, List.set_set, sm]
    · have hkn : k = n := by omega
      subst hkn
      refine Cnt.next hlt (by omega) ?_
      rw [Lp_row s hlt]
      exact upto_set (fun v => Lp k es (gi s) v) hlt
  · have hkn : i = n := by omega
    subst hkn
    rw [upto_all]; exact h
/-- The sum with a multiple. -/
def plusF (a b : List Int) (k : Int) : List Int := tab (fun i => gi a i + k * gi b i) a.length
theorem p_r25_Plus {a b : List Int} {k : Int} {R : List Int → Prop} (hl : a.length ≤ 1000) (hlb : a.length ≤ b.length) (hk : -1 ≤ k ∧ k ≤ 1) (ha : ∀ j, j < a.length → -1000000000000000 ≤ gi a j ∧ gi a j ≤ 1000000000000000) (hb : ∀ j, j < a.length → -1000000000000000 ≤ gi b j ∧ gi b j ≤ 1000000000000000) (h : R (plusF a b k)) : pf_r25_Plus a b k R := by
  unfold pf_r25_Plus
  simp only [Int.toNat_natCast]
  refine ⟨by omega, fun m i out => Cnt a.length (fun j => out = upto (fun i => gi a i + k * gi b i) j a.length) m i, Cnt.start (upto_zero _ _).symm, ?_⟩
  rintro m _ out ⟨i, rfl, rfl, hi, rfl⟩
  refine ⟨fun hlt => ?_, fun hge => ?_⟩
  · have hlt : i < a.length := by omega
    have h1 := ha i hlt
    have h2 := hb i hlt
    simp only [Int.toNat_natCast]
    have hkb : -1000000000000000 ≤ k * gi b i ∧ k * gi b i ≤ 1000000000000000 := by
      have : k = -1 ∨ k = 0 ∨ k = 1 := by omega
      rcases this with rfl | rfl | rfl <;> omega
    refine ⟨by omega, by omega, i64 (by omega), i64 (by omega), by rw [upto_length]; omega, Cnt.next hlt (by omega) ?_⟩
    exact upto_set (fun i => gi a i + k * gi b i) hlt
  · have hkn : i = a.length := by omega
    subst hkn
    rw [upto_all]; exact h
theorem Lp_bound {n : Nat} {es : List E3} (hg : gcheckF n es = 0) {s : List Int} (hs : ∀ j, j < n → -2000000000 ≤ gi s j ∧ gi s j ≤ 2000000000) {v : Nat} (hv : v < n) : -20000000000000 ≤ Lp n es (gi s) v ∧ Lp n es (gi s) v ≤ 20000000000000 := by
  obtain ⟨hE, hn1, hn12⟩ := gcheck_ok hg
  rw [← Lp_row s hv]
  have hb := sm_bound (f := fun k => (if v = k then deg n es v else - W es v k) * gi s k) (B := 1200000000000) (by omega) (n := n) fun j hj => row_bound hg hs v j hj
  have : (n : Int) * 1200000000000 ≤ 12 * 1200000000000 := by omega
  omega
/-- A divisor behind a script. -/
def appF (n : Nat) (es : List E3) (d s : List Int) : List Int := tab (fun v => gi d v - Lp n es (gi s) v) n
theorem appF_length {n : Nat} {es : List E3} {d s : List Int} : (appF n es d s).length = n := tab_length _ _
theorem p_r34_Applied {n : Nat} {es : List E3} {d s : List Int} {R : List Int → Prop} (hl : es.length ≤ 1000000000) (hg : gcheckF n es = 0) (hdl : d.length = n) (hd : ∀ j, j < n → -1000000000000000 ≤ gi d j ∧ gi d j ≤ 1000000000000000) (hsl : s.length = n) (hs : ∀ j, j < n → -2000000000 ≤ gi s j ∧ gi s j ≤ 2000000000) (h : R (appF n es d s)) : pf_r34_Applied (n : Int) es d s R := by
  obtain ⟨hE, hn1, hn12⟩ := gcheck_ok hg
  have hll : (lpL n es s).length = n := tab_length _ _
  refine p_r15_Moved hl hg hsl hs (p_r25_Plus (by omega) (by omega) (by omega) (fun j hj => hd j (by omega)) (fun j hj => ?_) ?_)
  · unfold lpL
    rw [gi_tab _ (show j < n by omega)]
    have := Lp_bound hg hs (show j < n by omega)
    omega
  · have e : plusF d (lpL n es s) (-1) = appF n es d s := by
      unfold plusF appF
      rw [hdl]
      refine tab_congr fun i hi => ?_
      unfold lpL
      rw [gi_tab _ hi]; omega
    rw [e]; exact h
theorem p_r34_Leads {n : Nat} {es : List E3} {d b s : List Int} {R : Bool → Prop} (hl : es.length ≤ 1000000000) (hg : gcheckF n es = 0) (hdl : d.length = n) (hd : ∀ j, j < n → -1000000000000000 ≤ gi d j ∧ gi d j ≤ 1000000000000000) (hsl : s.length = n) (hs : ∀ j, j < n → -2000000000 ≤ gi s j ∧ gi s j ≤ 2000000000) (hbl : b.length = n)
    (h1 : (∀ v, v < n → gi b v = gi d v - Lp n es (gi s) v) → R true) (h2 : ¬ (∀ v, v < n → gi b v = gi d v - Lp n es (gi s) v) → R false) : pf_r34_Leads (n : Int) es d b s R := by
  obtain ⟨hE, hn1, hn12⟩ := gcheck_ok hg
  refine p_r34_Applied hl hg hdl hd hsl hs ?_
  refine ⟨Cnt n (fun k => ∀ v, v < k → gi b v = gi d v - Lp n es (gi s) v), Cnt.start (fun v hv => absurd hv (by omega)), ?_⟩
  rintro m _ ⟨k, rfl, rfl, hk, hinv⟩
  simp only [Int.toNat_natCast]
  refine ⟨fun hlt => ?_, fun hge => h1 fun v hv => hinv v (by omega)⟩
  have hga : gi (appF n es d s) k = gi d k - Lp n es (gi s) k := gi_tab _ (by omega)
  refine ⟨by rw [appF_length]; omega, by omega, fun q => Cnt.next (by omega) (by omega) fun v hv => ?_, fun q => h2 fun hall => q ?_⟩
  · by_cases e : v = k
    · subst e; rw [← q, hga]
    · exact hinv v (by omega)
  · rw [hga, hall k (by omega)]
end
end Go.Proofs.Ytnhmeckhlajeaaa

/- What ref25's functions compute by the rule of Cramer. -/
namespace Go.Proofs.Ytnhmeckhlajeaaa
open Go
set_option linter.unusedVariables false
set_option linter.unusedSimpArgs false

theorem gi_snc (s : List Int) (x : Int) {j : Nat} (hj : j < s.length + 1) : gi (s ++ [x]) j = if j = s.length then x else gi s j := by
  unfold gi
  by_cases e : j = s.length
  · subst e; simp
  · rw [if_neg e]; simp only [List.getD_eq_getElem?_getD]; rw [List.getElem?_append_left (by omega)]
theorem tab_succ (f : Nat → Int) (n : Nat) : tab f (n + 1) = tab f n ++ [f n] := by simp [tab, List.range_succ]
/-- A list of rows. -/
def rws (f : Nat → List Int) (n : Nat) : List (List Int) := (List.range n).map f
theorem rws_succ (f : Nat → List Int) (n : Nat) : rws f (n + 1) = rws f n ++ [f n] := by simp [rws, List.range_succ]
theorem rws_length (f : Nat → List Int) (n : Nat) : (rws f n).length = n := by simp [rws]
theorem gx_rws (f : Nat → List Int) {n i : Nat} (hi : i < n) : gx (rws f n) i = f i := by rw [gx_of_lt (by rw [rws_length]; exact hi)]; simp [rws]
/-- How many of the first j numbers are not k. -/
def cn (k j : Nat) : Nat := if j ≤ k then j else j - 1
theorem cn_same (k : Nat) : cn k (k + 1) = cn k k := by unfold cn; rw [if_neg (by omega), if_pos (Nat.le_refl _)]; omega
theorem cn_next {k j : Nat} (h : j ≠ k) : cn k (j + 1) = cn k j + 1 := by unfold cn; split <;> split <;> omega
theorem sk_cn {k j : Nat} (h : j ≠ k) : sk k (cn k j) = j := by unfold sk cn; split <;> split <;> omega
theorem cn_zero (k : Nat) : cn k 0 = 0 := by unfold cn; rw [if_pos (Nat.zero_le _)]
theorem cn_all {k m : Nat} (h : k ≤ m) : cn k (m + 1) = m := by unfold cn; rw [if_neg (by omega)]; omega
theorem cn_le (k j : Nat) : cn k j ≤ j := by unfold cn; split <;> omega
/-- A table with the entries of a matrix. -/
def Tbl (m : Nat) (l : List (List Int)) (T : Mat) : Prop := l.length = m ∧ ∀ i, i < m → (gx l i).length = m ∧ ∀ k, k < m → gi (gx l i) k = T i k
theorem det_le {m : Nat} {T : Mat} (hm : m ≤ 5) (hT : ∀ i j, i < m → j < m → -1000 ≤ T i j ∧ T i j ≤ 1000) : -120000000000000000 ≤ detF m T ∧ detF m T ≤ 120000000000000000 := by
  have h := det_bound (B := 1000) (by omega) hT
  have e : fct m * 1000 ^ m ≤ 120000000000000000 := by
    rcases (by omega : m = 0 ∨ m = 1 ∨ m = 2 ∨ m = 3 ∨ m = 4 ∨ m = 5) with rfl | rfl | rfl | rfl | rfl | rfl <;> decide
  omega
theorem det_le4 {m : Nat} {T : Mat} (hm : m ≤ 4) (hT : ∀ i j, i < m → j < m → -1000 ≤ T i j ∧ T i j ≤ 1000) : -24000000000000 ≤ detF m T ∧ detF m T ≤ 24000000000000 := by
  have h := det_bound (B := 1000) (by omega) hT
  have e : fct m * 1000 ^ m ≤ 24000000000000 := by
    rcases (by omega : m = 0 ∨ m = 1 ∨ m = 2 ∨ m = 3 ∨ m = 4) with rfl | rfl | rfl | rfl | rfl <;> decide
  omega
theorem p_r25_det : ∀ {m : Nat} {l : List (List Int)} {T : Mat} {R : Int → Prop}, m ≤ 5 → Tbl m l T → (∀ i j, i < m → j < m → -1000 ≤ T i j ∧ T i j ≤ 1000) → R (detF m T) → pf_r25_det (m + 1) l R
  | 0, l, T, R, _, hl, _, h => ⟨fun _ => h, fun q => absurd (by rw [hl.1]; rfl) q⟩
  | m + 1, l, T, R, hm, hl, hT, h => by
    obtain ⟨hll, hrow⟩ := hl
    rw [pf_r25_det]
    unfold pfr_r25_det
    have hTm : ∀ k, k < m + 1 → ∀ i j, i < m → j < m → -1000 ≤ minor T k i j ∧ minor T k i j ≤ 1000 := fun k hk i j hi hj => hT _ _ (by omega) (sk_lt hj)
    have hterm : ∀ k, k < m + 1 → -24000000000000000 ≤ sgn k * T 0 k * detF m (minor T k) ∧ sgn k * T 0 k * detF m (minor T k) ≤ 24000000000000000 := fun k hk => by
      have h1 := det_le4 (by omega) (hTm k hk)
      have h2 := hT 0 k (by omega) hk
      have h3 : -1000 ≤ sgn k * T 0 k ∧ sgn k * T 0 k ≤ 1000 := by unfold sgn; split <;> omega
      exact abs_mul h3 h1
    refine ⟨fun e => absurd e (by rw [hll]; omega), fun _ => ?_⟩
    rw [hll]
    refine ⟨fun m2 v v2 v3 => Cnt (m + 1) (fun k => v = sm k (fun k => sgn k * T 0 k * detF m (minor T k)) ∧ v2 = sgn k) m2 v3, Cnt.start ⟨rfl, rfl⟩, ?_⟩
    rintro m2 v v2 _ ⟨k, rfl, rfl, hk, rfl, rfl⟩
    simp only [Int.toNat_natCast]
    refine ⟨fun hlt => ?_, fun hge => ?_⟩
    · have hlt : k < m + 1 := by omega
      refine ⟨fun m3 v4 v5 => Cnt (m + 1) (fun i => 1 ≤ i ∧ v4 = rws (fun r => tab (fun c => T (r + 1) (sk k c)) m) (i - 1)) m3 v5, ⟨m, 1, by omega, rfl, by omega, by omega, rfl⟩, ?_⟩
      rintro m3 v4 _ ⟨i, rfl, rfl, hi, hi1, rfl⟩
      simp only [Int.toNat_natCast]
      refine ⟨fun hlti => ?_, fun hgei => ?_⟩
      · have hlti : i < m + 1 := by omega
        obtain ⟨hrl, hre⟩ := hrow i hlti
        refine ⟨fun m4 v6 v7 => Cnt (m + 1) (fun j => v6 = tab (fun c => T i (sk k c)) (cn k j)) m4 v7, Cnt.start (by rw [cn_zero]; rfl), ?_⟩
        rintro m4 v6 _ ⟨j, rfl, rfl, hj, rfl⟩
        simp only [Int.toNat_natCast]
        refine ⟨fun hltj => ⟨fun e => ?_, fun e => ?_⟩, fun hgej => ?_⟩
        · have e : j = k := by omega
          subst e
          exact Cnt.next (by omega) (by omega) (by rw [cn_same])
        · have e : j ≠ k := by omega
          have := cn_le k j
          refine ⟨by omega, by omega, by rw [tab_length]; omega, Cnt.next (by omega) (by omega) ?_⟩
          rw [cn_next e, tab_succ, sk_cn e, hre j (by omega)]
        · have e : j = m + 1 := by omega
          subst e
          refine ⟨by rw [rws_length]; omega, Cnt.next hlti (by omega) ⟨by omega, ?_⟩⟩
          rw [cn_all (by omega), show i + 1 - 1 = i - 1 + 1 by omega, rws_succ, show i - 1 + 1 = i by omega]
      · have e : i = m + 1 := by omega
        subst e
        obtain ⟨hrl, hre⟩ := hrow 0 (by omega)
        have ht := hterm k hlt
        have h2 := hT 0 k (by omega) hlt
        have hsg : sgn k = 1 ∨ sgn k = -1 := by unfold sgn; split <;> simp
        have hs1 : sgn (k + 1) = - sgn k := sgn_succ k
        have hb := sm_bound (f := fun k => sgn k * T 0 k * detF m (minor T k)) (B := 24000000000000000) (by omega) (n := k) fun j hj => hterm j (by omega)
        have hkb : (k : Int) * 24000000000000000 ≤ 5 * 24000000000000000 := by omega
        simp only [Int.toNat_zero]
        rw [hre k hlt]
        refine ⟨by omega, by omega, fun e0 => ⟨i64 (by omega), Cnt.next hlt (by omega) ⟨?_, hs1.symm⟩⟩, fun e0 => ⟨?_, ?_⟩⟩
        · rw [sm, e0, Int.mul_zero, Int.zero_mul, Int.add_zero]
        · rcases hsg with e | e <;> rw [e] <;> exact i64 (by omega)
        · refine p_r25_det (T := minor T k) (by omega) ⟨by rw [rws_length]; omega, fun i hi => ?_⟩ (hTm k hlt) ⟨i64 (by omega), i64 (by omega), i64 (by omega), Cnt.next hlt (by omega) ⟨?_, hs1.symm⟩⟩
          · rw [gx_rws _ (by omega)]
            exact ⟨tab_length _ _, fun c hc => by rw [gi_tab _ hc]; rfl⟩
          · rw [sm]
    · have e : k = m + 1 := by omega
      subst e
      exact h
/-- The entries of ref25's table. -/
def entT (n : Nat) (es : List E3) (col : Int) (d : List Int) (i k : Nat) : Int := if (k : Int) = col then gi d i else if k = i then deg n es i else - W es i k
theorem p_r25_table {m q : Nat} {es : List E3} {col : Int} {d : List Int} {R : List (List Int) → Prop} (hm : m ≤ 11) (hl : es.length ≤ 1000000000) (hg : gcheckF ((m + 1 : Nat) : Int) es = 0) (hq : q ≤ m) (hdl : d.length = m + 1)
    (h : ∀ l, Tbl m l (fun r c => entT (m + 1) es col d (sk q r) (sk q c)) → R l) : pf_r25_table ((m + 1 : Nat) : Int) es (q : Int) col d R := by
  unfold pf_r25_table
  refine ⟨fun m2 v v2 => Cnt (m + 1) (fun i => v = rws (fun r => tab (fun c => entT (m + 1) es col d (sk q r) (sk q c)) m) (cn q i)) m2 v2, Cnt.start (by rw [cn_zero]; rfl), ?_⟩
  rintro m2 v _ ⟨i, rfl, rfl, hi, rfl⟩
  simp only [Int.toNat_natCast]
  refine ⟨fun hlt => ⟨fun e => ?_, fun e => ?_⟩, fun hge => ?_⟩
  · have e : i = q := by omega
    subst e
    exact Cnt.next (by omega) (by omega) (by rw [cn_same])
  · have e : i ≠ q := by omega
    refine ⟨fun m3 v3 v4 => Cnt (m + 1) (fun k => v3 = tab (fun c => entT (m + 1) es col d i (sk q c)) (cn q k)) m3 v4, Cnt.start (by rw [cn_zero]; rfl), ?_⟩
    rintro m3 v3 _ ⟨k, rfl, rfl, hk, rfl⟩
    simp only [Int.toNat_natCast]
    refine ⟨fun hltk => ⟨fun e2 => ?_, fun e2 => ?_⟩, fun hgek => ?_⟩
    · have e2 : k = q := by omega
      subst e2
      exact Cnt.next (by omega) (by omega) (by rw [cn_same])
    · have e2 : k ≠ q := by omega
      have hle := cn_le q k
      have hnx : tab (fun c => entT (m + 1) es col d i (sk q c)) (cn q (k + 1)) = tab (fun c => entT (m + 1) es col d i (sk q c)) (cn q k) ++ [entT (m + 1) es col d i k] := by
        rw [cn_next e2, tab_succ, sk_cn e2]
      refine ⟨fun e3 => ?_, fun e3 => ⟨fun e4 => ?_, fun e4 => ?_⟩⟩
      · refine ⟨by omega, by rw [tab_length]; omega, Cnt.next (by omega) (by omega) ?_⟩
        rw [hnx]; unfold entT; rw [if_pos e3]
      · have e4 : k = i := by omega
        refine p_r08_Valence hl hg ⟨by rw [tab_length]; omega, Cnt.next (by omega) (by omega) ?_⟩
        rw [hnx]; unfold entT; rw [if_neg e3, if_pos e4]
      · have e4 : k ≠ i := by omega
        have := W_le50 hg i k
        refine p_r08_Between hl hg (fun x => e4 x.symm) ⟨i64 (by omega), by rw [tab_length]; omega, Cnt.next (by omega) (by omega) ?_⟩
        rw [hnx]; unfold entT; rw [if_neg e3, if_neg e4]
    · have ek : k = m + 1 := by omega
      subst ek
      have hle := cn_le q i
      refine ⟨by rw [rws_length]; omega, Cnt.next (by omega) (by omega) ?_⟩
      rw [cn_next e, rws_succ, sk_cn e, cn_all hq]
  · have ei : i = m + 1 := by omega
    subst ei
    rw [cn_all hq]
    exact h _ ⟨rws_length _ _, fun r hr => by rw [gx_rws _ hr]; exact ⟨tab_length _ _, fun c hc => gi_tab _ hc⟩⟩
section
variable {m q : Nat} {es : List E3}
theorem ent_red (d : List Int) : (fun r c => entT (m + 1) es (-1) d (sk q r) (sk q c)) = redM (m + 1) es q := by
  funext r c
  unfold entT redM
  rw [if_neg (by omega)]
  by_cases e : r = c
  · subst e; rw [if_pos rfl, if_pos rfl]
  · rw [if_neg e, if_neg fun h => e (sk_inj h).symm]
theorem ent_col (d : List Int) {v : Nat} (hv : v ≠ q) : (fun r c => entT (m + 1) es (v : Int) d (sk q r) (sk q c)) = repl (redM (m + 1) es q) (pd q v) fun i => gi d (sk q i) := by
  funext r c
  unfold entT repl redM
  by_cases e0 : c = pd q v
  · rw [if_pos e0, if_pos (by rw [(sk_eq hv).2 e0])]
  · rw [if_neg e0, if_neg (fun h => e0 ((sk_eq hv).1 (by omega)))]
    by_cases e : r = c
    · subst e; rw [if_pos rfl, if_pos rfl]
    · rw [if_neg e, if_neg fun h => e (sk_inj h).symm]
theorem ent_bound (hg : gcheckF ((m + 1 : Nat) : Int) es = 0) (hm : m ≤ 11) {d : List Int} (hd : ∀ j, j < m + 1 → -1000 ≤ gi d j ∧ gi d j ≤ 1000) (col : Int) {i k : Nat} (hi : i < m + 1) : -1000 ≤ entT (m + 1) es col d i k ∧ entT (m + 1) es col d i k ≤ 1000 := by
  have h1 := hd i hi
  have h2 := W_le50 hg i k
  have h3 := deg_bound hg (m + 1) i
  unfold entT deg
  split
  · exact h1
  · split <;> omega
theorem tdiv_i64 {x n : Int} (h : -120000000000000000 ≤ x ∧ x ≤ 120000000000000000) : In64 (x.tdiv n) := by
  have h1 : (x.tdiv n).natAbs ≤ x.natAbs := by rw [Int.natAbs_tdiv]; exact Nat.div_le_self _ _
  exact i64 (by omega)
variable (hl : es.length ≤ 1000000000) (hg : gcheckF ((m + 1 : Nat) : Int) es = 0) (hc : connF ((m + 1 : Nat) : Int) es = true) (hm : m ≤ 5) (hq : q ≤ m) {d : List Int} (hdl : d.length = m + 1) (hd : ∀ j, j < m + 1 → -1000 ≤ gi d j ∧ gi d j ≤ 1000)
include hl hg hc hm hq hdl hd
theorem p_r25_Solve {R : List Int → Bool → Prop} (h1 : ∀ s : List Int, s.length = m + 1 → gi s q = 0 → (∀ v, v < m + 1 → Lp (m + 1) es (gi s) v = gi d v) → R s true)
    (h2 : (¬ ∃ t : Nat → Int, ∀ v, v < m + 1 → Lp (m + 1) es t v = gi d v) → R [] false) : pf_r25_Solve ((m + 1 : Nat) : Int) es (q : Int) d R := by
  obtain ⟨hE, hn1, hn12⟩ := gcheck_ok hg
  have hE : EOk (m + 1) es := hE
  have hC : Conn (m + 1) es q := (conn_iff hE hn1 hn12 (by omega)).1 hc
  have hN := redM_ne hE hC hq
  unfold pf_r25_Solve
  refine p_r17_Total (by omega) (fun i hi => by have := hd i (by omega); omega) ⟨fun e0 => ?_, fun e0 => h2 ?_⟩
  · have hdM := det_le (m := m) (T := redM (m + 1) es q) hm fun i j hi hj => by
      rw [← ent_red d]; exact ent_bound hg (by omega) hd _ (sk_lt hi)
    refine p_r25_table (by omega) hl hg hq hdl fun l hT => ⟨m + 1, p_r25_det hm hT (fun i j hi hj => ent_bound hg (by omega) hd _ (sk_lt hi)) ?_⟩
    rw [ent_red]
    generalize hNN : detF m (redM (m + 1) es q) = N at hN
    refine ⟨fun m2 s v => Cnt (m + 1) (fun k => s.length = k ∧ ∀ j, j < k → if j = q then gi s j = 0 else xF m es q (gi d) j = gi s j * N) m2 v, Cnt.start ⟨rfl, fun j hj => absurd hj (by omega)⟩, ?_⟩
    rintro m2 s _ ⟨k, rfl, rfl, hk, hsl, hs⟩
    have happ : ∀ x : Int, (if k = q then x = 0 else xF m es q (gi d) k = x * N) → ∀ j, j < k + 1 → if j = q then gi (s ++ [x]) j = 0 else xF m es q (gi d) j = gi (s ++ [x]) j * N := fun x hx j hj => by
      rw [gi_snc s x (by omega), hsl]
      by_cases e : j = k
      · subst e; rw [if_pos rfl]; exact hx
      · rw [if_neg e]; exact hs j (by omega)
    refine ⟨fun hlt => ⟨fun e => ?_, fun e => ?_⟩, fun hge => ?_⟩
    · exact ⟨by omega, Cnt.next (by omega) (by omega) ⟨by simp [hsl], happ 0 (by rw [if_pos (by omega)])⟩⟩
    · have e : k ≠ q := by omega
      have hxM := det_le (m := m) (T := fun r c => entT (m + 1) es (k : Int) d (sk q r) (sk q c)) hm fun i j hi hj => ent_bound hg (by omega) hd _ (sk_lt hi)
      refine p_r25_table (by omega) hl hg hq hdl fun l2 hT2 => ⟨m + 1, p_r25_det hm hT2 (fun i j hi hj => ent_bound hg (by omega) hd _ (sk_lt hi)) ?_⟩
      rw [ent_col d e] at hxM ⊢
      refine ⟨hN, fun hx => ?_, fun hx => h2 ?_⟩
      · refine ⟨tdiv_i64 hxM, by omega, Cnt.next (by omega) (by omega) ⟨by simp [hsl], happ _ ?_⟩⟩
        rw [if_neg e]
        have := Int.tmod_add_mul_tdiv (detF m (repl (redM (m + 1) es q) (pd q k) fun i => gi d (sk q i))) N
        show detF m (repl (redM (m + 1) es q) (pd q k) fun i => gi d (sk q i)) = _
        rw [Int.mul_comm]; omega
      · rintro ⟨t, ht⟩
        apply hx
        have h3 := solve_fwd (m := m) (es := es) hq (t := fun i => t i + - t q) (d := gi d) (by show t q + - t q = 0; omega) (fun v hv _ => by rw [Lp_add, Lp_const, ht v hv]; omega) (v := k) (by omega) e
        rw [hNN] at h3
        show (xF m es q (gi d) k).tmod N = 0
        rw [h3]; exact Int.mul_tmod_left _ _
    · have hk : k = m + 1 := by omega
      subst hk
      have hsq : gi s q = 0 := by have := hs q (by omega); rwa [if_pos rfl] at this
      have hoff : ∀ v, v < m + 1 → v ≠ q → Lp (m + 1) es (gi s) v = gi d v := fun v hv hvq => solve_bwd hE hC hq hsq (fun v hv hvq => by
        have := hs v hv
        rw [if_neg hvq] at this
        rw [this, hNN]) hv hvq
      refine h1 s hsl hsq fun v hv => ?_
      by_cases e : v = q
      · subst e
        have t1 := Lp_total (n := m + 1) (es := es) (gi s)
        unfold dg at e0
        rw [hdl] at e0
        rw [sm_split hv] at t1 e0
        rw [sm_congr (g := fun u => if u = v then 0 else gi d u) fun u hu => by
          by_cases e : u = v
          · rw [if_pos e, if_pos e]
          · rw [if_neg e, if_neg e, hoff u hu e]] at t1
        omega
      · exact hoff v hv e
  · rintro ⟨t, ht⟩
    apply e0
    unfold dg
    rw [hdl, ← Lp_total (n := m + 1) (es := es) t]
    exact sm_congr fun v hv => (ht v hv).symm
end
theorem p_r25_Alike {m : Nat} {es : List E3} {a b : List Int} {R : Bool → Prop} (hl : es.length ≤ 1000000000) (hg : gcheckF ((m + 1 : Nat) : Int) es = 0) (hc : connF ((m + 1 : Nat) : Int) es = true) (hm : m ≤ 5) (hal : a.length = m + 1) (hbl : b.length = m + 1)
    (hab : ∀ j, j < m + 1 → -900 ≤ gi a j ∧ gi a j ≤ 900 ∧ -100 ≤ gi b j ∧ gi b j ≤ 100)
    (h1 : (∃ t : Nat → Int, ∀ v, v < m + 1 → Lp (m + 1) es t v = gi a v - gi b v) → R true)
    (h2 : (¬ ∃ t : Nat → Int, ∀ v, v < m + 1 → Lp (m + 1) es t v = gi a v - gi b v) → R false) : pf_r25_Alike ((m + 1 : Nat) : Int) es a b R := by
  have hp : ∀ j, j < m + 1 → gi (plusF a b (-1)) j = gi a j - gi b j := fun j hj => by unfold plusF; rw [gi_tab _ (by omega)]; omega
  refine p_r25_Plus (by omega) (by omega) (by omega) (fun j hj => by have := hab j (by omega); omega) (fun j hj => by have := hab j (by omega); omega) ?_
  refine p_r25_Solve (q := 0) hl hg hc hm (by omega) (by unfold plusF; rw [tab_length]; exact hal) (fun j hj => by rw [hp j hj]; have := hab j hj; omega) (fun s hsl hs0 hs => h1 ⟨gi s, fun v hv => by rw [hs v hv, hp v hv]⟩) (fun hno => h2 fun ⟨t, ht⟩ => hno ⟨t, fun v hv => by rw [ht v hv, hp v hv]⟩)
end Go.Proofs.Ytnhmeckhlajeaaa

/- What the pure forms of the program's and the library's small functions come to. -/
namespace Go.Proofs.Ytnhmeckhlajeaaa
open Go
set_option linter.unusedVariables false
set_option linter.unusedSimpArgs false

theorem p_slices_Equal_Divisor {a b : List Int} {R : Bool → Prop} (hl : a.length ≤ 1000000000) (h : R (decide (a = b))) : pf_slices_Equal_Divisor a b R := by
  unfold pf_slices_Equal_Divisor
  have ht : a = b → R true := fun q => by rwa [decide_eq_true q] at h
  have hf : ¬ a = b → R false := fun q => by rwa [decide_eq_false q] at h
  refine ⟨fun hln => ?_, fun hln => hf fun q => hln (by rw [q])⟩
  refine ⟨Cnt a.length (fun k => ∀ j, j < k → gi a j = gi b j), Cnt.start (fun j hj => absurd hj (by omega)), ?_⟩
  rintro m _ ⟨k, rfl, rfl, hk, hinv⟩
  simp only [Int.toNat_natCast]
  refine ⟨fun hlt => ⟨by omega, by omega, fun h1 => Cnt.next (by omega) (by omega) fun j hj => ?_, fun h1 => hf fun q => h1 (by rw [q])⟩, fun hge => ht (gi_ext (by omega) fun j hj => hinv j (by omega))⟩
  by_cases e : j = k
  · subst e; exact h1
  · exact hinv j (by omega)

theorem p_slices_Equal_Script {a b : List Int} {R : Bool → Prop} (hl : a.length ≤ 1000000000) (h : R (decide (a = b))) : pf_slices_Equal_Script a b R := by
  unfold pf_slices_Equal_Script
  have ht : a = b → R true := fun q => by rwa [decide_eq_true q] at h
  have hf : ¬ a = b → R false := fun q => by rwa [decide_eq_false q] at h
  refine ⟨fun hln => ?_, fun hln => hf fun q => hln (by rw [q])⟩
  refine ⟨Cnt a.length (fun k => ∀ j, j < k → gi a j = gi b j), Cnt.start (fun j hj => absurd hj (by omega)), ?_⟩
  rintro m _ ⟨k, rfl, rfl, hk, hinv⟩
  simp only [Int.toNat_natCast]
  refine ⟨fun hlt => ⟨by omega, by omega, fun h1 => Cnt.next (by omega) (by omega) fun j hj => ?_, fun h1 => hf fun q => h1 (by rw [q])⟩, fun hge => ht (gi_ext (by omega) fun j hj => hinv j (by omega))⟩
  by_cases e : j = k
  · subst e; exact h1
  · exact hinv j (by omega)

theorem p_slices_Equal_intS {a b : List Int} {R : Bool → Prop} (hl : a.length ≤ 1000000000) (h : R (decide (a = b))) : pf_slices_Equal_intS a b R := by
  unfold pf_slices_Equal_intS
  have ht : a = b → R true := fun q => by rwa [decide_eq_true q] at h
  have hf : ¬ a = b → R false := fun q => by rwa [decide_eq_false q] at h
  refine ⟨fun hln => ?_, fun hln => hf fun q => hln (by rw [q])⟩
  refine ⟨Cnt a.length (fun k => ∀ j, j < k → gi a j = gi b j), Cnt.start (fun j hj => absurd hj (by omega)), ?_⟩
  rintro m _ ⟨k, rfl, rfl, hk, hinv⟩
  simp only [Int.toNat_natCast]
  refine ⟨fun hlt => ⟨by omega, by omega, fun h1 => Cnt.next (by omega) (by omega) fun j hj => ?_, fun h1 => hf fun q => h1 (by rw [q])⟩, fun hge => ht (gi_ext (by omega) fun j hj => hinv j (by omega))⟩
  by_cases e : j = k
  · subst e; exact h1
  · exact hinv j (by omega)

theorem p_slices_Clone_Divisor {s : List Int} {R : List Int → Prop} (hl : s.length ≤ 1000000000) (h : R s) : pf_slices_Clone_Divisor s R := by
  unfold pf_slices_Clone_Divisor
  exact fun nil hn => ⟨fun q => by rw [hn q] at h; exact h, fun q => ⟨by omega, h⟩⟩
end Go.Proofs.Ytnhmeckhlajeaaa

/- What the references' pure forms on sets come to. -/
namespace Go.Proofs.Ytnhmeckhlajeaaa
open Go
set_option linter.unusedVariables false
set_option linter.unusedSimpArgs false

section
variable {n : Nat} {es : List E3} {d : List Int}
theorem p_r25_out {m v : Nat} {R : Int → Prop} (hl : es.length ≤ 1000) (hg : gcheckF n es = 0) (hm : m < 9223372036854775808) (h : R (outS n es m.testBit v)) : pf_r25_out (n : Int) es (m : Int) (v : Int) R := by
  obtain ⟨hE, hn1, hn12⟩ := gcheck_ok hg
  unfold pf_r25_out
  unfold outS at h
  refine ⟨fun mm t i => Cnt n (fun k => t = sm k (fun u => if m.testBit u = true then 0 else W es v u)) mm i, Cnt.start rfl, ?_⟩
  rintro mm t _ ⟨k, rfl, rfl, hk, rfl⟩
  refine ⟨fun hlt => ?_, fun hge => ?_⟩
  · have hz : (if m.testBit k = true then 0 else W es v k) = 0 → sm k (fun u => if m.testBit u = true then 0 else W es v u) = sm (k + 1) (fun u => if m.testBit u = true then 0 else W es v u) := fun h => by rw [sm, h]; omega
    refine ⟨k ≠ v ∧ ¬ m.testBit k = true, fun ⟨hkv, hbit⟩ => ?_, fun h => Cnt.next (by omega) (by omega) (hz (by rw [show k = v by omega, W_self]; simp)), fun h => ⟨by omega, bit_fit m k hm, ?_⟩⟩
    · have h1 := W_le50 hg k v
      have h2 := sm_bound (f := fun u => if m.testBit u = true then 0 else W es v u) (B := 50) (by omega) (n := k) fun i _ => by
        have := W_le50 hg v i
        show -50 ≤ ite _ _ _ ∧ ite _ _ _ ≤ _
        split <;> omega
      refine p_r08_Between (by omega) hg hkv ⟨i64 (by omega), Cnt.next (by omega) (by omega) ?_⟩
      rw [sm, if_neg hbit, W_symm es k v]
    · rw [bit_and]
      refine ⟨fun h0 => ⟨by omega, fun hb => by rw [if_pos hb] at h0; omega⟩, fun h0 => Cnt.next (by omega) (by omega) (hz ?_)⟩
      by_cases hb : m.testBit k = true
      · rw [if_pos hb]
      · rw [if_neg hb] at h0; exact absurd rfl h0
  · have hkn : k = n := by omega
    subst hkn; exact h
theorem p_r25_May {m : Nat} {R : Bool → Prop} (hl : es.length ≤ 1000) (hg : gcheckF n es = 0) (hdn : d.length = n) (hm : m < 9223372036854775808) (h1 : mayF n es d m.testBit → R true) (h2 : ¬ mayF n es d m.testBit → R false) : pf_r25_May (n : Int) es d (m : Int) R := by
  obtain ⟨hE, hn1, hn12⟩ := gcheck_ok hg
  unfold pf_r25_May
  refine ⟨Cnt n (fun k => ∀ v, v < k → m.testBit v = true → outS n es m.testBit v ≤ gi d v), Cnt.start (fun v h => absurd h (by omega)), ?_⟩
  rintro mm _ ⟨k, rfl, rfl, hk, hinv⟩
  have hnext : (m.testBit k = true → outS n es m.testBit k ≤ gi d k) → ∀ v, v < k + 1 → m.testBit v = true → outS n es m.testBit v ≤ gi d v := fun h v hv hb => by
    by_cases e : v = k
    · subst e; exact h hb
    · exact hinv v (by omega) hb
  refine ⟨fun hlt => ⟨by omega, bit_fit m k hm, ?_, ?_⟩, fun hge => h1 ?_⟩
  · rw [bit_and]
    intro h0
    have hb : m.testBit k = true := by
      by_cases hb : m.testBit k = true
      · exact hb
      · rw [if_neg hb] at h0; omega
    simp only [Int.toNat_natCast]
    refine ⟨by omega, p_r25_out hl hg hm ⟨fun q => h2 fun hall => ?_, fun q => Cnt.next (by omega) (by omega) (hnext fun _ => by omega)⟩⟩
    have := hall k (by omega) hb; omega
  · rw [bit_and]
    intro h0
    refine Cnt.next (by omega) (by omega) (hnext fun hb => ?_)
    rw [if_pos hb] at h0; exact absurd rfl h0
  · have hkn : k = n := by omega
    subst hkn; exact hinv
theorem p_r25_Tight {q : Nat} {R : Bool → Prop} (hl : es.length ≤ 1000) (hg : gcheckF n es = 0) (hdn : d.length = n) (hq : q < n) (h1 : (∀ m, 1 ≤ m → m < 2 ^ n → m.testBit q = false → ¬ mayF n es d m.testBit) → R true) (h2 : ¬ (∀ m, 1 ≤ m → m < 2 ^ n → m.testBit q = false → ¬ mayF n es d m.testBit) → R false) : pf_r25_Tight (n : Int) es (q : Int) d R := by
  obtain ⟨hE, hn1, hn12⟩ := gcheck_ok hg
  have h2n := two_pow_small hn12
  unfold pf_r25_Tight
  rw [pow_cast]
  generalize hP : 2 ^ n = P at *
  have hP1 : 1 ≤ P := by rw [← hP]; exact Nat.one_le_two_pow
  refine ⟨Cnt P (fun k => 1 ≤ k ∧ ∀ m, 1 ≤ m → m < k → m.testBit q = false → ¬ mayF n es d m.testBit), ⟨P - 1, 1, rfl, rfl, by omega, by omega, fun m h1 h2 => absurd h2 (by omega)⟩, ?_⟩
  rintro mm _ ⟨k, rfl, rfl, hk, hk1, hinv⟩
  have hnext : (k.testBit q = false → ¬ mayF n es d k.testBit) → 1 ≤ k + 1 ∧ ∀ m, 1 ≤ m → m < k + 1 → m.testBit q = false → ¬ mayF n es d m.testBit := fun h => ⟨by omega, fun m h1 h2 h3 => by
    by_cases e : m = k
    · subst e; exact h h3
    · exact hinv m h1 (by omega) h3⟩
  refine ⟨by omega, i64 (by omega), fun hlt => ⟨by omega, bit_fit k q (by omega), ?_, ?_⟩, fun hge => h1 ?_⟩
  · rw [bit_and]
    intro h0
    have hb : k.testBit q = false := by
      cases hb : k.testBit q with
      | false => rfl
      | true => rw [hb, if_pos rfl] at h0; omega
    refine p_r25_May hl hg hdn (by omega) (fun hm => ⟨fun _ => h2 fun hall => hall k hk1 (by omega) hb hm, fun q => absurd rfl q⟩) (fun hm => ⟨fun q => (by cases q), fun _ => Cnt.next (by omega) (by omega) (hnext fun _ => hm)⟩)
  · rw [bit_and]
    intro h0
    refine Cnt.next (by omega) (by omega) (hnext fun hb => ?_)
    rw [hb, if_neg (by simp)] at h0; exact absurd rfl h0
  · have hkn : k = P := by omega
    subst hkn; exact hinv
theorem p_r34_Is {q : Nat} {R : Bool → Prop} (hl : es.length ≤ 1000) (hg : gcheckF n es = 0) (hdn : d.length = n) (hq : q < n) (h1 : Red n es q d → R true) (h2 : ¬ Red n es q d → R false) : pf_r34_Is (n : Int) es (q : Int) d R := by
  obtain ⟨hE, hn1, hn12⟩ := gcheck_ok hg
  unfold pf_r34_Is
  refine p_r34_Debt (by omega) ⟨fun ho => h2 fun hr => (owes_iff hdn).1 ho hr.pos, fun ho => ?_⟩
  have hpos : ∀ v, v < n → v ≠ q → 0 ≤ gi d v := Classical.not_not.1 fun hn => ho ((owes_iff hdn).2 hn)
  exact p_r25_Tight hl hg hdn hq (fun ht => h1 ((tight_red hq hpos).1 ht)) (fun ht => h2 fun hr => ht ((tight_red hq hpos).2 hr))
end
/-- A small connected graph with a divisor that has few chips. -/
def rightF (n : Int) (es : List E3) (d : List Int) : Prop := smallF n es 6 9 = true ∧ joinedE n es = 0 ∧ checkF d n = 0 ∧ lowF n d = true
end Go.Proofs.Ytnhmeckhlajeaaa

/- What ref25's and ref34's functions compute that try all configurations. -/
namespace Go.Proofs.Ytnhmeckhlajeaaa
open Go
set_option linter.unusedVariables false
set_option linter.unusedSimpArgs false

theorem sm_only_le {n a : Nat} {c : Int} (hc : 0 ≤ c) {f : Nat → Int} (h : ∀ u, u < n → f u ≤ if u = a then c else 0) : sm n f ≤ c := by
  refine Int.le_trans (sm_le h) ?_
  by_cases ha : a < n
  · rw [sm_one _ ha]; exact Int.le_refl _
  · rw [sm_congr (g := fun _ => 0) fun u hu => if_neg (by omega), sm_zero]; exact hc
theorem deg_le_sum : ∀ {es : List E3}, (∀ x ∈ es, 0 ≤ x.2.2) → ∀ n v, deg n es v ≤ (es.map (·.2.2)).sum
  | [], _, n, v => by unfold deg; rw [sm_congr (g := fun _ => 0) fun u _ => W_nil v u, sm_zero]; simp
  | x :: es, h, n, v => by
    have h1 := deg_le_sum (es := es) (fun y hy => h y (by simp [hy])) n v
    have hx := h x (by simp)
    unfold deg at h1 ⊢
    rw [sm_congr fun u _ => W_cons x es v u, sm_add, List.map_cons, List.sum_cons]
    have h2 : sm n (w1 x v) ≤ x.2.2 := sm_only_le (a := (x.1 + x.2.1 - v).toNat) hx fun u hu => by
      unfold w1
      split
      · rw [if_pos (by omega)]; exact Int.le_refl _
      · split <;> omega
    exact Int.add_le_add h2 h1
theorem upto_skip (f : Nat → Int) {k n : Nat} (h : f k = 0) : upto f (k + 1) n = upto f k n := by
  unfold upto
  refine List.map_congr_left fun i _ => ?_
  by_cases e : i = k
  · subst e; rw [if_pos (by omega), if_neg (by omega), h]
  · by_cases c : i < k
    · rw [if_pos c, if_pos (by omega)]
    · rw [if_neg c, if_neg (by omega)]
/-- ref25's greatest stable configuration. -/
def topF (n : Nat) (es : List E3) (q : Nat) (v : Nat) : Int := if v = q then 0 else deg n es v - 1
section
variable {n : Nat} {es : List E3} {q : Nat}
theorem p_r25_Greatest {R : List Int → Prop} (hl : es.length ≤ 1000000000) (hg : gcheckF n es = 0) (h : R (tab (topF n es q) n)) : pf_r25_Greatest (n : Int) es (q : Int) R := by
  obtain ⟨hE, hn1, hn12⟩ := gcheck_ok hg
  unfold pf_r25_Greatest
  refine ⟨by omega, fun m2 v out => Cnt n (fun k => out = upto (topF n es q) k n) m2 v, Cnt.start (upto_zero _ _).symm, ?_⟩
  rintro m2 _ out ⟨k, rfl, rfl, hk, rfl⟩
  simp only [Int.toNat_natCast]
  refine ⟨fun hlt => ⟨fun e => ?_, fun e => ?_⟩, fun hge => ?_⟩
  · exact Cnt.next (by omega) (by omega) (upto_skip _ (if_pos (by omega))).symm
  · have hd := deg_bound hg n k
    refine p_r08_Valence hl hg ⟨?_, by rw [upto_length]; omega, Cnt.next (by omega) (by omega) ?_⟩
    · unfold deg; exact i64 (by omega)
    · have : deg n es k - 1 = topF n es q k := (if_neg (by omega)).symm
      rw [this]; exact upto_set _ (by omega)
  · have e : k = n := by omega
    subst e
    rw [upto_all]; exact h
/-- A superstable configuration. -/
structure CalmF (n : Nat) (es : List E3) (q : Nat) (d : List Int) : Prop where
  nn : ∀ v, v < n → 0 ≤ gi d v
  sq : gi d q = 0
  red : Red n es q d
theorem p_r25_Calm {d : List Int} {R : Bool → Prop} (hl : es.length ≤ 1000) (hg : gcheckF n es = 0) (hdn : d.length = n) (hq : q < n) (h1 : CalmF n es q d → R true) (h2 : ¬ CalmF n es q d → R false) : pf_r25_Calm (n : Int) es (q : Int) d R := by
  obtain ⟨hE, hn1, hn12⟩ := gcheck_ok hg
  unfold pf_r25_Calm
  refine ⟨fun m2 v => Cnt n (fun k => ∀ j, j < k → 0 ≤ gi d j ∧ (j = q → gi d j = 0)) m2 v, Cnt.start (fun j hj => absurd hj (by omega)), ?_⟩
  rintro m2 _ ⟨k, rfl, rfl, hk, hinv⟩
  simp only [Int.toNat_natCast]
  have hnx : 0 ≤ gi d k ∧ (k = q → gi d k = 0) → ∀ j, j < k + 1 → 0 ≤ gi d j ∧ (j = q → gi d j = 0) := fun h j hj => by
    by_cases e : j = k
    · subst e; exact h
    · exact hinv j (by omega)
  refine ⟨fun hlt => ⟨by omega, fun hneg => h2 fun hC => ?_, fun hneg => ⟨fun e => ⟨fun e0 => Cnt.next (by omega) (by omega) (hnx ⟨by omega, fun _ => e0⟩), fun e0 => h2 fun hC => e0 ?_⟩, fun e => Cnt.next (by omega) (by omega) (hnx ⟨by omega, fun e1 => absurd e1 (by omega)⟩)⟩⟩, fun hge => ?_⟩
  · have := hC.nn k (by omega); omega
  · have e : k = q := by omega
    subst e; exact hC.sq
  · have e : k = n := by omega
    subst e
    have hpos : ∀ v, v < k → v ≠ q → 0 ≤ gi d v := fun v hv _ => (hinv v hv).1
    exact p_r25_Tight hl hg hdn hq (fun ht => h1 ⟨fun v hv => (hinv v hv).1, (hinv q hq).2 rfl, (tight_red hq hpos).1 ht⟩) (fun ht => h2 fun hr => ht ((tight_red hq hpos).2 hr.red))
/-- A list of k numbers up to t. -/
def Cfg (t : Nat → Int) (k : Nat) (x : List Int) : Prop := x.length = k ∧ ∀ j, j < k → 0 ≤ gi x j ∧ gi x j ≤ t j
theorem take_gx {v : List (List Int)} {i : Nat} (h : i < v.length) : v.take (i + 1) = v.take i ++ [gx v i] := by
  rw [gx_of_lt h, List.take_add_one, List.getElem?_eq_getElem h]; rfl
theorem Cfg.snoc {t : Nat → Int} {k : Nat} {y : List Int} : Cfg t (k + 1) y ↔ ∃ x c, Cfg t k x ∧ 0 ≤ c ∧ c ≤ t k ∧ y = x ++ [c] := by
  constructor
  · rintro ⟨h1, h2⟩
    refine ⟨y.take k, gi y k, ⟨by simp; omega, fun j hj => ?_⟩, (h2 k (by omega)).1, (h2 k (by omega)).2, ?_⟩
    · have : gi (y.take k) j = gi y j := by unfold gi; simp only [List.getD_eq_getElem?_getD]; rw [List.getElem?_take_of_lt hj]
      rw [this]; exact h2 j (by omega)
    · have hk : k < y.length := by omega
      have e : y.take (k + 1) = y.take k ++ [gi y k] := by rw [List.take_add_one, List.getElem?_eq_getElem hk, gi_of_lt hk]; rfl
      rw [← e, List.take_of_length_le (by omega)]
  · rintro ⟨x, c, ⟨h1, h2⟩, h3, h4, rfl⟩
    refine ⟨by simp [h1], fun j hj => ?_⟩
    rw [gi_snc x c (by omega), h1]
    by_cases e : j = k
    · subst e; rw [if_pos rfl]; exact ⟨h3, h4⟩
    · rw [if_neg e]; exact h2 j (by omega)
theorem p_r25_Calms {R : List (List Int) → Prop} (hl : es.length ≤ 1000) (hg : gcheckF n es = 0) (hn6 : n ≤ 6) (hq : q < n) (ht : ∀ v, v < n → topF n es q v ≤ 8)
    (h : ∀ L : List (List Int), (∀ y, y ∈ L ↔ Cfg (topF n es q) n y ∧ CalmF n es q y) → L.length ≤ 1000000 → R L) : pf_r25_Calms (n : Int) es (q : Int) R := by
  obtain ⟨hE, hn1, hn12⟩ := gcheck_ok hg
  refine p_r25_Greatest (by omega) hg ?_
  generalize hT : topF n es q = t at *
  refine ⟨fun m2 v v2 => Cnt n (fun k => v.length ≤ 9 ^ k ∧ ∀ y, y ∈ v ↔ Cfg t k y) m2 v2, Cnt.start ⟨Nat.le_refl _, fun y => ⟨fun hy => ?_, fun hy => ?_⟩⟩, ?_⟩
  · have : y = [] := by simpa using hy
    subst this; exact ⟨rfl, fun j hj => absurd hj (by omega)⟩
  · have : y = [] := List.eq_nil_of_length_eq_zero hy.1
    subst this; exact List.mem_cons_self
  rintro m2 v _ ⟨k, rfl, rfl, hk, hvl, hv⟩
  simp only [Int.toNat_natCast]
  have h9 : v.length ≤ 531441 := by
    have : 9 ^ k ≤ 9 ^ 6 := Nat.pow_le_pow_right (by omega) (by omega)
    omega
  refine ⟨fun hlt => ?_, fun hge => ?_⟩
  · have hlt : k < n := by omega
    have htk := ht k hlt
    refine ⟨fun m3 v3 v4 => Cnt v.length (fun i => v3.length ≤ i * 9 ∧ ∀ y, y ∈ v3 ↔ ∃ x c, x ∈ v.take i ∧ 0 ≤ c ∧ c ≤ t k ∧ y = x ++ [c]) m3 v4, Cnt.start ⟨by simp, fun y => by simp⟩, ?_⟩
    rintro m3 v3 _ ⟨i, rfl, rfl, hi, hl3, h3⟩
    simp only [Int.toNat_natCast]
    refine ⟨fun hlti => ?_, fun hgei => ?_⟩
    · have hlti : i < v.length := by omega
      refine ⟨fun m4 v5 v6 => Cnt (t k + 1).toNat (fun c => v5.length ≤ i * 9 + c ∧ ∀ y, y ∈ v5 ↔ y ∈ v3 ∨ ∃ c' : Nat, c' < c ∧ y = gx v i ++ [(c' : Int)]) m4 v6, Cnt.start ⟨by omega, fun y => by simp⟩, ?_⟩
      rintro m4 v5 _ ⟨c, rfl, rfl, hc, hl5, h5⟩
      simp only [List.nil_append]
      have hgl := (hv (gx v i)).1 (by rw [gx_of_lt hlti]; exact List.getElem_mem _)
      have hgk := hgl.1
      rw [gi_tab _ hlt, tab_length]
      refine ⟨by omega, fun hle => ⟨by omega, by omega, by omega, by omega, Cnt.next (by omega) (by omega) ⟨by simp; omega, fun y => ?_⟩⟩, fun hgt => Cnt.next hlti (by omega) ⟨by omega, fun y => ?_⟩⟩
      · rw [List.mem_append, h5, List.mem_singleton, or_assoc]
        refine or_congr_right ⟨?_, ?_⟩
        · rintro (⟨c', hc', rfl⟩ | rfl)
          · exact ⟨c', by omega, rfl⟩
          · exact ⟨c, by omega, rfl⟩
        · rintro ⟨c', hc', rfl⟩
          by_cases e : c' = c
          · subst e; exact .inr rfl
          · exact .inl ⟨c', by omega, rfl⟩
      · rw [h5, h3, take_gx hlti]
        constructor
        · rintro (⟨x, c0, hx, h01, h02, rfl⟩ | ⟨c', hc', rfl⟩)
          · exact ⟨x, c0, List.mem_append_left _ hx, h01, h02, rfl⟩
          · exact ⟨_, _, List.mem_append_right _ (List.mem_singleton.2 rfl), by omega, by omega, rfl⟩
        · rintro ⟨x, c0, hx, h01, h02, rfl⟩
          rcases List.mem_append.1 hx with hx | hx
          · exact .inl ⟨x, c0, hx, h01, h02, rfl⟩
          · rw [List.mem_singleton] at hx
            subst hx
            exact .inr ⟨c0.toNat, by omega, by rw [Int.toNat_of_nonneg h01]⟩
    · have e : i = v.length := by omega
      subst e
      refine Cnt.next hlt (by omega) ⟨?_, fun y => ?_⟩
      · rw [Nat.pow_succ]; exact Nat.le_trans hl3 (Nat.mul_le_mul_right 9 hvl)
      · rw [h3, Cfg.snoc, List.take_length]
        constructor
        · rintro ⟨x, c, hx, h01, h02, rfl⟩; exact ⟨x, c, (hv x).1 hx, h01, h02, rfl⟩
        · rintro ⟨x, c, hx, h01, h02, rfl⟩; exact ⟨x, c, (hv x).2 hx, h01, h02, rfl⟩
  · have e : k = n := by omega
    subst e
    refine ⟨fun m8 v7 v8 => Cnt v.length (fun i => v7.length ≤ i ∧ ∀ y, y ∈ v7 ↔ y ∈ v.take i ∧ CalmF k es q y) m8 v8, Cnt.start ⟨by simp, fun y => by simp⟩, ?_⟩
    rintro m8 v7 _ ⟨i, rfl, rfl, hi, hl7, h7⟩
    simp only [Int.toNat_natCast]
    refine ⟨fun hlti => ?_, fun hgei => ?_⟩
    · have hlti : i < v.length := by omega
      have hgl := (hv (gx v i)).1 (by rw [gx_of_lt hlti]; exact List.getElem_mem _)
      refine ⟨by omega, p_r25_Calm hl hg hgl.1 hq (fun hC => ⟨fun _ => ⟨by omega, Cnt.next hlti (by omega) ⟨by simp; omega, fun y => ?_⟩⟩, fun q => absurd rfl q⟩) (fun hC => ⟨fun q => (by cases q), fun _ => Cnt.next hlti (by omega) ⟨by omega, fun y => ?_⟩⟩)⟩
      · rw [List.mem_append, h7, take_gx hlti, List.mem_append, List.mem_singleton]
        constructor
        · rintro (⟨h1, h2⟩ | rfl)
          · exact ⟨.inl h1, h2⟩
          · exact ⟨.inr rfl, hC⟩
        · rintro ⟨h1 | rfl, h2⟩
          · exact .inl ⟨h1, h2⟩
          · exact .inr rfl
      · rw [h7, take_gx hlti, List.mem_append, List.mem_singleton]
        constructor
        · rintro ⟨h1, h2⟩; exact ⟨.inl h1, h2⟩
        · rintro ⟨h1 | rfl, h2⟩
          · exact ⟨h1, h2⟩
          · exact absurd h2 hC
    · have e : i = v.length := by omega
      subst e
      refine h v7 (fun y => ?_) (by omega)
      rw [h7, List.take_length, hv]
end
theorem dg_set {d : List Int} {q : Nat} (hq : q < d.length) (x : Int) : dg (d.set q x) = dg d - gi d q + x := by
  unfold dg
  rw [List.length_set, sm_split hq, sm_split hq (f := gi d), gi_set hq, if_pos rfl, sm_congr (g := fun v => if v = q then 0 else gi d v) fun v hv => by
    by_cases e : v = q
    · rw [if_pos e, if_pos e]
    · rw [if_neg e, if_neg e, gi_set hq, if_neg e]]
  omega
def flatF (d : List Int) (q : Nat) : List Int := d.set q (gi d q - dg d)
theorem dg_bound {d : List Int} {B : Int} (hB : 0 ≤ B) (h : ∀ j, j < d.length → -B ≤ gi d j ∧ gi d j ≤ B) : -(d.length * B) ≤ dg d ∧ dg d ≤ d.length * B := sm_bound hB h
theorem p_r25_Flat {d : List Int} {q : Nat} {R : List Int → Prop} (hq : q < d.length) (hl : d.length ≤ 12) (hb : ∀ i, i < d.length → -1000000000 ≤ gi d i ∧ gi d i ≤ 1000000000) (h : R (flatF d q)) : pf_r25_Flat d (q : Int) R := by
  unfold pf_r25_Flat
  simp only [List.nil_append, Int.toNat_natCast]
  have h1 := dg_bound (by omega) hb
  have h2 := hb q hq
  have h3 : (d.length : Int) * 1000000000 ≤ 12 * 1000000000 := by omega
  refine ⟨by omega, by omega, p_r17_Total (by omega) (fun i hi => by have := hb i hi; omega) ⟨i64 (by omega), h⟩⟩
/-- A script that is right away from q is right at q. -/
theorem lp_at {n : Nat} {es : List E3} {q : Nat} (hq : q < n) {f a : Nat → Int} (h0 : sm n a = 0) (h : ∀ v, v < n → v ≠ q → Lp n es f v = a v) : ∀ v, v < n → Lp n es f v = a v := by
  intro v hv
  by_cases e : v = q
  · subst e
    have t1 := Lp_total (n := n) (es := es) f
    rw [sm_split hv] at t1 h0
    rw [sm_congr (g := fun u => if u = v then 0 else a u) fun u hu => by
      by_cases e : u = v
      · rw [if_pos e, if_pos e]
      · rw [if_neg e, if_neg e, h u hu e]] at t1
    omega
  · exact h v hv e
section
variable {m q : Nat} {es : List E3} {d : List Int}
variable (hl : es.length ≤ 1000) (hg : gcheckF ((m + 1 : Nat) : Int) es = 0) (hc : connF ((m + 1 : Nat) : Int) es = true) (hm : m ≤ 5) (hq : q ≤ m) (ht : ∀ v, v < m + 1 → topF (m + 1) es q v ≤ 8) (hdl : d.length = m + 1) (hd : ∀ j, j < m + 1 → -100 ≤ gi d j ∧ gi d j ≤ 100)
include hl hg hc hm hq ht hdl hd
theorem p_r25_Settled {R : List Int → Prop} (hex : ∃ y, Cfg (topF (m + 1) es q) (m + 1) y ∧ CalmF (m + 1) es q y ∧ ∃ f : Nat → Int, ∀ v, v < m + 1 → v ≠ q → Lp (m + 1) es f v = gi d v - gi y v)
    (h : ∀ y, Cfg (topF (m + 1) es q) (m + 1) y → CalmF (m + 1) es q y → (∃ f : Nat → Int, ∀ v, v < m + 1 → v ≠ q → Lp (m + 1) es f v = gi d v - gi y v) → R y) : pf_r25_Settled ((m + 1 : Nat) : Int) es (q : Int) d R := by
  refine p_r25_Calms hl hg (by omega) (by omega) ht fun L hL hLl => ?_
  have hflat : ∀ y, y.length = m + 1 → ∀ v, v < m + 1 → gi (flatF y q) v = if v = q then gi y q - dg y else gi y v := fun y hy v hv => by unfold flatF; rw [gi_set (by omega)]
  have hfd : ∀ y, y.length = m + 1 → sm (m + 1) (gi (flatF y q)) = 0 := fun y hy => by
    have e : (flatF y q).length = m + 1 := by unfold flatF; rw [List.length_set, hy]
    have := dg_set (d := y) (q := q) (by omega) (gi y q - dg y)
    have h2 : dg (flatF y q) = sm (m + 1) (gi (flatF y q)) := by unfold dg; rw [e]
    rw [← h2]
    unfold flatF; omega
  refine ⟨fun m2 i => Cnt L.length (fun k => ∀ j, j < k → ¬ ∃ f : Nat → Int, ∀ v, v < m + 1 → v ≠ q → Lp (m + 1) es f v = gi d v - gi (gx L j) v) m2 i, Cnt.start (fun j hj => absurd hj (by omega)), ?_⟩
  rintro m2 _ ⟨i, rfl, rfl, hi, hinv⟩
  simp only [Int.toNat_natCast]
  refine ⟨fun hlt => ?_, fun hge => ?_⟩
  · have hlt : i < L.length := by omega
    obtain ⟨hy1, hy2⟩ := (hL (gx L i)).1 (by rw [gx_of_lt hlt]; exact List.getElem_mem _)
    generalize hyg : gx L i = y at hy1 hy2 ⊢
    obtain ⟨hyl, hyb⟩ := hy1
    have hyB : ∀ j, j < y.length → -8 ≤ gi y j ∧ gi y j ≤ 8 := fun j hj => by have := hyb j (by omega); have := ht j (by omega); omega
    have hyd := dg_bound (by omega) hyB
    have hdd := dg_bound (d := d) (B := 100) (by omega) (fun j hj => hd j (by omega))
    rw [hyl] at hyd
    rw [hdl] at hdd
    have hm1 : ((m + 1 : Nat) : Int) * 8 ≤ 48 := by omega
    have hm2 : ((m + 1 : Nat) : Int) * 100 ≤ 600 := by omega
    have hkey : ∀ f : Nat → Int, (∀ v, v < m + 1 → Lp (m + 1) es f v = gi (flatF d q) v - gi (flatF y q) v) ↔ (∀ v, v < m + 1 → v ≠ q → Lp (m + 1) es f v = gi d v - gi y v) := fun f => by
      constructor
      · intro hf v hv hvq
        rw [hf v hv, hflat d hdl v hv, hflat y hyl v hv, if_neg hvq, if_neg hvq]
      · intro hf
        refine lp_at (by omega : q < m + 1) (a := fun v => gi (flatF d q) v - gi (flatF y q) v) (by rw [sm_sub, hfd d hdl, hfd y hyl]; rfl) fun v hv hvq => ?_
        show _ = gi (flatF d q) v - gi (flatF y q) v
        rw [hflat d hdl v hv, hflat y hyl v hv, if_neg hvq, if_neg hvq]; exact hf v hv hvq
    refine ⟨by omega, p_r25_Flat (by omega) (by omega) (fun j hj => by have := hd j (by omega); omega) (p_r25_Flat (by omega) (by omega) (fun j hj => by have := hyB j (by omega); omega) ?_)⟩
    refine p_r25_Alike (by omega) hg hc hm (by unfold flatF; rw [List.length_set, hdl]) (by unfold flatF; rw [List.length_set, hyl]) (fun j hj => ?_) (fun ⟨f, hf⟩ => ⟨fun _ => h y ⟨hyl, hyb⟩ hy2 ⟨f, (hkey f).1 hf⟩, fun q => absurd rfl q⟩) (fun hno => ⟨fun q => (by cases q), fun _ => Cnt.next hlt (by omega) fun j hj => ?_⟩)
    · have h1 := hd j hj
      have h2 := hyB j (by omega)
      have h3 := hd q (by omega)
      have h4 := hyB q (by omega)
      rw [hflat d hdl j hj, hflat y hyl j hj]
      split <;> omega
    · by_cases e : j = i
      · rw [e, hyg]
        exact fun ⟨f, hf⟩ => hno ⟨f, (hkey f).2 hf⟩
      · exact hinv j (by omega)
  · have e : i = L.length := by omega
    subst e
    obtain ⟨y, hy1, hy2, hy3⟩ := hex
    obtain ⟨j, hj, rfl⟩ := List.getElem_of_mem ((hL y).2 ⟨hy1, hy2⟩)
    exfalso
    refine hinv j hj ?_
    rw [gx_of_lt hj]; exact hy3
end
end Go.Proofs.Ytnhmeckhlajeaaa

/- Words for the laws of layer 34. -/
namespace Go.Proofs.Ytnhmeckhlajeaaa
open Go
set_option linter.unusedVariables false
set_option linter.unusedSimpArgs false

theorem small_of {n : Int} {es : List E3} {d : List Int} (h1 : smallF n es 6 9 = true) (h2 : lowF n d = true) : Small n es d := by
  unfold smallF at h1
  rw [decide_eq_true_eq] at h1
  rw [lowF_iff] at h2
  refine ⟨h1.1, h1.2, fun hc v hv => ?_⟩
  obtain ⟨n, rfl⟩ : ∃ n' : Nat, n = (n' : Int) := ⟨n.toNat, by omega⟩
  have := (checkF_ok hc).1
  have := h2.2 hc v (by omega)
  omega
theorem small_len {n : Int} {es : List E3} (h1 : smallF n es 6 9 = true) : es.length ≤ 40 := by
  unfold smallF at h1
  rw [decide_eq_true_eq] at h1
  exact h1.1
/-- A small connected graph with a divisor that has few chips. -/
structure Right (n : Int) (es : List E3) (d : List Int) : Prop where
  few : smallF n es 6 9 = true
  joined : joinedE n es = 0
  chips : checkF d n = 0
  low : lowF n d = true
theorem Right.given {n : Int} {es : List E3} {d : List Int} (h : Right n es d) {q : Int} (hq : 0 ≤ q ∧ q < n) : givenF n es q d = 0 := by
  have hj := h.joined
  unfold joinedE at hj
  unfold givenF
  by_cases h1 : gcheckF n es = 0
  · rw [if_pos h1] at hj ⊢
    by_cases h2 : connF n es = true
    · rw [if_pos h2, if_pos hq, h.chips]
    · rw [if_neg h2] at hj; omega
  · rw [if_neg h1] at hj; exact absurd hj h1
theorem Right.graph {n : Int} {es : List E3} {d : List Int} (h : Right n es d) : gcheckF n es = 0 ∧ connF n es = true ∧ es.length ≤ 40 ∧ 1 ≤ n ∧ n ≤ 6 := by
  have hj := h.joined
  have hs := h.few
  unfold joinedE at hj
  unfold smallF at hs
  rw [decide_eq_true_eq] at hs
  by_cases h1 : gcheckF n es = 0
  · rw [if_pos h1] at hj
    have hn := (hs.2 h1).1
    have h0 : 1 ≤ n := by
      unfold gcheckF at h1
      split at h1
      · omega
      · omega
    by_cases h2 : connF n es = true
    · exact ⟨h1, h2, hs.1, h0, hn⟩
    · rw [if_neg h2] at hj; omega
  · rw [if_neg h1] at hj; exact absurd hj h1
/-- The divisor of a right pair: as long as there are vertices, with few chips. -/
theorem Right.nat {n : Nat} {es : List E3} {d : List Int} (h : Right (n : Int) es d) : d.length = n ∧ ∀ j, j < n → -100 ≤ gi d j ∧ gi d j ≤ 100 := by
  have hl := (checkF_ok h.chips).1
  refine ⟨hl, fun j hj => (lowF_iff.1 h.low).2 h.chips j (by omega)⟩
end Go.Proofs.Ytnhmeckhlajeaaa

/- ReducedForms' pure form holds. -/
namespace Go.Proofs.Ytnhmeckhlajeaaa
open Go
set_option linter.unusedVariables false
set_option linter.unusedSimpArgs false

/-- A number, seen as a vertex. -/
theorem smallF_iff {n : Int} {es : List E3} {a b : Int} : smallF n es a b = true → es.length ≤ 40 ∧ (gcheckF n es = 0 → n ≤ a ∧ (es.map (·.2.2)).sum ≤ b) := by
  unfold smallF; rw [decide_eq_true_eq]; exact id
theorem red_set {n : Nat} {es : List E3} {q : Nat} {x : List Int} (hx : x.length = n) (hq : q < n) (h : Red n es q x) (c : Int) : Red n es q (x.set q c) :=
  ⟨fun v hv hvq => by rw [gi_set (by omega), if_neg hvq]; exact h.pos v hv hvq, fun S hS hex => by
    obtain ⟨v, hv, hSv, hlt⟩ := h.no S hS hex
    refine ⟨v, hv, hSv, ?_⟩
    rw [gi_set (by omega), if_neg (fun e => by rw [e, hS] at hSv; cases hSv)]; exact hlt⟩
theorem dg_eq {l : List Int} {n : Nat} (h : l.length = n) : dg l = sm n (gi l) := by unfold dg; rw [h]
/-- What is reduced has few chips away from q. -/
theorem red_top {n : Nat} {es : List E3} {q : Nat} {x : List Int} (h : Red n es q x) {v : Nat} (hv : v < n) (hvq : v ≠ q) : gi x v ≤ deg n es v - 1 := by
  obtain ⟨u, hu, hSu, hlt⟩ := h.no (fun w => decide (w = v)) (by simp; exact fun e => hvq e.symm) ⟨v, hv, by simp⟩
  simp only [decide_eq_true_eq] at hSu hlt
  subst hSu
  have : sm n (fun w => if w = u then 0 else W es u w) = deg n es u := by
    unfold deg
    exact sm_congr fun w _ => by
      by_cases e : w = u
      · subst e; rw [if_pos rfl, W_self]
      · rw [if_neg e]
  omega
section
variable {m q : Nat} {es : List E3} {d x s : List Int}
theorem p_r34_Reduce {R : List Int → List Int → Int → Prop} (hl : es.length ≤ 1000) (hm : m ≤ 5) (hq : q ≤ m) (ht : ∀ v, v < m + 1 → topF (m + 1) es q v ≤ 8) (hd : ∀ j, j < m + 1 → -100 ≤ gi d j ∧ gi d j ≤ 100)
    (hG : givenF ((m + 1 : Nat) : Int) es (q : Int) d = 0) (hx : Reduces (m + 1) es q d x s) (h : R x s 0) : pf_r34_Reduce ((m + 1 : Nat) : Int) es (q : Int) d R := by
  obtain ⟨hg, hc, -, -, hck⟩ := givenF_ok hG
  obtain ⟨hE, -, -⟩ := gcheck_ok hg
  have hE : EOk (m + 1) es := hE
  have hdl : d.length = m + 1 := (checkF_ok hck).1
  refine p_r34_Given (by omega) ?_
  rw [hG]
  refine ⟨fun _ => ?_, fun q => absurd rfl q⟩
  have hdd := dg_bound (d := d) (B := 100) (by omega) (fun j hj => hd j (by omega))
  rw [hdl] at hdd
  have hm2 : ((m + 1 : Nat) : Int) * 100 ≤ 600 := by omega
  refine p_r25_Settled hl hg hc hm hq ht hdl hd ⟨x.set q 0, ?_, ?_, gi s, fun v hv hvq => ?_⟩ fun y hy hyC ⟨f, hf⟩ => ?_
  · refine ⟨by rw [List.length_set, hx.dl], fun j hj => ?_⟩
    rw [gi_set (by have := hx.dl; omega)]
    unfold topF
    by_cases e : j = q
    · rw [if_pos e, if_pos e]; omega
    · rw [if_neg e, if_neg e]; exact ⟨hx.pos j hj e, red_top hx.red hj e⟩
  · refine ⟨fun v hv => ?_, by rw [gi_set (by have := hx.dl; omega), if_pos rfl], red_set hx.dl (by omega) hx.red 0⟩
    rw [gi_set (by have := hx.dl; omega)]
    by_cases e : v = q
    · rw [if_pos e]; omega
    · rw [if_neg e]; exact hx.pos v hv e
  · rw [gi_set (by have := hx.dl; omega), if_neg hvq, hx.lp v hv]; omega
  · have hyl := hy.1
    have hyB : ∀ j, j < y.length → -8 ≤ gi y j ∧ gi y j ≤ 8 := fun j hj => by have := hy.2 j (by omega); have := ht j (by omega); omega
    have hyd := dg_bound (by omega) hyB
    rw [hyl] at hyd
    have hm1 : ((m + 1 : Nat) : Int) * 8 ≤ 48 := by omega
    simp only [List.nil_append, Int.toNat_natCast]
    have hblen : (y.set q (dg d - dg y)).length = m + 1 := by rw [List.length_set, hyl]
    -- the form is the one that is reduced
    have hby : x = y.set q (dg d - dg y) := by
      have hbt : dg (y.set q (dg d - dg y)) = dg d := by rw [dg_set (by omega), hyC.sq]; omega
      have hlp := lp_at (es := es) (by omega : q < m + 1) (f := f) (a := fun v => gi d v - gi (y.set q (dg d - dg y)) v) (by
        rw [sm_sub]
        have e1 := dg_eq hblen
        have e2 := dg_eq hdl
        omega) fun v hv hvq => by
          show _ = gi d v - gi (y.set q (dg d - dg y)) v
          rw [gi_set (by omega), if_neg hvq, hf v hv hvq]
      refine (reduces_eq hE (by omega) hx (a' := y.set q (dg d - dg y)) (s' := tab (fun v => f v + - f q) (m + 1)) hblen (tab_length _ _) (fun v hv => ?_) (by rw [gi_tab _ (by omega)]; omega) (red_set hyl (by omega) hyC.red _)).1
      have e : Lp (m + 1) es (gi (tab (fun v => f v + - f q) (m + 1))) v = Lp (m + 1) es f v := by
        rw [Lp_congr (b := fun v => f v + - f q) (fun i hi => gi_tab _ hi) hv, Lp_add, Lp_const]; omega
      have := hlp v hv
      show gi (y.set q (dg d - dg y)) v = _
      rw [e, this]; omega
    have hxB : ∀ j, j < m + 1 → -700 ≤ gi x j ∧ gi x j ≤ 700 := fun j hj => by
      rw [hby, gi_set (by omega)]
      have := hyB j (by omega)
      split <;> omega
    have hpl : ∀ j, j < m + 1 → gi (plusF d x (-1)) j = gi d j - gi x j := fun j hj => by unfold plusF; rw [gi_tab _ (by omega)]; omega
    refine ⟨by omega, p_r17_Total (by omega) (fun j hj => by have := hd j (by omega); omega) (p_r17_Total (by omega) (fun j hj => by have := hyB j (by omega); omega) ⟨i64 (by omega), by omega, ?_⟩)⟩
    rw [← hby]
    refine p_r25_Plus (by omega) (by have := hx.dl; omega) (by omega) (fun j hj => by have := hd j (by omega); omega) (fun j hj => by have := hxB j (by omega); omega) ?_
    refine p_r25_Solve (by omega) hg hc hm hq (by unfold plusF; rw [tab_length, hdl]) (fun j hj => by rw [hpl j hj]; have := hxB j hj; have := hd j hj; omega) (fun t htl ht0 htL => ?_) (fun hno => absurd ⟨gi s, fun v hv => by rw [hpl v hv, hx.lp v hv]; omega⟩ hno)
    have := (reduces_eq hE (by omega) hx (a' := x) (s' := t) hx.dl htl (fun v hv => by rw [htL v hv, hpl v hv]; omega) ht0 hx.red).2
    rw [← this]; exact h
end
theorem p_forms {n : Int} {es : List E3} {q : Int} {d : List Int} : pf_l34_ReducedForms n es q d (fun r => r = true) := by
  unfold pf_l34_ReducedForms
  refine ⟨smallF n es 6 9 = true ∧ lowF n d = true, fun ⟨hf, hlow⟩ => ?_, p_r34_Few ⟨fun hf => p_r34_Low ⟨fun hlow => ⟨hf, hlow⟩, fun _ => rfl⟩, fun _ => rfl⟩⟩
  obtain ⟨hel, hsm⟩ := smallF_iff hf
  have hlow' := lowF_iff.1 hlow
  refine ⟨small_of hf hlow, by omega, fun hG => ?_, fun hG x s hx hxl hsl => ?_⟩
  · refine p_r34_Given (by omega) ⟨fun e => absurd e hG, fun _ => ?_⟩
    exact p_slices_Equal_Divisor (by simp) ⟨fun _ => p_slices_Equal_Script (by simp) ⟨fun _ => ⟨fun _ => rfl, fun q => absurd rfl q⟩, fun q => absurd (decide_eq_true rfl) q⟩, fun q => absurd (decide_eq_true rfl) q⟩
  · obtain ⟨hg, hc, hq0, hqn, hck⟩ := givenF_ok hG
    obtain ⟨hn6, hs9⟩ := hsm hg
    obtain ⟨n, rfl⟩ : ∃ n' : Nat, n = (n' : Int) := ⟨n.toNat, by omega⟩
    obtain ⟨q, rfl⟩ : ∃ q' : Nat, q = (q' : Int) := ⟨q.toNat, by omega⟩
    obtain ⟨m, rfl⟩ : ∃ m, n = m + 1 := ⟨n - 1, by omega⟩
    obtain ⟨hE, -, -⟩ := gcheck_ok hg
    simp only [Int.toNat_natCast] at hx hxl hsl
    have hdl : d.length = m + 1 := (checkF_ok hck).1
    refine p_r34_Reduce (by omega) (by omega) (by omega) (fun v hv => ?_) (fun j hj => hlow'.2 hck j (by omega)) hG hx ?_
    · have := deg_le_sum (es := es) (fun y hy => by have := hE y hy; omega) (m + 1) v
      unfold topF
      split <;> omega
    · exact p_slices_Equal_Divisor (by omega) ⟨fun _ => p_slices_Equal_Script (by omega) ⟨fun _ => ⟨fun _ => rfl, fun q => absurd rfl q⟩, fun q => absurd (decide_eq_true rfl) q⟩, fun q => absurd (decide_eq_true rfl) q⟩
end Go.Proofs.Ytnhmeckhlajeaaa

/- What the arguments of the laws read as: numbers, lists, graphs; and what is handed back. -/
namespace Go.Proofs.Ytnhmeckhlajeaaa
open Go Go.ChangeShapes Go.WideShapes Go.ChangeAt Go.RowKit Go.Joins Go.Deep

theorem own : ownKnob Try.prog.godebug = none := by kernel_rfl
theorem laidOut : laidOutB Try.prog = true := by kernel_rfl
theorem cells_int : Try.prog.cellsOf 3 = 1 := by kernel_rfl
theorem cells_graph : Try.prog.cellsOf 24 = 2 := by kernel_rfl
theorem cells_edge : Try.prog.cellsOf 117 = 3 := by kernel_rfl

theorem cells3 {w : World} {base : Nat} {a : Addr} {cs : List Value} (h : w.cells? base a 3 = some cs) : ∃ x y z, cs = [x, y, z] ∧ w.cell? a = some x ∧ w.cell? (a.add 1) = some y ∧ w.cell? (a.add 2) = some z := by
  unfold World.cells? at h
  split at h
  · have e : List.range 3 = [0, 1, 2] := rfl
    rw [e] at h
    cases h0 : w.cell? (a.add 0) with
    | none => simp [h0] at h
    | some x =>
      cases h1 : w.cell? (a.add 1) with
      | none => simp [h0, h1] at h
      | some y =>
        cases h2 : w.cell? (a.add 2) with
        | none => simp [h0, h1, h2] at h
        | some z =>
          simp [h0, h1, h2] at h
          exact ⟨x, y, z, h.symm, h0, rfl, rfl⟩
  · cases h

theorem ints_sl {W : World} {A : Option Addr} {xs : List Int} {c : Nat} (hc : xs.length ≤ c) (h : Ints W A xs) : (FP.sl cI A xs.length c xs).P no W := by
  refine ⟨rfl, hc, fun h0 => ?_⟩
  obtain ⟨b, off, e, hb, hcell⟩ := h h0
  refine ⟨b, off, e, hb, id, fun k x hx => ⟨_, rfl, fun j u hj => ?_⟩⟩
  have hk : k < xs.length := (List.getElem?_eq_some_iff.1 hx).1
  have hj0 : j = 0 := by
    have := (List.getElem?_eq_some_iff.1 hj).1
    simp [fI] at this; exact this
  subst hj0
  have hu : u = .int .i64 x := by
    have : (some (Value.int .i64 x)) = some u := hj
    simpa using this.symm
  rw [gi_some hk] at hx
  cases hx
  rw [hu]
  have := hcell k hk
  simpa [cI, Fl.cod, fI] using this
theorem edges_sl {W : World} {A : Option Addr} {xs : List E3} {c : Nat} (hc : xs.length ≤ c) (h : Edges W A xs) : (FP.sl c3 A xs.length c xs).P no W := by
  refine ⟨rfl, hc, fun h0 => ?_⟩
  obtain ⟨b, off, e, hb, hcell⟩ := h h0
  refine ⟨b, off, e, hb, id, fun k x hx => ⟨_, rfl, fun j u hj => ?_⟩⟩
  have hk : k < xs.length := (List.getElem?_eq_some_iff.1 hx).1
  rw [ge_some hk] at hx
  cases hx
  obtain ⟨q0, q1, q2⟩ := hcell k hk
  match j, hj with
  | 0, hj =>
    have : (some (Value.int .i64 (ge xs k).1)) = some u := hj
    cases this; exact q0
  | 1, hj =>
    have : (some (Value.int .i64 (ge xs k).2.1)) = some u := hj
    cases this; exact q1
  | 2, hj =>
    have : (some (Value.int .i64 (ge xs k).2.2)) = some u := hj
    cases this; exact q2
  | j + 3, hj => cases hj
theorem no_dom (n : Nat) : ∀ k, no k → k < n := fun _ h => h.elim
set_option maxRecDepth 100000
variable {H : Type} {enc : TypeId × Value → H} {W : World} {r : Reach} {b0 : Nat}
theorem open_list {t : TypeId} (ht : Try.prog.underlying t = some (.slice 3)) {v : Value} {d : DataW H} {p : List MemPlace} (hv : Value.okWide Try.prog W r b0 t v) (h : DataW.Trod enc Try.prog W 0 (fun _ => true) true t v d p) :
    ∃ (A : Option Addr) (l : List Int) (c : Nat), v = .slice A l.length c ∧ (FP.sl cI A l.length c l).P no W := by
  suffices h : ∃ (A : Option Addr) (l : List Int) (c : Nat), v = .slice A l.length c ∧ l.length ≤ c ∧ Ints W A l by
    obtain ⟨A, l, c, e, hlc, hi⟩ := h
    exact ⟨A, l, c, e, ints_sl hlc hi⟩
  obtain ⟨a0, len, cap, rfl⟩ := okWide_slice ht hv
  obtain ⟨fuel, hf⟩ := h
  rcases open_ints ht Try.underlying3 cells_int hf with ⟨hcs, hx⟩ | ⟨a, len', cap', zs, hcs, _, hl, hm, hz, hx, hcell, hwz⟩
  · simp [Value.cells] at hcs
    obtain ⟨rfl, rfl, rfl⟩ := hcs
    exact ⟨none, [], 0, rfl, Nat.le_refl _, Ints.nil _ _⟩
  · simp [Value.cells] at hcs
    obtain ⟨rfl, rfl, rfl⟩ := hcs
    simp only [if_true] at hz
    refine ⟨some a, zs.take len, cap, by rw [List.length_take, Nat.min_eq_left (by omega)], by rw [List.length_take]; omega, fun hp => ?_⟩
    rw [List.length_take, Nat.min_eq_left (by omega)] at hp ⊢
    obtain ⟨b, off, rfl, hc⟩ := ints_at hcell (by omega)
    refine ⟨b, off, rfl, ?_, fun k hk => ?_⟩
    · have := hc 0 (by omega)
      apply Nat.lt_of_not_le
      intro hle
      unfold World.cell? at this
      rw [Array.getElem?_eq_none hle] at this
      simp at this
    · rw [hc k (by omega), gi_of_lt (by rw [List.length_take]; omega), List.getElem_take, List.getD_eq_getElem?_getD, List.getElem?_eq_getElem (by omega)]
      rfl
theorem open_ints_f {t : TypeId} (ht : Try.prog.underlying t = some (.slice 3)) {fuel : Nat} {v : Value} {x : DataW H × List MemPlace} (hf : DataW.trod enc Try.prog W 0 (fun _ => true) true fuel t [v] = some x) :
    ∃ (A : Option Addr) (l : List Int) (c : Nat), v = .slice A l.length c ∧ (FP.sl cI A l.length c l).P no W := by
  suffices h : ∃ (A : Option Addr) (l : List Int) (c : Nat), v = .slice A l.length c ∧ l.length ≤ c ∧ Ints W A l by
    obtain ⟨A, l, c, e, hlc, hi⟩ := h
    exact ⟨A, l, c, e, ints_sl hlc hi⟩
  rcases open_ints ht Try.underlying3 cells_int hf with ⟨hcs, hx⟩ | ⟨a, len', cap', zs, hcs, _, hl, hm, hz, hx, hcell, hwz⟩
  · simp at hcs
    subst hcs
    exact ⟨none, [], 0, rfl, Nat.le_refl _, Ints.nil _ _⟩
  · simp at hcs
    subst hcs
    simp only [if_true] at hz
    refine ⟨some a, zs.take len', cap', by rw [List.length_take, Nat.min_eq_left (by omega)], by rw [List.length_take]; omega, fun hp => ?_⟩
    rw [List.length_take, Nat.min_eq_left (by omega)] at hp ⊢
    obtain ⟨b, off, rfl, hc⟩ := ints_at hcell (by omega)
    refine ⟨b, off, rfl, ?_, fun k hk => ?_⟩
    · have := hc 0 (by omega)
      apply Nat.lt_of_not_le
      intro hle
      unfold World.cell? at this
      rw [Array.getElem?_eq_none hle] at this
      simp at this
    · rw [hc k (by omega), gi_of_lt (by rw [List.length_take]; omega), List.getElem_take, List.getD_eq_getElem?_getD, List.getElem?_eq_getElem (by omega)]
      rfl
theorem open_arr2 {t e : TypeId} {k : IntKind} (ht : Try.prog.underlying t = some (.array 2 e)) (he : Try.prog.underlying e = some (.int k)) (hC : Try.prog.cellsOf t = 2) (hce : Try.prog.cellsOf e = 1) {v : Value} {d : DataW H} {p : List MemPlace} (hv : Value.okWide Try.prog W r b0 t v) (h : DataW.Trod enc Try.prog W 0 (fun _ => true) true t v d p) :
    ∃ x y : Int, v = .agg #[.int k x, .int k y] ∧ (Lit.int k x).wf = true ∧ (Lit.int k y).wf = true := by
  simp only [Value.okWide, ht] at hv
  obtain ⟨cs, rfl, hsz, _⟩ := hv
  obtain ⟨c0, c1, rfl⟩ := array2 (hsz.trans (by first | exact hC | simp [hce]))
  obtain ⟨fuel, hf⟩ := h
  obtain ⟨xs, m, rfl, hx, hl, hn, hel⟩ := DataW.trod_array ht hf
  obtain ⟨x0, x1, rfl⟩ : ∃ x0 x1, xs = [x0, x1] := by
    match xs, hn with
    | [x0, x1], _ => exact ⟨_, _, rfl⟩
  have f0 := hel 0 (by omega)
  have f1 := hel 1 (by omega)
  simp [hce, Value.cells] at f0 f1
  obtain ⟨a, e0, -, w0⟩ := DataW.trod_int he f0
  obtain ⟨b, e1, -, w1⟩ := DataW.trod_int he f1
  simp at e0 e1
  subst e0; subst e1
  exact ⟨a, b, rfl, w0, w1⟩
theorem open_edge {fuel base : Nat} {spare : Nat → Bool} {held : Bool} {x y z : Value} {o : DataW H × List MemPlace} (h : DataW.trod enc Try.prog W base spare held fuel 117 [x, y, z] = some o) : ∃ a b c : Int, x = .int .i64 a ∧ y = .int .i64 b ∧ z = .int .i64 c := by
  obtain ⟨xs, n, _, rfl, hl, hlen, hf⟩ := DataW.trod_struct Try.underlying117 h
  obtain ⟨x0, x1, x2, rfl⟩ : ∃ x0 x1 x2, xs = [x0, x1, x2] := by
    match xs, hlen with
    | [x0, x1, x2], _ => exact ⟨_, _, _, rfl⟩
  have f0 := hf 0 _ rfl
  have f1 := hf 1 _ rfl
  have f2 := hf 2 _ rfl
  simp [cells_int] at f0 f1 f2
  obtain ⟨a, e0, -, -⟩ := DataW.trod_int Try.underlying3 f0
  obtain ⟨b, e1, -, -⟩ := DataW.trod_int Try.underlying3 f1
  obtain ⟨c, e2, -, -⟩ := DataW.trod_int Try.underlying3 f2
  simp at e0 e1 e2
  exact ⟨a, b, c, e0, e1, e2⟩
theorem open_graph {v : Value} {d : DataW H} {p : List MemPlace} (hv : Value.okWide Try.prog W r b0 24 v) (h : DataW.Trod enc Try.prog W 0 (fun _ => true) true 24 v d p) :
    ∃ (n : Int) (A : Option Addr) (es : List E3) (c : Nat), v = .agg #[.int .i64 n, .slice A es.length c] ∧ (FP.sl c3 A es.length c es).P no W := by
  suffices h : ∃ (n : Int) (A : Option Addr) (es : List E3) (c : Nat), v = .agg #[.int .i64 n, .slice A es.length c] ∧ es.length ≤ c ∧ Edges W A es by
    obtain ⟨n, A, l, c, e, hlc, hi⟩ := h
    exact ⟨n, A, l, c, e, edges_sl hlc hi⟩
  obtain ⟨c0, c1, y0, y1, m, rfl, rfl, rfl, hy0, hy1⟩ := open_agg2 Try.underlying24 (by kernel_rfl) cells_graph hv h
  obtain ⟨n, e0, -, -⟩ := DataW.trod_int Try.underlying3 hy0
  simp at e0
  subst e0
  rcases open_slice Try.underlying22 hy1 with ⟨hcs, -⟩ | ⟨a, len, cap, mm, nn, D, Pl, hcs, -, hl, hm, hmm, -, hel⟩
  · simp at hcs
    subst hcs
    exact ⟨n, none, [], 0, rfl, Nat.le_refl _, fun h => absurd h (by simp)⟩
  · simp at hcs
    subst hcs
    simp only [if_true] at hmm
    have hex : ∀ i, i < len → ∃ e : E3, W.cell? (a.add (i * 3)) = some (.int .i64 e.1) ∧ W.cell? ((a.add (i * 3)).add 1) = some (.int .i64 e.2.1) ∧ W.cell? ((a.add (i * 3)).add 2) = some (.int .i64 e.2.2) := fun i hi => by
      obtain ⟨cs', hc, ht⟩ := hel i (by omega)
      rw [cells_edge] at hc
      obtain ⟨x, y, z, rfl, k0, k1, k2⟩ := cells3 hc
      obtain ⟨xa, xb, xc, rfl, rfl, rfl⟩ := open_edge ht
      exact ⟨(xa, xb, xc), k0, k1, k2⟩
    let f : Nat → E3 := fun i => if h : i < len then Classical.choose (hex i h) else (0, 0, 0)
    have hf : ∀ i, i < len → W.cell? (a.add (i * 3)) = some (.int .i64 (f i).1) ∧ W.cell? ((a.add (i * 3)).add 1) = some (.int .i64 (f i).2.1) ∧ W.cell? ((a.add (i * 3)).add 2) = some (.int .i64 (f i).2.2) := fun i hi => by
      show _ ∧ _ ∧ _
      have e : f i = Classical.choose (hex i hi) := dif_pos hi
      rw [e]
      exact Classical.choose_spec (hex i hi)
    have hlen : ((List.range len).map f).length = len := by simp
    refine ⟨n, some a, (List.range len).map f, cap, by rw [hlen], by rw [hlen]; omega, fun hp => ?_⟩
    rw [hlen] at hp ⊢
    obtain ⟨b, off, spot⟩ := a
    have hspot : spot = none := by simpa [Addr.add] using World.cell?_spot (hf 0 hp).1
    subst hspot
    refine ⟨b, off, rfl, ?_, fun k hk => ?_⟩
    · have := (hf 0 hp).1
      apply Nat.lt_of_not_le
      intro hle
      unfold World.cell? at this
      rw [Array.getElem?_eq_none (by simpa [Addr.add] using hle)] at this
      simp at this
    · have hg : ge ((List.range len).map f) k = f k := by rw [ge_of_lt (by rw [hlen]; exact hk)]; simp
      rw [hg]
      have := hf k hk
      simpa [Addr.add_mid] using this
end Go.Proofs.Ytnhmeckhlajeaaa
