/- Texts laid together: SpB, SpC, SpT, SpE, SpG, L34, SpW, SpP, SpF, L36, SpN, RkM, RkF, RkG, RkW, RkR, L38, Lr38. -/
import Derived.Test.YtmeoemmemjipdaaK6
/- What the references' pure forms come to: connectedness, errors, scripts. -/
namespace Go.Proofs.Ytmeoemmemjipdaa
open Go
set_option linter.unusedVariables false
set_option linter.unusedSimpArgs false

section
variable {n : Nat} {es : List E3}
theorem p_r08_Reached {v : Nat} {R : List Bool → Prop} (hl : es.length ≤ 1000000000) (hg : gcheckF n es = 0) (hv : v < n) (h : ∀ o : List Bool, o.length = n → (∀ u, u < n → gb o u = decide (root (joinedF es) u = root (joinedF es) v)) → R o) : pf_r08_Reached (n : Int) es (v : Int) R := by
  obtain ⟨hE, hn1, hn12⟩ := gcheck_ok hg
  unfold pf_r08_Reached
  simp only [Int.toNat_natCast]
  refine ⟨by omega, by simp; omega, ?_⟩
  let Q : List Bool → Prop := fun o => o.length = n ∧ gb o v = true ∧ ∀ u, u < n → gb o u = true → root (joinedF es) u = root (joinedF es) v
  let Z : List Bool → List Bool → Prop := fun o0 o => (Cl n es o0 → o = o0) ∧ (o = o0 ∨ cf o < cf o0) ∧ ∀ a, gb o0 a = true → gb o a = true
  have hq4 : Q ((List.replicate n false).set v true) := by
    refine ⟨by simp, by rw [gb_set (by simpa using hv), if_pos rfl], fun u hu h => ?_⟩
    rw [gb_set (by simpa using hv)] at h
    split at h
    · rename_i e; rw [e]
    · rw [gb_rep] at h; cases h
  have hcf0 : cf ((List.replicate n false).set v true) + 1 = n := by
    rw [cf_set (by simpa using hv) (gb_rep n v)]
    unfold cf
    rw [List.filter_eq_self.2 (fun x hx => by rw [(List.mem_replicate.1 hx).2]; rfl)]
    simp
  have hsetQ : ∀ {o : List Bool} {b : Nat}, Q o → b < n → root (joinedF es) b = root (joinedF es) v → Q (o.set b true) := by
    rintro o b ⟨q1, q4, q5⟩ hb hr
    have hbl : b < o.length := by omega
    refine ⟨by simpa using q1, ?_, fun u hu h => ?_⟩
    · rw [gb_set hbl]; split <;> first | rfl | exact q4
    · rw [gb_set hbl] at h
      split at h
      · rename_i e; rw [e]; exact hr
      · exact q5 u hu h
  refine ⟨fun m i o => Cnt n (fun k => Q o ∧ (Cl n es o ∨ cf o + k + 1 ≤ n)) m i, Cnt.start ⟨hq4, .inr (by omega)⟩, ?_⟩
  rintro m _ o0 ⟨k, rfl, rfl, hk, hq5, hpr⟩
  refine ⟨fun hlt => ?_, fun hge => ?_⟩
  · refine ⟨fun m i o => Cnt n (fun a => Q o ∧ Z o0 o ∧ ∀ a', a' < a → gb o0 a' = true → ∀ b, b < n → 0 < W es a' b → gb o b = true) m i, Cnt.start ⟨hq5, ⟨fun _ => rfl, .inl rfl, fun _ h => h⟩, fun a' h => absurd h (by omega)⟩, ?_⟩
    rintro m _ o ⟨a, rfl, rfl, ha, hq6, hz, hdone⟩
    refine ⟨fun hlta => ?_, fun hgea => ?_⟩
    · refine ⟨fun m i o => Cnt n (fun b => Q o ∧ Z o0 o ∧ (∀ a', a' < a → gb o0 a' = true → ∀ b, b < n → 0 < W es a' b → gb o b = true) ∧ (gb o0 a = true → ∀ b', b' < b → 0 < W es a b' → gb o b' = true)) m i, Cnt.start ⟨hq6, hz, hdone, fun _ b' h => absurd h (by omega)⟩, ?_⟩
      clear hq6 hz hdone hq5
      rintro m _ o ⟨b, rfl, rfl, hb, hq7, hz, hdone, hnow⟩
      have hol := hq7.1
      refine ⟨fun hltb => ⟨by omega, fun hx => ?_, fun hx => Cnt.next (by omega) (by omega) ⟨hq7, hz, hdone, fun h => absurd (hz.2.2 a h) (by simpa using hx)⟩⟩, fun hgeb => ?_⟩
      · simp only [Int.toNat_natCast] at hx ⊢
        have hstep : (a ≠ b → 0 < W es a b) → Q (o.set b true) ∧ Z o0 (o.set b true) ∧ (∀ a', a' < a → gb o0 a' = true → ∀ b', b' < n → 0 < W es a' b' → gb (o.set b true) b' = true) ∧ (gb o0 a = true → ∀ b', b' < b + 1 → 0 < W es a b' → gb (o.set b true) b' = true) := by
          intro hW
          have hbl : b < o.length := by omega
          have hup : ∀ x, gb o x = true → gb (o.set b true) x = true := fun x h => by rw [gb_set hbl]; split <;> first | rfl | exact h
          have hrb : root (joinedF es) b = root (joinedF es) v := by
            have h1 := hq7.2.2 a (by omega) hx
            by_cases eab : a = b
            · rw [← eab]; exact h1
            · rw [← root_W hE hn1 hn12 (hW eab)]; exact h1
          refine ⟨hsetQ hq7 (by omega) hrb, ⟨fun hcl => ?_, ?_, fun x h => hup x (hz.2.2 x h)⟩, fun a' h1 h2 b' h3 h4 => hup _ (hdone a' h1 h2 b' h3 h4), fun h1 b' h2 h3 => ?_⟩
          · have e0 := hz.1 hcl
            subst e0
            refine set_same ?_
            by_cases eab : a = b
            · rw [← eab]; exact hx
            · exact hcl a b (by omega) (by omega) hx (hW eab)
          · cases hob : gb o b with
            | true => rw [set_same hob]; exact hz.2.1
            | false =>
              have := cf_set hbl hob
              rcases hz.2.1 with h | h
              · right; rw [← h]; omega
              · right; omega
          · by_cases e2 : b' = b
            · subst e2; rw [gb_set hbl, if_pos rfl]
            · exact hup _ (hnow h1 b' (by omega) h3)
        have hpass : ¬ 0 < W es a b → (gb o0 a = true → ∀ b', b' < b + 1 → 0 < W es a b' → gb o b' = true) := fun h h1 b' h2 h3 => by
          by_cases e2 : b' = b
          · subst e2; exact absurd h3 h
          · exact hnow h1 b' (by omega) h3
        by_cases eab : a = b
        · subst eab
          refine p_r08_Between' hl ⟨fun h => ⟨by omega, Cnt.next (by omega) (by omega) (hstep fun h => absurd rfl h)⟩, fun h => Cnt.next (by omega) (by omega) ⟨hq7, hz, hdone, hpass (by rw [show W es a a = 0 from W_self es a]; omega)⟩⟩
        · refine p_r08_Between hl hg eab ⟨fun h => ⟨by omega, Cnt.next (by omega) (by omega) (hstep fun _ => h)⟩, fun h => Cnt.next (by omega) (by omega) ⟨hq7, hz, hdone, hpass h⟩⟩
      · have hbn : b = n := by omega
        subst hbn
        refine Cnt.next (by omega) (by omega) ⟨hq7, hz, fun a' h1 h2 b' h3 h4 => ?_⟩
        by_cases e2 : a' = a
        · subst e2; exact hnow h2 b' h3 h4
        · exact hdone a' (by omega) h2 b' h3 h4
    · have han : a = n := by omega
      subst han
      refine Cnt.next (by omega) (by omega) ⟨hq6, ?_⟩
      by_cases hcl : Cl a es o0
      · rw [hz.1 hcl]; exact .inl hcl
      · rcases hz.2.1 with h | h
        · exfalso
          subst h
          exact hcl fun x y hx hy h1 h2 => hdone x hx h1 y hy h2
        · rcases hpr with h2 | h2
          · exact absurd h2 hcl
          · right; omega
  · have hkn : k = n := by omega
    subst hkn
    rcases hpr with q | q
    · exact h o0 hq5.1 (cl_root hE hn1 hn12 q hv hq5.2.1 hq5.2.2)
    · omega
theorem p_r08_Parts {R : Int → Prop} (hl : es.length ≤ 1000000000) (hg : gcheckF n es = 0) (h : ∀ k : Int, (k = 1 ↔ connF n es = true) → R k) : pf_r08_Parts (n : Int) es R := by
  obtain ⟨hE, hn1, hn12⟩ := gcheck_ok hg
  have hcr := conn_root hE hn1 hn12
  unfold pf_r08_Parts
  simp only [Int.toNat_natCast]
  refine ⟨by omega, ?_⟩
  refine ⟨fun m k i o => Cnt n (fun v => 0 ≤ k ∧ k ≤ v ∧ (v = 0 → k = 0) ∧ (0 < v → 1 ≤ k ∧ (k = 1 ↔ ∀ x, x < v → root (joinedF es) x = root (joinedF es) 0)) ∧ o.length = n ∧ (∀ u, u < n → (gb o u = true ↔ ∃ x, x < v ∧ root (joinedF es) u = root (joinedF es) x))) m i,
    Cnt.start ⟨by omega, by omega, fun _ => rfl, fun h => absurd h (by omega), by simp, fun u _ => by rw [gb_rep]; simp⟩, ?_⟩
  rintro m k _ o ⟨v, rfl, rfl, hv, k0, k1, k2, k3, hol, hseen⟩
  refine ⟨fun hlt => ?_, fun hge => ?_⟩
  · have hlt : v < n := by omega
    simp only [Int.toNat_natCast]
    refine ⟨by omega, fun hx => ?_, fun hx => ⟨i64 (by omega), p_r08_Reached hl hg hlt fun ro hrl hro => ?_⟩⟩
    · obtain ⟨x, hxv, hxr⟩ := (hseen v hlt).1 hx
      refine Cnt.next hlt (by omega) ⟨k0, by omega, fun h => absurd h (by omega), fun _ => ?_, hol, fun u hu => ?_⟩
      · have h3 := k3 (by omega)
        refine ⟨h3.1, ?_⟩
        rw [h3.2]
        constructor
        · intro h y hy
          by_cases e : y = v
          · subst e; rw [hxr]; exact h x hxv
          · exact h y (by omega)
        · intro h y hy; exact h y (by omega)
      · rw [hseen u hu]
        constructor
        · rintro ⟨y, hy, hyr⟩; exact ⟨y, by omega, hyr⟩
        · rintro ⟨y, hy, hyr⟩
          by_cases e : y = v
          · subst e; exact ⟨x, hxv, hyr.trans hxr⟩
          · exact ⟨y, by omega, hyr⟩
    · refine ⟨fun m i o' => Cnt n (fun u => o'.length = n ∧ (∀ x, x < n → (gb o' x = true ↔ (gb o x = true ∨ (x < u ∧ gb ro x = true))))) m i, Cnt.start ⟨hol, fun x _ => by simp⟩, ?_⟩
      rintro m _ o' ⟨u, rfl, rfl, hu, hol', hor⟩
      refine ⟨fun hltu => ?_, fun hgeu => ?_⟩
      · have hltu : u < n := by omega
        simp only [Int.toNat_natCast]
        have hou := hor u hltu
        have st : ∀ b : Bool, (b = true ↔ (gb o u = true ∨ gb ro u = true)) → (o'.set u b).length = n ∧ (∀ x, x < n → (gb (o'.set u b) x = true ↔ (gb o x = true ∨ (x < u + 1 ∧ gb ro x = true)))) := fun b hbb => by
          refine ⟨by simpa using hol', fun x hx => ?_⟩
          rw [gb_set (by omega)]
          by_cases e : x = u
          · subst e
            rw [if_pos rfl, hbb]
            constructor
            · rintro (h | h)
              · exact .inl h
              · exact .inr ⟨by omega, h⟩
            · rintro (h | h)
              · exact .inl h
              · exact .inr h.2
          · rw [if_neg e, hor x hx]
            constructor
            · rintro (h | h)
              · exact .inl h
              · exact .inr ⟨by omega, h.2⟩
            · rintro (h | h)
              · exact .inl h
              · exact .inr ⟨by omega, h.2⟩
        refine ⟨by omega, fun hx2 => Cnt.next hltu (by omega) (st true ?_), fun hx2 => ⟨by omega, Cnt.next hltu (by omega) (st _ ?_)⟩⟩
        · have := hou.1 hx2
          constructor
          · intro _; rcases this with h | h
            · exact .inl h
            · exact .inr h.2
          · intro _; rfl
        · constructor
          · intro h; exact .inr h
          · rintro (h | h)
            · exact absurd (hou.2 (.inl h)) hx2
            · exact h
      · have hun : u = n := by omega
        subst hun
        have hnew : ¬ ∃ x, x < v ∧ root (joinedF es) v = root (joinedF es) x := fun h => hx ((hseen v hlt).2 h)
        refine Cnt.next (by omega) (by omega) ⟨by omega, by omega, fun h => absurd h (by omega), fun _ => ⟨by omega, ?_⟩, hol', fun x hxn => ?_⟩
        · by_cases e0 : v = 0
          · subst e0
            have := k2 rfl
            subst this
            constructor
            · intro _ y hy; rw [show y = 0 by omega]
            · intro _; rfl
          · have h3 := k3 (by omega)
            constructor
            · intro h; omega
            · intro h; exact absurd ⟨0, by omega, h v (by omega)⟩ hnew
        · rw [hor x hxn, hseen x hxn, hro x hxn, decide_eq_true_eq]
          constructor
          · rintro (⟨y, hy, hyr⟩ | h)
            · exact ⟨y, by omega, hyr⟩
            · exact ⟨v, by omega, h.2⟩
          · rintro ⟨y, hy, hyr⟩
            by_cases e : y = v
            · subst e; exact .inr ⟨hxn, hyr⟩
            · exact .inl ⟨y, by omega, hyr⟩
  · have hvn : v = n := by omega
    subst hvn
    refine h k ?_
    rw [(k3 (by omega)).2, hcr]
theorem p_r08_Connected {R : Bool → Prop} (hl : es.length ≤ 1000000000) (hg : gcheckF n es = 0) (h : R (connF n es)) : pf_r08_Connected (n : Int) es R :=
  p_r08_Parts hl hg fun k hk => by
    have e : decide (k = 1) = connF n es := by rw [Bool.eq_iff_iff, decide_eq_true_eq]; exact hk
    rw [e]; exact h
end
section
variable {n q : Int} {es : List E3} {d s : List Int}
theorem p_r25_Joined {R : Int → Prop} (hl : es.length ≤ 1000000000) (h : R (joinedE n es)) : pf_r25_Joined n es R := by
  unfold pf_r25_Joined
  unfold joinedE at h
  refine p_r08_Check hl ⟨fun h0 => ?_, fun h0 => by rwa [if_neg h0] at h⟩
  rw [if_pos h0] at h
  have hn : 1 ≤ n ∧ n ≤ 12 := by
    unfold gcheckF at h0
    split at h0
    · assumption
    · omega
  obtain ⟨n, rfl⟩ : ∃ n' : Nat, n = (n' : Int) := ⟨n.toNat, by omega⟩
  exact p_r08_Connected hl h0 ⟨fun h1 => by rwa [if_pos h1] at h, fun h1 => by rwa [if_neg h1] at h⟩
def sinkE (n : Int) (es : List E3) (q : Int) : Int := if joinedE n es = 0 then (if 0 ≤ q ∧ q < n then 0 else 2) else joinedE n es
/-- Few chips, or an error. -/
def lowF (n : Int) (d : List Int) : Bool := decide (d.length ≤ 100 ∧ (checkF d n = 0 → ∀ j, j < d.length → -100 ≤ gi d j ∧ gi d j ≤ 100))
theorem lowF_iff : lowF n d = true ↔ d.length ≤ 100 ∧ (checkF d n = 0 → ∀ j, j < d.length → -100 ≤ gi d j ∧ gi d j ≤ 100) := by unfold lowF; exact decide_eq_true_iff
theorem p_r34_Low {R : Bool → Prop} (h : R (lowF n d)) : pf_r34_Low n es d R := by
  unfold pf_r34_Low
  have ht : (d.length ≤ 100 ∧ (checkF d n = 0 → ∀ j, j < d.length → -100 ≤ gi d j ∧ gi d j ≤ 100)) → R true := fun q => by rwa [lowF_iff.2 q] at h
  have hf : ¬ (d.length ≤ 100 ∧ (checkF d n = 0 → ∀ j, j < d.length → -100 ≤ gi d j ∧ gi d j ≤ 100)) → R false := fun q => by
    have : lowF n d = false := by rw [Bool.eq_false_iff]; exact fun q2 => q (lowF_iff.1 q2)
    rwa [this] at h
  refine ⟨fun h1 => hf (by omega), fun h1 => p_r17_Check ⟨fun h2 => ?_, fun h2 => ht ⟨by omega, fun q => absurd q h2⟩⟩⟩
  refine ⟨Cnt d.length (fun k => ∀ j, j < k → -100 ≤ gi d j ∧ gi d j ≤ 100), Cnt.start (fun j hj => absurd hj (by omega)), ?_⟩
  rintro m _ ⟨k, rfl, rfl, hk, hinv⟩
  simp only [Int.toNat_natCast]
  refine ⟨fun hlt => ⟨by omega, fun h3 => hf fun q => ?_, fun h3 => ⟨fun h4 => hf fun q => ?_, fun h4 => Cnt.next (by omega) (by omega) fun j hj => ?_⟩⟩, fun hge => ht ⟨by omega, fun _ j hj => hinv j (by omega)⟩⟩
  · have := q.2 h2 k (by omega); omega
  · have := q.2 h2 k (by omega); omega
  · by_cases e : j = k
    · subst e; omega
    · exact hinv j (by omega)
/-- The Laplacian of a script, as a list. -/
def lpL (n : Nat) (es : List E3) (s : List Int) : List Int := tab (fun v => Lp n es (gi s) v) n
/-- The sum with a multiple. -/
def plusF (a b : List Int) (k : Int) : List Int := tab (fun i => gi a i + k * gi b i) a.length
theorem p_r25_Plus {a b : List Int} {k : Int} {R : List Int → Prop} (hl : a.length ≤ 1000) (hlb : a.length ≤ b.length) (hk : -1 ≤ k ∧ k ≤ 1) (ha : ∀ j, j < a.length → -1000000000000000 ≤ gi a j ∧ gi a j ≤ 1000000000000000) (hb : ∀ j, j < a.length → -1000000000000000 ≤ gi b j ∧ gi b j ≤ 1000000000000000) (h : R (plusF a b k)) : pf_r25_Plus a b k R := by
  unfold pf_r25_Plus
  simp only [Int.toNat_natCast]
  refine ⟨by omega, fun m i out => Cnt a.length (fun j => out = upto (fun i => gi a i + k * gi b i) j a.length) m i, Cnt.start (upto_zero _ _).symm, ?_⟩
  rintro m _ out ⟨i, rfl, rfl, hi, rfl⟩
  refine ⟨fun hlt => ?_, fun hge => ?_⟩
  · have hlt : i < a.length := by omega
    have h1 := ha i hlt
    have h2 := hb i hlt
    simp only [Int.toNat_natCast]
    have hkb : -1000000000000000 ≤ k * gi b i ∧ k * gi b i ≤ 1000000000000000 := by
      have : k = -1 ∨ k = 0 ∨ k = 1 := by omega
      rcases this with rfl | rfl | rfl <;> omega
    refine ⟨by omega, by omega, i64 (by omega), i64 (by omega), by rw [upto_length]; omega, Cnt.next hlt (by omega) ?_⟩
    exact upto_set (fun i => gi a i + k * gi b i) hlt
  · have hkn : i = a.length := by omega
    subst hkn
    rw [upto_all]; exact h
/-- A divisor behind a script. -/
def appF (n : Nat) (es : List E3) (d s : List Int) : List Int := tab (fun v => gi d v - Lp n es (gi s) v) n
end
end Go.Proofs.Ytmeoemmemjipdaa

/- What the pure forms of the program's and the library's small functions come to. -/
namespace Go.Proofs.Ytmeoemmemjipdaa
open Go
set_option linter.unusedVariables false
set_option linter.unusedSimpArgs false

theorem p_slices_Equal_Divisor {a b : List Int} {R : Bool → Prop} (hl : a.length ≤ 1000000000) (h : R (decide (a = b))) : pf_slices_Equal_Divisor a b R := by
  unfold pf_slices_Equal_Divisor
  have ht : a = b → R true := fun q => by rwa [decide_eq_true q] at h
  have hf : ¬ a = b → R false := fun q => by rwa [decide_eq_false q] at h
  refine ⟨fun hln => ?_, fun hln => hf fun q => hln (by rw [q])⟩
  refine ⟨Cnt a.length (fun k => ∀ j, j < k → gi a j = gi b j), Cnt.start (fun j hj => absurd hj (by omega)), ?_⟩
  rintro m _ ⟨k, rfl, rfl, hk, hinv⟩
  simp only [Int.toNat_natCast]
  refine ⟨fun hlt => ⟨by omega, by omega, fun h1 => Cnt.next (by omega) (by omega) fun j hj => ?_, fun h1 => hf fun q => h1 (by rw [q])⟩, fun hge => ht (gi_ext (by omega) fun j hj => hinv j (by omega))⟩
  by_cases e : j = k
  · subst e; exact h1
  · exact hinv j (by omega)

theorem p_slices_Clone_Divisor {s : List Int} {R : List Int → Prop} (hl : s.length ≤ 1000000000) (h : R s) : pf_slices_Clone_Divisor s R := by
  unfold pf_slices_Clone_Divisor
  exact fun nil hn => ⟨fun q => by rw [hn q] at h; exact h, fun q => ⟨by omega, h⟩⟩
end Go.Proofs.Ytmeoemmemjipdaa

/- What the references' pure forms on sets come to. -/
namespace Go.Proofs.Ytmeoemmemjipdaa
open Go
set_option linter.unusedVariables false
set_option linter.unusedSimpArgs false

section
variable {n : Nat} {es : List E3} {d : List Int}
end
/-- A small connected graph with a divisor that has few chips. -/
def rightF (n : Int) (es : List E3) (d : List Int) : Prop := smallF n es 6 9 = true ∧ joinedE n es = 0 ∧ checkF d n = 0 ∧ lowF n d = true
end Go.Proofs.Ytmeoemmemjipdaa

/- What the library's pure forms come to: search, minimum, order. -/
namespace Go.Proofs.Ytmeoemmemjipdaa
open Go
set_option linter.unusedVariables false
set_option linter.unusedSimpArgs false

/-- The least number. -/
theorem p_slices_Min {x : List Int} {R : Int → Prop} (hl : x.length ≤ 1000000000) (h0 : 0 < x.length) (h : ∀ m, (∃ k, k < x.length ∧ gi x k = m) → (∀ k, k < x.length → m ≤ gi x k) → R m) : pf_slices_Min_Divisor x R := by
  unfold pf_slices_Min_Divisor
  refine ⟨True, fun _ => ⟨by omega, ?_⟩, fun q => by omega, fun _ => trivial⟩
  refine ⟨fun c m i => Cnt x.length (fun k => 1 ≤ k ∧ (∃ j, j < k ∧ gi x j = m) ∧ ∀ j, j < k → m ≤ gi x j) c i, ⟨x.length - 1, 1, rfl, rfl, h0, by omega, ⟨0, by omega, rfl⟩, fun j hj => by rw [show j = 0 by omega]; exact Int.le_refl _⟩, ?_⟩
  rintro c m _ ⟨k, rfl, rfl, hk, h1, ⟨j0, hj0, rfl⟩, hm⟩
  simp only [Int.toNat_natCast]
  refine ⟨fun hlt => ⟨by omega, Cnt.next (by omega) (by omega) ⟨by omega, ?_, fun j hj => ?_⟩⟩, fun hge => ?_⟩
  · by_cases q : gi x k < gi x j0
    · exact ⟨k, by omega, by unfold mnF; rw [if_pos q]⟩
    · exact ⟨j0, by omega, by unfold mnF; rw [if_neg q]⟩
  · rw [mnF_eq]
    by_cases e : j = k
    · subst e; omega
    · have := hm j (by omega); omega
  · have : k = x.length := by omega
    subst this
    exact h _ ⟨j0, hj0, rfl⟩ hm
end Go.Proofs.Ytmeoemmemjipdaa

/- What the pure forms of chips, graph and firing come to. -/
namespace Go.Proofs.Ytmeoemmemjipdaa
open Go
set_option linter.unusedVariables false
set_option linter.unusedSimpArgs false

theorem p_chips_within {k : Int} {R : Bool → Prop} (h : R (inF k)) : pf_chips_within k R := by
  unfold pf_chips_within
  refine ⟨fun h1 => ?_, fun h1 => ?_⟩
  · have e : decide (k ≤ 1048576) = inF k := by unfold inF; simp [h1]
    rw [e]; exact h
  · have e : false = inF k := by unfold inF; simp [h1]
    rw [e]; exact h
theorem p_chips_Check {d : List Int} {n : Int} {R : Int → Prop} (h : R (checkF d n)) : pf_chips_Check d n R := by
  unfold pf_chips_Check pf_chips_vertices
  have hout : ¬ (1 ≤ n ∧ n ≤ 12) → R 2 := fun q => by
    have : checkF d n = 2 := by unfold checkF vertsF; rw [if_neg q, if_neg (by omega)]
    rwa [this] at h
  refine ⟨fun q => ⟨fun q2 => absurd q2 (by omega), fun _ => hout (by omega)⟩, fun q => ⟨fun q2 => ⟨fun q3 => absurd q3 (by omega), fun _ => hout (by omega)⟩, fun q2 => ⟨fun _ => ?_, fun q3 => absurd rfl q3⟩⟩⟩
  have hc : checkF d n = if (d.length : Int) = n then (if d.all inF then 0 else 2) else 8 := by unfold checkF; rw [if_pos (by unfold vertsF; rw [if_pos (by omega)])]
  rw [hc] at h
  refine ⟨fun hln => ?_, fun hln => by rwa [if_neg hln] at h⟩
  rw [if_pos hln] at h
  refine ⟨Cnt d.length (fun k => ∀ j, j < k → inF (gi d j) = true), Cnt.start (fun j hj => absurd hj (by omega)), ?_⟩
  rintro m _ ⟨k, rfl, rfl, hk, hinv⟩
  refine ⟨fun hlt => ⟨by omega, p_chips_within ⟨fun h1 => Cnt.next (by omega) (by omega) fun j hj => ?_, fun h1 => ?_⟩⟩, fun hge => ?_⟩
  · by_cases e : j = k
    · subst e; simpa using h1
    · exact hinv j (by omega)
  · rw [if_neg (fun hall => h1 ((all_iff_gi inF d).1 hall _ (by omega)))] at h; exact h
  · rw [if_pos ((all_iff_gi inF d).2 fun j hj => hinv j (by omega))] at h; exact h
theorem p_graph_vertex {n v : Int} {R : Bool → Prop} (h : R (decide (0 ≤ v ∧ v < n))) : pf_graph_vertex n v R := by
  unfold pf_graph_vertex
  refine ⟨fun h1 => ?_, fun h1 => ?_⟩
  · have e : decide (v < n) = decide (0 ≤ v ∧ v < n) := by simp [h1]
    rw [e]; exact h
  · have e : false = decide (0 ≤ v ∧ v < n) := by simp [h1]
    rw [e]; exact h
theorem p_cmp_Compare {a b : Int} {R : Int → Prop} (h : R (cmpF a b)) : pf_cmp_Compare_int a b R := by
  unfold pf_cmp_Compare_int pf_cmp_isNaN_int
  unfold cmpF at h
  refine ⟨fun q => absurd q (by simp), fun _ => ⟨fun q => absurd q (by simp), fun _ => ⟨fun h1 => by rwa [if_pos h1] at h, fun h1 => ?_⟩⟩⟩
  rw [if_neg h1] at h
  refine ⟨fun h2 => by rwa [if_pos h2] at h, fun h2 => by rwa [if_neg h2] at h⟩
theorem p_cmp_Or2 {x y : Int} {R : Int → Prop} (h : R (orF x y)) : pf_cmp_Or_int [x, y] R := by
  unfold pf_cmp_Or_int
  unfold orF at h
  refine ⟨Cnt 2 (fun k => ∀ j, j < k → gi [x, y] j = 0), Cnt.start (fun j hj => absurd hj (by omega)), ?_⟩
  rintro m _ ⟨k, rfl, rfl, hk, hinv⟩
  simp only [Int.toNat_natCast, List.length_cons, List.length_nil]
  have hk3 : k = 0 ∨ k = 1 ∨ k = 2 := by omega
  have g0 : gi [x, y] 0 = x := rfl
  have g1 : gi [x, y] 1 = y := rfl
  have hnx : gi [x, y] k = 0 → ∀ j, j < k + 1 → gi [x, y] j = 0 := fun q j hj => by
    by_cases e : j = k
    · subst e; exact q
    · exact hinv j (by omega)
  refine ⟨fun hlt => ⟨by omega, fun q => Cnt.next (by omega) (by omega) (hnx q), fun q => ?_⟩, fun hge => ?_⟩
  · rcases hk3 with rfl | rfl | rfl
    · rw [g0] at q ⊢; rwa [if_pos q] at h
    · have h0 := hinv 0 (by omega)
      rw [g0] at h0
      rw [g1]; rwa [if_neg (fun q2 => q2 h0)] at h
    · exact absurd hlt (by omega)
  · have : k = 2 := by omega
    subst this
    have h0 := hinv 0 (by omega)
    have h1 := hinv 1 (by omega)
    rw [g0] at h0
    rw [g1] at h1
    rw [if_neg (fun q2 => q2 h0), h1] at h; exact h
theorem p_pair_compare {a b c d : Int} {R : Int → Prop} (h : R (pcmpF a b c d)) : pf_graph_pair_compare a b c d R :=
  p_cmp_Compare (p_cmp_Compare (p_cmp_Or2 h))
theorem p_graph_Check {n : Int} {es : List E3} {R : Int → Prop} (hl : es.length ≤ 1000000000) (h : R (gcheckF n es)) : pf_graph_Check n es R := by
  unfold pf_graph_Check
  have hout : ¬ (1 ≤ n ∧ n ≤ 12) → R 2 := fun q => by unfold gcheckF at h; rwa [if_neg q] at h
  refine ⟨1 ≤ n ∧ n ≤ 12, fun hn => ?_, fun q => hout (by omega), fun q => ⟨fun q2 => hout (by omega), fun q2 => ⟨by omega, by omega⟩⟩⟩
  have hg : gcheckF n es = gchk n (-1) (-1) es := by unfold gcheckF; rw [if_pos hn]
  rw [hg] at h
  refine ⟨fun m i a b => Cnt es.length (fun k => a = (pre es k).1 ∧ b = (pre es k).2 ∧ gchk n (-1) (-1) es = gchk n (pre es k).1 (pre es k).2 (es.drop k)) m i, Cnt.start ⟨rfl, rfl, rfl⟩, ?_⟩
  rintro m _ _ _ ⟨k, rfl, rfl, hk, rfl, rfl, hinv⟩
  simp only [Int.toNat_natCast]
  refine ⟨fun hlt => ⟨by omega, ?_⟩, fun hge => ?_⟩
  · have hlt : k < es.length := by omega
    rw [ge_drop hlt, gchk_cons] at hinv
    generalize hx : ge es k = x at hinv ⊢
    have hed : R (if edgeF n (pre es k).1 (pre es k).2 x = 0 then gchk n x.1 x.2.1 (es.drop (k + 1)) else edgeF n (pre es k).1 (pre es k).2 x) := by rw [← hinv]; exact h
    have h2 : ¬ ((0 ≤ x.1 ∧ x.1 < n) ∧ (0 ≤ x.2.1 ∧ x.2.1 < n) ∧ 1 ≤ x.2.2 ∧ x.2.2 ≤ 50) → R 2 := fun q => by
      unfold edgeF at hed; rw [if_neg q, if_neg (by omega)] at hed; exact hed
    refine ⟨(0 ≤ x.1 ∧ x.1 < n) ∧ (0 ≤ x.2.1 ∧ x.2.1 < n) ∧ 1 ≤ x.2.2 ∧ x.2.2 ≤ 50, fun hJ => ?_, p_graph_vertex ⟨fun q1 => p_graph_vertex ⟨fun q2 => ⟨fun q3 => h2 (by omega), fun q3 => ⟨fun q4 => h2 (by omega), fun q4 => ?_⟩⟩, fun q2 => h2 (by simp at q2; omega)⟩, fun q1 => h2 (by simp at q1; omega)⟩⟩
    · have he : edgeF n (pre es k).1 (pre es k).2 x = if x.1 ≤ x.2.1 ∧ pcmpF (pre es k).1 (pre es k).2 x.1 x.2.1 < 0 then 0 else 9 := by unfold edgeF; rw [if_pos hJ]
      rw [he] at hed hinv
      refine ⟨fun q => ?_, fun q => p_pair_compare ⟨fun q2 => ?_, fun q2 => Cnt.next hlt (by omega) ⟨?_, ?_, ?_⟩⟩⟩
      · rw [if_neg (show ¬ (x.1 ≤ x.2.1 ∧ _) by omega), if_neg (by omega)] at hed; exact hed
      · rw [if_neg (show ¬ (x.1 ≤ x.2.1 ∧ _) by omega), if_neg (by omega)] at hed; exact hed
      · simp [pre, hx]
      · simp [pre, hx]
      · have hc : x.1 ≤ x.2.1 ∧ pcmpF (pre es k).1 (pre es k).2 x.1 x.2.1 < 0 := ⟨by omega, by omega⟩
        rw [if_pos hc, if_pos rfl] at hinv
        rw [hinv]
        simp [pre, hx]
    · simp only [decide_eq_true_eq] at q1 q2
      exact ⟨q1, q2, by omega, by omega⟩
  · have hk2 : k = es.length := by omega
    rw [hinv, hk2, List.drop_length] at h
    exact h
/-- The error of a graph with a divisor. -/
def fgivenF (n : Int) (es : List E3) (d : List Int) : Int := if gcheckF n es = 0 then checkF d n else gcheckF n es
/-! ### What edges move -/
/-- What an edge takes from a vertex by a script. -/
def e1 (x : E3) (s : Nat → Int) (v : Nat) : Int := (if (v : Int) = x.1 then x.2.2 * (s x.1.toNat - s x.2.1.toNat) else 0) - (if (v : Int) = x.2.1 then x.2.2 * (s x.1.toNat - s x.2.1.toNat) else 0)
section
variable {n : Nat} {es : List E3} {d s : List Int}
end
end Go.Proofs.Ytmeoemmemjipdaa

/- Words for the laws of layer 34. -/
namespace Go.Proofs.Ytmeoemmemjipdaa
open Go
set_option linter.unusedVariables false
set_option linter.unusedSimpArgs false

/-- A small connected graph with a divisor that has few chips. -/
structure Right (n : Int) (es : List E3) (d : List Int) : Prop where
  few : smallF n es 6 9 = true
  joined : joinedE n es = 0
  chips : checkF d n = 0
  low : lowF n d = true
theorem Right.graph {n : Int} {es : List E3} {d : List Int} (h : Right n es d) : gcheckF n es = 0 ∧ connF n es = true ∧ es.length ≤ 40 ∧ 1 ≤ n ∧ n ≤ 6 := by
  have hj := h.joined
  have hs := h.few
  unfold joinedE at hj
  unfold smallF at hs
  rw [decide_eq_true_eq] at hs
  by_cases h1 : gcheckF n es = 0
  · rw [if_pos h1] at hj
    have hn := (hs.2 h1).1
    have h0 : 1 ≤ n := by
      unfold gcheckF at h1
      split at h1
      · omega
      · omega
    by_cases h2 : connF n es = true
    · exact ⟨h1, h2, hs.1, h0, hn⟩
    · rw [if_neg h2] at hj; omega
  · rw [if_neg h1] at hj; exact absurd hj h1
end Go.Proofs.Ytmeoemmemjipdaa

/- What the pure forms of 'effective' and of its reference come to. -/
namespace Go.Proofs.Ytmeoemmemjipdaa
open Go
set_option linter.unusedVariables false
set_option linter.unusedSimpArgs false

/-! ### The reference: borrowing -/
theorem p_r36_debtor {d : List Int} {R : Int → Prop} (hl : d.length ≤ 1000000000) (h1 : (∀ v, v < d.length → 0 ≤ gi d v) → R (-1)) (h2 : ∀ v : Nat, v < d.length → gi d v < 0 → R v) : pf_r36_debtor d R := by
  unfold pf_r36_debtor
  refine ⟨Cnt d.length (fun k => ∀ j, j < k → 0 ≤ gi d j), Cnt.start (fun j hj => absurd hj (by omega)), ?_⟩
  rintro m _ ⟨k, rfl, rfl, hk, hinv⟩
  simp only [Int.toNat_natCast]
  refine ⟨fun hlt => ⟨by omega, fun h => h2 k (by omega) h, fun h => Cnt.next (by omega) (by omega) fun j hj => ?_⟩, fun hge => h1 fun v hv => hinv v (by omega)⟩
  by_cases e : j = k
  · subst e; omega
  · exact hinv j (by omega)
theorem p_r36_all {l : List Bool} {R : Bool → Prop} (hl : l.length ≤ 1000000000) (h1 : (∀ v, v < l.length → gb l v = true) → R true) (h2 : ∀ v, v < l.length → gb l v ≠ true → R false) : pf_r36_all l R := by
  unfold pf_r36_all
  refine ⟨Cnt l.length (fun k => ∀ j, j < k → gb l j = true), Cnt.start (fun j hj => absurd hj (by omega)), ?_⟩
  rintro m _ ⟨k, rfl, rfl, hk, hinv⟩
  simp only [Int.toNat_natCast]
  refine ⟨fun hlt => ⟨by omega, fun h => Cnt.next (by omega) (by omega) fun j hj => ?_, fun h => h2 k (by omega) h⟩, fun hge => h1 fun v hv => hinv v (by omega)⟩
  by_cases e : j = k
  · subst e; exact h
  · exact hinv j (by omega)
theorem win_dg {n : Nat} {es : List E3} {d : List Int} (hd : d.length = n) (h : Win n es d) : 0 ≤ dg d := by
  obtain ⟨s, hs⟩ := h
  have h1 : 0 ≤ sm n (fun v => gi d v - Lp n es s v) := sm_nonneg hs
  rw [sm_sub, Lp_total] at h1
  unfold dg
  rw [hd]; omega
theorem conn_all {n : Nat} {es : List E3} (hg : gcheckF n es = 0) (hc : connF n es = true) : ∀ q, q < n → Conn n es q := fun q hq => by
  obtain ⟨hE, hn1, hn12⟩ := gcheck_ok hg
  exact (conn_iff hE hn1 hn12 hq).1 hc
theorem p_r36_Wins {n : Nat} {es : List E3} {d : List Int} {R : Bool → Prop} (hl : es.length ≤ 1000) (hg : gcheckF n es = 0) (hc : connF n es = true) (hd : d.length = n) (hb : ∀ v, v < n → -1000 ≤ gi d v ∧ gi d v ≤ 1000)
    (h1 : Win n es d → R true) (h2 : ¬ Win n es d → R false) : pf_r36_Wins (n : Int) es d R := by
  obtain ⟨hE, hn1, hn12⟩ := gcheck_ok hg
  have hC := conn_all hg hc
  unfold pf_r36_Wins
  refine p_r17_Total (by omega) (fun i hi => by have := hb i (by omega); omega) ⟨fun h0 => h2 fun hw => ?_, fun h0 => ⟨by omega, by omega, ?_⟩⟩
  · have := win_dg hd hw; omega
  simp only [Int.toNat_natCast, List.nil_append]
  refine ⟨fun m step x b => ∃ c : Nat → Int, Bor n es d c x b ∧ step = sm n c ∧ m = (4000000 - step).toNat ∧ step ≤ 3500000 ∧ ∀ v, v < n → -2000000000 ≤ gi x v, ⟨_, fun _ => 0, bor_start hd (fun v hv => (hb v hv).2), (sm_zero n).symm, rfl, by omega, fun v hv => by have := hb v hv; omega⟩, ?_⟩
  rintro m _ x b ⟨c, hB, rfl, rfl, hst, hlo⟩
  refine ⟨fun _ => ?_, fun h => absurd (show sm n c < 10000000 by omega) h⟩
  refine p_r36_debtor (by have := hB.xl; omega) (fun hall => ⟨fun _ => h1 (bor_win hB fun v hv => hall v (by have := hB.xl; omega)), fun h => absurd (by omega) h⟩) (fun v hv hneg => ⟨fun h => absurd h (by omega), fun _ => ?_⟩)
  have hvn : v < n := by have := hB.xl; omega
  refine p_r36_all (by have := hB.bl; omega) (fun hall => ⟨fun _ => h2 (bor_loss hn1 hB fun v hv => hall v (by have := hB.bl; omega)), fun h => absurd rfl h⟩) (fun w hw hwn => ⟨fun h => (by cases h), fun _ => ?_⟩)
  have hwn' : w < n := by have := hB.bl; omega
  have hfew := bor_few hE hC hn12 (fun v hv => (hb v hv).1) hB hwn' hwn
  have htot := bor_total hn12 hfew
  have h0c : 0 ≤ sm n c := sm_nonneg hB.c0
  refine ⟨by have := hB.bl; omega, fun m u y => Cnt n (fun k => y.length = n ∧ ∀ i, i < n → gi y i = if i = v then gi x v + sm k (fun u => W es v u) else if i < k then gi x i - W es i v else gi x i) m u, Cnt.start ⟨hB.xl, fun i hi => ?_⟩, ?_⟩
  · by_cases e : i = v
    · subst e; rw [if_pos rfl]; simp [sm]
    · rw [if_neg e, if_neg (by omega)]
  rintro m' _ y ⟨k, rfl, rfl, hk, hyl, hy⟩
  simp only [Int.toNat_natCast]
  have hup := hB.up
  have hdk := deg_bound hg k v
  refine ⟨fun hlt => ⟨fun e => Cnt.next (by omega) (by omega) ⟨hyl, fun i hi => ?_⟩, fun e => ⟨by omega, ?_⟩⟩, fun hge => ?_⟩
  · have e : k = v := by omega
    subst e
    rw [hy i hi]
    by_cases e2 : i = k
    · subst e2; rw [if_pos rfl, if_pos rfl, sm, W_self]; omega
    · rw [if_neg e2, if_neg e2]
      by_cases e3 : i < k
      · rw [if_pos e3, if_pos (by omega)]
      · rw [if_neg e3, if_neg (by omega)]
  · have hkn : k < n := by omega
    have hkv : k ≠ v := by omega
    have hW := W_le50 hg k v
    have hyk : gi y k = gi x k := by rw [hy k hkn, if_neg hkv, if_neg (by omega)]
    have hyv : gi y v = gi x v + sm k (fun u => W es v u) := by rw [hy v hvn, if_pos rfl]
    have hxk := hup k hkn
    have hlk := hlo k hkn
    have hxv := hlo v hvn
    refine p_r08_Between (by omega) hg hkv ⟨i64 (by rw [hyk]; omega), by rw [List.length_set]; omega, p_r08_Between (by omega) hg hkv ⟨i64 ?_, Cnt.next (by omega) (by omega) ⟨by simp [hyl], fun i hi => ?_⟩⟩⟩
    · rw [gi_set (by omega), if_neg (fun e => hkv e.symm), hyv]; omega
    · rw [gi_set (by rw [List.length_set]; omega)]
      by_cases e2 : i = v
      · subst e2
        rw [if_pos rfl, if_pos rfl, gi_set (by omega), if_neg (fun e => hkv e.symm), hyv, sm, W_symm es i k]; omega
      · rw [if_neg e2, if_neg e2, gi_set (by omega)]
        by_cases e3 : i = k
        · subst e3; rw [if_pos rfl, if_pos (by omega), hyk]
        · rw [if_neg e3, hy i hi, if_neg e2]
          by_cases e4 : i < k
          · rw [if_pos e4, if_pos (by omega)]
          · rw [if_neg e4, if_neg (by omega)]
  · have hkn : k = n := by omega
    subst hkn
    have hB2 := bor_step hg hE hn12 hB hvn hneg hyl (fun i hi => by
      rw [hy i hi]
      by_cases e : i = v
      · rw [if_pos e, if_pos e]; rfl
      · rw [if_neg e, if_neg e, if_pos hi])
    have hcnt := bor_count (c := c) hvn
    refine ⟨i64 (by omega), (4000000 - (sm k c + 1)).toNat, by omega, _, hB2, hcnt.symm, rfl, by omega, fun i hi => ?_⟩
    have h3 := hB2.val i hi
    have h4 := hb i hi
    have h5 := sm_bound (f := fun u => W es i u * ((c i + if i = v then 1 else 0) - (c u + if u = v then 1 else 0))) (B := 20000000) (by omega) (n := k) fun u hu => by
      have hw := W_le50 hg i u
      have a1 := hB.c0 i hi
      have a2 := hB.c0 u hu
      have a3 := hfew i hi
      have a4 := hfew u hu
      have hx : -300000 ≤ (c i + if i = v then 1 else 0) - (c u + if u = v then 1 else 0) ∧ (c i + if i = v then 1 else 0) - (c u + if u = v then 1 else 0) ≤ 300000 := by
        split <;> split <;> omega
      show -20000000 ≤ W es i u * _ ∧ W es i u * _ ≤ 20000000
      generalize (c i + if i = v then 1 else 0) - (c u + if u = v then 1 else 0) = z at hx ⊢
      generalize W es i u = w at hw ⊢
      have h4 : w * z ≤ w * 300000 := Int.mul_le_mul_of_nonneg_left hx.2 hw.1
      have h5 : w * -300000 ≤ w * z := Int.mul_le_mul_of_nonneg_left hx.1 hw.1
      omega
    have h6 : Lp k es (fun j => c j + if j = v then 1 else 0) i = sm k (fun u => W es i u * ((c i + if i = v then 1 else 0) - (c u + if u = v then 1 else 0))) := rfl
    rw [h3, h6]
    omega
/-! ### Prices -/
/-- Chips more at a vertex. -/
def addAt (d : List Int) (v : Nat) (k : Int) : List Int := d.set v (gi d v + k)
theorem addAt_length (d : List Int) (v : Nat) (k : Int) : (addAt d v k).length = d.length := by simp [addAt]
theorem gi_addAt {d : List Int} {v : Nat} (hv : v < d.length) (k : Int) (i : Nat) : gi (addAt d v k) i = if i = v then gi d v + k else gi d i := by unfold addAt; rw [gi_set hv]
theorem dg_addAt {d : List Int} {v : Nat} (hv : v < d.length) (k : Int) : dg (addAt d v k) = dg d + k := by
  unfold dg
  rw [addAt_length]
  have h2 : sm d.length (gi (addAt d v k)) = sm d.length (fun i => gi d i + if i = v then k else 0) := sm_congr fun i hi => by
    rw [gi_addAt hv]
    show _ = gi d i + if i = v then k else 0
    split
    · rename_i e; rw [e]
    · omega
  rw [h2, sm_add, sm_one k hv]
/-! ### Proofs of a win, of a loss -/
theorem given0 {n : Int} {es : List E3} {d : List Int} : givenF n es 0 d = if joinedE n es = 0 then checkF d n else joinedE n es := by
  unfold givenF joinedE
  by_cases h1 : gcheckF n es = 0
  · rw [if_pos h1, if_pos h1]
    have hn : 1 ≤ n := by
      unfold gcheckF at h1
      split at h1
      · omega
      · omega
    by_cases h2 : connF n es = true
    · rw [if_pos h2, if_pos h2, if_pos rfl, if_pos (by omega)]
    · rw [if_neg h2, if_neg h2, if_neg (by omega)]
  · rw [if_neg h1, if_neg h1, if_neg h1]
theorem p_r35_Given {n : Int} {es : List E3} {d : List Int} {R : Int → Prop} (hl : es.length ≤ 1000000000) (h : R (givenF n es 0 d)) : pf_r35_Given n es d R := by
  unfold pf_r35_Given
  rw [given0] at h
  exact p_r25_Joined hl ⟨fun h0 => p_r17_Check (by rwa [if_pos h0] at h), fun h0 => by rwa [if_neg h0] at h⟩
/-- The error of a proof that a divisor is winnable. -/
def winE (n : Int) (es : List E3) (d s : List Int) : Int := if givenF n es 0 d = 0 then (if checkF s n = 0 then (if paidF (appF n.toNat es d s) = true then 0 else 16) else checkF s n) else givenF n es 0 d
/-- The error of a proof that a divisor is not winnable. -/
def LossOk (n : Int) (es : List E3) (q : Int) (d s : List Int) (e : Int) : Prop :=
  (givenF n es q d ≠ 0 ∧ e = givenF n es q d) ∨ (givenF n es q d = 0 ∧ checkF s n ≠ 0 ∧ e = checkF s n) ∨
  (givenF n es q d = 0 ∧ checkF s n = 0 ∧ (Red n.toNat es q.toNat (appF n.toNat es d s) ∧ gi (appF n.toNat es d s) q.toNat < 0) ∧ e = 0) ∨
  (givenF n es q d = 0 ∧ checkF s n = 0 ∧ ¬ (Red n.toNat es q.toNat (appF n.toNat es d s) ∧ gi (appF n.toNat es d s) q.toNat < 0) ∧ e = 16)
theorem LossOk.eq {n : Int} {es : List E3} {q : Int} {d s : List Int} {e e' : Int} (h : LossOk n es q d s e) (h' : LossOk n es q d s e') : e = e' := by
  rcases h with h | h | h | h <;> rcases h' with h' | h' | h' | h' <;> first | (exact absurd h'.2.2.1 h.2.2.1) | (exact absurd h.2.2.1 h'.2.2.1) | (rw [h.2.2.2, h'.2.2.2]; done) | (rw [h.2, h'.2]; done) | (exact absurd h'.1 h.1) | (exact absurd h.1 h'.1) | (rw [h.2.2, h'.2.2]; done) | (exact absurd h'.2.1 h.2.1) | (exact absurd h.2.1 h'.2.1)
end Go.Proofs.Ytmeoemmemjipdaa

/- What Winnable, Price and Needy come to, and their references. -/
namespace Go.Proofs.Ytmeoemmemjipdaa
open Go
set_option linter.unusedVariables false
set_option linter.unusedSimpArgs false

/-- What a graph and a divisor that are right give. -/
theorem given_all {n : Nat} {es : List E3} {q : Nat} {d : List Int} (h : givenF n es q d = 0) : EOk n es ∧ 1 ≤ n ∧ n ≤ 12 ∧ gcheckF n es = 0 ∧ connF n es = true ∧ q < n ∧ d.length = n ∧ checkF d n = 0 := by
  obtain ⟨k1, k2, k3, k4, k5⟩ := givenF_ok h
  obtain ⟨hE, hn1, hn12⟩ := gcheck_ok k1
  exact ⟨hE, hn1, hn12, k1, k2, by omega, (checkF_ok k5).1, k5⟩
theorem p_effective_Winnable {n : Int} {es : List E3} {d : List Int} {R : Bool → List Int → List Int → Int → Prop} (hS : Small n es d ∨ RedIn n es 0 d) (hdl : d.length ≤ 1000000000) (h0 : givenF n es 0 d ≠ 0 → R false [] [] (givenF n es 0 d))
    (h1 : givenF n es 0 d = 0 → ∀ r s, Reduces n.toNat es 0 d r s → ∀ b, (b = true ↔ Win n.toNat es d) → R b r s 0) : pf_effective_Winnable n es d R := by
  unfold pf_effective_Winnable
  refine ⟨hS, hdl, fun h => ⟨fun q => absurd q h, fun _ => h0 h⟩, fun h r s hr hrl hsl => ?_⟩
  obtain ⟨n, rfl⟩ : ∃ n' : Nat, n = (n' : Int) := ⟨n.toNat, by have := givenF_ok h; omega⟩
  obtain ⟨hE, hn1, hn12, hg, hc, -, hd, -⟩ := given_all (q := 0) h
  have e0 : (0 : Int).toNat = 0 := rfl
  simp only [Int.toNat_natCast, e0] at hr hrl hsl h1 ⊢
  refine ⟨fun _ => ⟨by omega, h1 h r s hr _ ?_⟩, fun q => absurd trivial q⟩
  rw [decide_eq_true_eq, win_red hE (by omega) hr.red hr.lp]
/-- The price of a divisor at a vertex. -/
structure PriceOk (n : Nat) (es : List E3) (d : List Int) (v : Nat) (k : Int) : Prop where
  pos : 0 ≤ k
  few : k = 0 ∨ k ≤ 18 - dg d
  iff : ∀ j, 0 ≤ j → (Win n es (addAt d v j) ↔ k ≤ j)
theorem PriceOk.eq {n : Nat} {es : List E3} {d : List Int} {v : Nat} {k k' : Int} (h : PriceOk n es d v k) (h' : PriceOk n es d v k') : k = k' := by
  have h1 := h.pos
  have h2 := h'.pos
  have h3 := (h'.iff k h1).1 ((h.iff k h1).2 (Int.le_refl _))
  have h4 := (h.iff k' h2).1 ((h'.iff k' h2).2 (Int.le_refl _))
  omega
theorem tot_few {n : Nat} {es : List E3} (hE : EOk n es) (hn : 1 ≤ n) (h12 : n ≤ 12) (hs : (es.map (·.2.2)).sum ≤ 9) : tot n es ≤ 18 := by
  have := tot_le hE hn h12; omega
theorem dg_lp {n : Nat} {es : List E3} {x d : List Int} {s : Nat → Int} (hx : x.length = n) (hd : d.length = n) (h : ∀ v, v < n → gi x v = gi d v - Lp n es s v) : dg x = dg d := by
  unfold dg
  rw [hx, hd, sm_congr (g := fun v => gi d v - Lp n es s v) h, sm_sub, Lp_total]; omega
/-- Numbers as integers. -/
def castL (l : List Nat) : List Int := l.map fun v : Nat => (v : Int)
/-- The vertices at which one chip more is enough. -/
def NeedyOk (n : Nat) (es : List E3) (d : List Int) (out : List Int) : Prop := ∃ f : Nat → Bool, (∀ v, v < n → (f v = true ↔ Win n es (addAt d v 1))) ∧ out = castL ((List.range n).filter f)
theorem NeedyOk.eq {n : Nat} {es : List E3} {d o o' : List Int} (h : NeedyOk n es d o) (h' : NeedyOk n es d o') : o = o' := by
  obtain ⟨f, hf, rfl⟩ := h
  obtain ⟨f', hf', rfl⟩ := h'
  congr 1
  refine List.filter_congr fun v hv => ?_
  rw [List.mem_range] at hv
  rw [Bool.eq_iff_iff, hf v hv, hf' v hv]
/-! ### The reference -/
end Go.Proofs.Ytmeoemmemjipdaa

/- What firing a set comes to. -/
namespace Go.Proofs.Ytmeoemmemjipdaa
open Go
set_option linter.unusedVariables false
set_option linter.unusedSimpArgs false

section
variable {n : Nat} {es : List E3} {d : List Int} {set : List Int}
end
/-! ### Sets as lists -/
end Go.Proofs.Ytmeoemmemjipdaa

/- Words for the laws of layer 36: what its small functions come to; the chapter's examples come out right. -/
namespace Go.Proofs.Ytmeoemmemjipdaa
open Go
set_option linter.unusedVariables false
set_option linter.unusedSimpArgs false

/-- Reduced, by trying all sets. -/
theorem red_of_dec {n : Nat} {es : List E3} {q : Nat} {d : List Int} (hq : q < n) (h1 : ∀ v, v < n → v ≠ q → 0 ≤ gi d v) (h2 : ∀ m, m < 2 ^ n → 1 ≤ m → m.testBit q = false → ¬ (∀ v, v < n → m.testBit v = true → outS n es m.testBit v ≤ gi d v)) : Red n es q d :=
  (tight_red hq h1).1 fun m a b c => h2 m b a c
def path3 : List E3 := [(0, 1, 1), (1, 2, 1)]
end Go.Proofs.Ytmeoemmemjipdaa

/- What the pure forms of sums, of equivalence and of lists of divisors come to. -/
namespace Go.Proofs.Ytmeoemmemjipdaa
open Go
set_option linter.unusedVariables false
set_option linter.unusedSimpArgs false

theorem p_chips_own {n : Nat} {l : List (List Int)} {R : Int → Prop} (hl : l.length ≤ 1000) (h0 : 0 < l.length) (hd : ∀ k, k < l.length → (gx l k).length = n ∧ checkF (gx l k) n = 0) (h : R 0) : pf_chips_own l R := by
  unfold pf_chips_own
  refine ⟨Cnt l.length (fun _ => True), Cnt.start trivial, ?_⟩
  rintro m _ ⟨k, rfl, rfl, hk, -⟩
  simp only [Int.toNat_natCast]
  refine ⟨fun hlt => ⟨by omega, p_chips_Check ⟨fun _ => Cnt.next (by omega) (by omega) trivial, fun q => absurd ?_ q⟩⟩, fun hge => ?_⟩
  · rw [(hd k (by omega)).1]; exact (hd k (by omega)).2
  · refine ⟨Cnt l.length (fun _ => True), Cnt.start trivial, ?_⟩
    rintro m _ ⟨k2, rfl, rfl, hk2, -⟩
    simp only [Int.toNat_natCast, Int.toNat_zero]
    exact ⟨fun hlt => ⟨by omega, by omega, fun _ => Cnt.next (by omega) (by omega) trivial, fun q => absurd (by rw [(hd k2 (by omega)).1, (hd 0 h0).1]) q⟩, fun hge => h⟩
/-! ### Equivalence -/
/-! ### Lists of divisors -/
theorem sum_dg : ∀ (d : List Int), d.sum = dg d := by
  have key : ∀ (l : List Int) (n : Nat), n ≤ l.length → sm n (gi l) = (l.take n).sum := fun l n => by
    induction n with
    | zero => intro _; simp [sm]
    | succ n ih =>
      intro h
      rw [sm, ih (by omega), List.take_add_one, List.sum_append, gi_of_lt (by omega : n < l.length), List.getElem?_eq_getElem (by omega : n < l.length)]
      simp
  intro d
  unfold dg
  rw [key d d.length (Nat.le_refl _), List.take_length]
theorem gi_drop (d : List Int) (k i : Nat) : gi (d.drop k) i = gi d (k + i) := by unfold gi; simp
theorem dg_entry {d : List Int} (h : ∀ a ∈ d, 0 ≤ a) {j : Nat} (hj : j < d.length) : 0 ≤ gi d j ∧ gi d j ≤ d.sum := by
  have h1 : ∀ i, i < d.length → 0 ≤ gi d i := fun i hi => h _ (gi_mem hi)
  refine ⟨h1 j hj, ?_⟩
  rw [sum_dg]
  exact sm_ge h1 j hj
theorem listF_length (n k : Nat) : (listF (n + 1) k).length ≤ (k + 1) ^ n := by
  induction n generalizing k with
  | zero => simp [listF]
  | succ n ih =>
    show ((List.range (k + 1)).flatMap fun i => (listF (n + 1) (k - i)).map ((i : Int) :: ·)).length ≤ _
    rw [List.length_flatMap]
    have h : ∀ (L : List Nat), (∀ i ∈ L, i ≤ k) → (L.map fun i => ((listF (n + 1) (k - i)).map ((i : Int) :: ·)).length).sum ≤ L.length * (k + 1) ^ n := fun L => by
      induction L with
      | nil => simp
      | cons a L ihL =>
        intro hL
        have h1 := ihL fun i hi => hL i (by simp [hi])
        have h2 := ih (k - a)
        have h3 : (k - a + 1) ^ n ≤ (k + 1) ^ n := Nat.pow_le_pow_left (by omega) n
        simp only [List.map_cons, List.sum_cons, List.length_cons, List.length_map] at h1 ⊢
        rw [Nat.add_mul, Nat.one_mul]
        omega
    have := h (List.range (k + 1)) fun i hi => by rw [List.mem_range] at hi; omega
    rw [List.length_range] at this
    rwa [Nat.pow_succ, Nat.mul_comm]
end Go.Proofs.Ytmeoemmemjipdaa

/- Ranks of divisors, plainly: what takes any effective divisor of a degree away. No program in sight. -/
namespace Go.Proofs.Ytmeoemmemjipdaa
open Go
set_option linter.unusedVariables false
set_option linter.unusedSectionVars false
set_option linter.unusedSimpArgs false

theorem dg_n {d : List Int} {n : Nat} (h : d.length = n) : dg d = sm n (gi d) := by unfold dg; rw [h]
theorem win_mono {n : Nat} {es : List E3} {a b : List Int} (h : ∀ v, v < n → gi a v ≤ gi b v) (ha : Win n es a) : Win n es b := by
  obtain ⟨s, hs⟩ := ha
  exact ⟨s, fun v hv => by have := hs v hv; have := h v hv; omega⟩
theorem win_eqv {n : Nat} {es : List E3} {x y : List Int} {s : Nat → Int} (h : ∀ v, v < n → gi y v = gi x v - Lp n es s v) : Win n es x ↔ Win n es y := by
  constructor
  · rintro ⟨t, ht⟩
    refine ⟨fun i => t i + (-1) * s i, fun v hv => ?_⟩
    rw [Lp_add t (fun i => (-1) * s i), Lp_mul, h v hv]
    have := ht v hv
    omega
  · rintro ⟨t, ht⟩
    refine ⟨fun i => t i + s i, fun v hv => ?_⟩
    rw [Lp_add t s]
    have := ht v hv
    rw [h v hv] at this
    omega

/-! ### Each vertex before or behind each other one -/
def half (n : Nat) (es : List E3) (r : Nat → Nat → Bool) : Int := sm n (fun v => sm n (fun u => if r u v = true then W es v u else 0))
theorem half_swap {n : Nat} {es : List E3} {r : Nat → Nat → Bool} : half n es r = half n es (fun u v => r v u) := by
  unfold half
  rw [sm_swap (fun v u => if r u v = true then W es v u else 0)]
  refine sm_congr fun v hv => sm_congr fun u hu => ?_
  show (if r v u = true then W es u v else 0) = if r v u = true then W es v u else 0
  rw [W_symm]
theorem half_le {n : Nat} {es : List E3} (hE : EOk n es) {r : Nat → Nat → Bool} (h : ∀ u v, r u v = true → r v u = true → False) : 2 * half n es r ≤ tot n es := by
  have h1 : half n es r + half n es r ≤ tot n es := by
    conv => lhs; arg 2; rw [half_swap]
    unfold half tot
    rw [← sm_add]
    refine sm_le fun v hv => ?_
    show _ + _ ≤ _
    rw [← sm_add]
    refine sm_le fun u hu => ?_
    show (if r u v = true then W es v u else 0) + (if r v u = true then W es v u else 0) ≤ W es v u
    have := W_nonneg hE v u
    by_cases e1 : r u v = true
    · rw [if_pos e1, if_neg (fun e2 => h u v e1 e2)]; omega
    · rw [if_neg e1]; split <;> omega
  omega
theorem half_ge {n : Nat} {es : List E3} (hE : EOk n es) {r : Nat → Nat → Bool} (h : ∀ u v, u ≠ v → r u v = true ∨ r v u = true) : tot n es ≤ 2 * half n es r := by
  have h1 : tot n es ≤ half n es r + half n es r := by
    conv => rhs; arg 2; rw [half_swap]
    unfold half tot
    rw [← sm_add]
    refine sm_le fun v hv => ?_
    show _ ≤ _ + _
    rw [← sm_add]
    refine sm_le fun u hu => ?_
    show W es v u ≤ (if r u v = true then W es v u else 0) + (if r v u = true then W es v u else 0)
    have := W_nonneg hE v u
    by_cases e : u = v
    · subst e; rw [W_self]; split <;> omega
    · rcases h u v e with q | q
      · rw [if_pos q]; split <;> omega
      · rw [if_pos q]; split <;> omega
  omega

/-! ### As many chips as the genus win -/
/-- The neighbours that have not borrowed, or did so earlier. -/
def ords (n : Nat) (es : List E3) (b : List Bool) (ρ : Nat → Nat) (v : Nat) : Int := sm n (fun u => if gb b u = true ∧ ¬ ρ u < ρ v then 0 else W es v u)
theorem bor_all {n : Nat} {es : List E3} {d : List Int} (hg : gcheckF n es = 0) (hE : EOk n es) (hC : ∀ q, q < n → Conn n es q) (hn : n ≤ 12) (hdb : ∀ v, v < n → -1000 ≤ gi d v) (hw : ¬ Win n es d) :
    ∀ (N : Nat) (c : Nat → Int) (x : List Int) (b : List Bool) (ρ : Nat → Nat) (K : Nat), 3456001 - sm n c ≤ N → Bor n es d c x b → (∀ u, u < n → ρ u < K) → (∀ v, v < n → gb b v = true → gi x v ≤ ords n es b ρ v - 1) →
      ∃ c x b ρ, Bor n es d c x b ∧ (∀ v, v < n → gb b v = true) ∧ ∀ v, v < n → gi x v ≤ ords n es b ρ v - 1 := by
  intro N
  induction N with
  | zero =>
    intro c x b ρ K hN hB hρ hx
    by_cases hall : ∀ v, v < n → gb b v = true
    · exact ⟨c, x, b, ρ, hB, hall, fun v hv => hx v hv (hall v hv)⟩
    · exfalso
      obtain ⟨w, hw1⟩ := Classical.not_forall.1 hall
      obtain ⟨hw2, hw3⟩ := Classical.not_imp.1 hw1
      have := bor_total hn (bor_few hE hC hn hdb hB hw2 hw3)
      omega
  | succ N ih =>
    intro c x b ρ K hN hB hρ hx
    by_cases hall : ∀ v, v < n → gb b v = true
    · exact ⟨c, x, b, ρ, hB, hall, fun v hv => hx v hv (hall v hv)⟩
    · have hdebt : ¬ ∀ v, v < n → 0 ≤ gi x v := fun q => hw (bor_win hB q)
      obtain ⟨v, hv1⟩ := Classical.not_forall.1 hdebt
      obtain ⟨hv, hv3⟩ := Classical.not_imp.1 hv1
      have hneg : gi x v < 0 := by omega
      have hy : ∀ i, i < n → gi (tab (fun i => if i = v then gi x v + deg n es v else gi x i - W es i v) n) i = if i = v then gi x v + deg n es v else gi x i - W es i v := fun i hi => gi_tab _ hi
      have hB2 := bor_step hg hE hn hB hv hneg (tab_length _ n) hy
      refine ih _ _ _ (fun u => if u = v then K else ρ u) (K + 1) (by rw [bor_count hv]; omega) hB2 (fun u hu => ?_) fun i hi hbi => ?_
      · show (if u = v then K else ρ u) < K + 1
        have := hρ u hu
        split <;> omega
      · rw [hy i hi]
        have hgb : ∀ u, gb (b.set v true) u = if u = v then true else gb b u := fun u => by
          rw [gb_set (by rw [hB.bl]; exact hv)]
        by_cases e : i = v
        · subst e
          rw [if_pos rfl]
          have h1 : ords n es (b.set i true) (fun u => if u = i then K else ρ u) i = deg n es i := by
            unfold ords deg
            refine sm_congr fun u hu => ?_
            show (if gb (b.set i true) u = true ∧ ¬ (if u = i then K else ρ u) < (if i = i then K else ρ i) then 0 else W es i u) = W es i u
            by_cases e : u = i
            · subst e; rw [W_self]; exact ite_self _
            · rw [if_neg]
              rintro ⟨_, h⟩
              rw [if_neg e, if_pos rfl] at h
              exact h (hρ u hu)
          rw [h1]; omega
        · rw [if_neg e]
          rw [hgb, if_neg e] at hbi
          have h0 := hx i hi hbi
          have h1 : ords n es b ρ i ≤ ords n es (b.set v true) (fun u => if u = v then K else ρ u) i + W es i v := by
            have h2 : ords n es (b.set v true) (fun u => if u = v then K else ρ u) i + W es i v = sm n (fun u => (if gb (b.set v true) u = true ∧ ¬ (if u = v then K else ρ u) < (if i = v then K else ρ i) then 0 else W es i u) + if u = v then W es i v else 0) := by
              rw [sm_add, sm_one _ hv]; rfl
            rw [h2]
            unfold ords
            refine sm_le fun u hu => ?_
            show (if gb b u = true ∧ ¬ ρ u < ρ i then 0 else W es i u) ≤ (if gb (b.set v true) u = true ∧ ¬ (if u = v then K else ρ u) < (if i = v then K else ρ i) then 0 else W es i u) + if u = v then W es i v else 0
            rw [hgb, if_neg e]
            have := W_nonneg hE i u
            by_cases e2 : u = v
            · subst e2
              rw [if_pos rfl, if_pos rfl, if_pos rfl]
              split <;> split <;> omega
            · rw [if_neg e2, if_neg e2, if_neg e2]; omega
          omega
/-- As many chips as the genus, without loops, win. -/
theorem win_many {n : Nat} {es : List E3} {d : List Int} (hg : gcheckF n es = 0) (hC : ∀ q, q < n → Conn n es q) (hn : n ≤ 12) (hd : d.length = n) (hdb : ∀ v, v < n → -1000 ≤ gi d v ∧ gi d v ≤ 1000) (h : plainM es + 1 - n ≤ dg d) : Win n es d := by
  apply Classical.byContradiction
  intro hw
  have hE := (gcheck_ok hg).1
  obtain ⟨c, x, b, ρ, hB, hall, hx⟩ := bor_all hg hE hC hn (fun v hv => (hdb v hv).1) hw 3456001 (fun _ => 0) d (List.replicate n false) (fun _ => 0) 1 (by rw [sm_zero]; omega) (bor_start hd fun v hv => (hdb v hv).2) (fun _ _ => by omega) (fun v hv h => by rw [gb_rep] at h; cases h)
  have h1 : dg x = dg d := dg_lp (n := n) (es := es) hB.xl hd (s := fun i => (-1) * c i) fun v hv => by rw [Lp_mul, hB.val v hv]; omega
  have h2 : dg x ≤ half n es (fun u v => decide (ρ u < ρ v)) - n := by
    rw [dg_n hB.xl]
    have h3 : half n es (fun u v => decide (ρ u < ρ v)) - n = sm n (fun v => ords n es b ρ v - 1) := by
      rw [sm_sub, sm_const]
      have : half n es (fun u v => decide (ρ u < ρ v)) = sm n (fun v => ords n es b ρ v) := by
        unfold half ords
        refine sm_congr fun v hv => sm_congr fun u hu => ?_
        show (if decide (ρ u < ρ v) = true then W es v u else 0) = if gb b u = true ∧ ¬ ρ u < ρ v then 0 else W es v u
        by_cases e : ρ u < ρ v
        · rw [if_pos (by simpa using e), if_neg (fun q => q.2 e)]
        · rw [if_neg (by simpa using e), if_pos ⟨hall u hu, e⟩]
      have e9 : sm n (ords n es b ρ) = sm n (fun v => ords n es b ρ v) := rfl
      rw [this, e9]; omega
    rw [h3]
    exact sm_le hx
  have h4 := half_le hE (r := fun u v => decide (ρ u < ρ v)) (fun u v a b => by simp at a b; omega)
  rw [tot_plain hE] at h4
  omega

/-! ### A divisor of one less degree that does not win -/
def nu (n : Nat) (es : List E3) : List Int := tab (fun v => sm n (fun u => if decide (u < v) = true then W es v u else 0) - 1) n
theorem nu_dg {n : Nat} {es : List E3} (hE : EOk n es) : dg (nu n es) = plainM es - n := by
  have h1 : dg (nu n es) = half n es (fun u v => decide (u < v)) - n := by
    rw [dg_n (show (nu n es).length = n from tab_length _ n)]
    have : sm n (gi (nu n es)) = sm n (fun v => sm n (fun u => if decide (u < v) = true then W es v u else 0) - 1) := sm_congr fun v hv => gi_tab _ hv
    rw [this, sm_sub, sm_const]
    show _ - _ = half n es (fun u v => decide (u < v)) - n
    have e9 : half n es (fun u v => decide (u < v)) = sm n (fun v => sm n (fun u => if decide (u < v) = true then W es v u else 0)) := rfl
    rw [e9]; omega
  have h2 := half_le hE (r := fun u v => decide (u < v)) (fun u v a b => by simp at a b; omega)
  have h3 := half_ge hE (r := fun u v => decide (u < v)) (fun u v h => by simp; omega)
  rw [tot_plain hE] at h2 h3
  omega
theorem least_at (p : Nat → Prop) {n : Nat} (h : ∃ v, v < n ∧ p v) : ∃ v, v < n ∧ p v ∧ ∀ u, u < v → ¬ p u := by
  obtain ⟨v, hv, hp⟩ := h
  have : ∀ v, v < n → p v → ∃ v, v < n ∧ p v ∧ ∀ u, u < v → ¬ p u := by
    intro v
    induction v using Nat.strongRecOn with
    | ind v ih =>
      intro hv hp
      by_cases q : ∃ u, u < v ∧ p u
      · obtain ⟨u, hu, hpu⟩ := q
        exact ih u hu (by omega) hpu
      · exact ⟨v, hv, hp, fun u hu hpu => q ⟨u, hu, hpu⟩⟩
  exact this v hv hp
theorem nu_lose {n : Nat} {es : List E3} (hE : EOk n es) (hn : 1 ≤ n) : ¬ Win n es (nu n es) := by
  rintro ⟨s, hs⟩
  obtain ⟨w, hw, hmax⟩ := max_at s n hn
  obtain ⟨v, hv, hp, hlow⟩ := least_at (fun v => s v = s w) (n := n) ⟨w, hw, rfl⟩
  have h1 := hs v hv
  have h2 : sm n (fun u => if decide (u < v) = true then W es v u else 0) ≤ Lp n es s v := by
    unfold Lp
    refine sm_le fun u hu => ?_
    show (if decide (u < v) = true then W es v u else 0) ≤ W es v u * (s v - s u)
    have h3 := W_nonneg hE v u
    have h4 := hmax u hu
    by_cases e : u < v
    · rw [if_pos (by simpa using e)]
      have h5 : s u ≠ s w := hlow u e
      have h6 : W es v u * 1 ≤ W es v u * (s v - s u) := Int.mul_le_mul_of_nonneg_left (by omega) h3
      omega
    · rw [if_neg (by simpa using e)]
      exact Int.mul_nonneg h3 (by omega)
  have h3 : gi (nu n es) v = sm n (fun u => if decide (u < v) = true then W es v u else 0) - 1 := gi_tab _ hv
  omega
theorem nu_bound {n : Nat} {es : List E3} (hE : EOk n es) {T : Int} (ht : tot n es ≤ T) {v : Nat} (hv : v < n) : -1 ≤ gi (nu n es) v ∧ gi (nu n es) v ≤ T := by
  have h3 : gi (nu n es) v = sm n (fun u => if decide (u < v) = true then W es v u else 0) - 1 := gi_tab _ hv
  have h4 : 0 ≤ sm n (fun u => if decide (u < v) = true then W es v u else 0) := sm_nonneg fun u _ => by
    have := W_nonneg hE v u
    show 0 ≤ if decide (u < v) = true then W es v u else 0
    split <;> omega
  have h5 : sm n (fun u => if decide (u < v) = true then W es v u else 0) ≤ deg n es v := sm_le fun u _ => by
    have := W_nonneg hE v u
    show (if decide (u < v) = true then W es v u else 0) ≤ W es v u
    split <;> omega
  have h6 : deg n es v ≤ tot n es := sm_ge (f := fun v => sm n (fun u => W es v u)) (fun i _ => sm_nonneg fun u _ => W_nonneg hE i u) v hv
  omega

/-! ### Ranks -/
/-- A divisor less another one. -/
def sb (n : Nat) (d e : List Int) : List Int := tab (fun i => gi d i - gi e i) n
theorem sb_length (n : Nat) (d e : List Int) : (sb n d e).length = n := tab_length _ _
theorem gi_sb {n : Nat} {d e : List Int} {v : Nat} (hv : v < n) : gi (sb n d e) v = gi d v - gi e v := gi_tab _ hv
theorem dg_sb {n : Nat} {d e : List Int} (hd : d.length = n) (he : e.length = n) : dg (sb n d e) = dg d - dg e := by
  rw [dg_n (sb_length n d e), dg_n hd, dg_n he, ← sm_sub]
  exact sm_congr fun v hv => gi_sb hv
/-- An effective divisor of a degree. -/
structure Eff (n : Nat) (e : List Int) (r : Int) : Prop where
  len : e.length = n
  pos : ∀ v, v < n → 0 ≤ gi e v
  deg : dg e = r
theorem Eff.nonneg {n : Nat} {e : List Int} {r : Int} (h : Eff n e r) : 0 ≤ r := by
  rw [← h.deg, dg_n h.len]; exact sm_nonneg h.pos
theorem Eff.le {n : Nat} {e : List Int} {r : Int} (h : Eff n e r) {v : Nat} (hv : v < n) : gi e v ≤ r := by
  rw [← h.deg, dg_n h.len]; exact sm_ge h.pos v hv
theorem Eff.add {n : Nat} {e : List Int} {r : Int} (h : Eff n e r) {v : Nat} (hv : v < n) {k : Int} (hk : 0 ≤ gi e v + k) : Eff n (addAt e v k) (r + k) :=
  ⟨by rw [addAt_length, h.len], fun i hi => by
    rw [gi_addAt (by rw [h.len]; exact hv)]
    have := h.pos i hi
    split <;> omega, by rw [dg_addAt (by rw [h.len]; exact hv), h.deg]⟩
theorem eff_zero (n : Nat) : Eff n (List.replicate n 0) 0 :=
  ⟨by simp, fun v hv => by rw [gi_of_lt (by simpa using hv)]; simp, by
    rw [dg_n (n := n) (by simp), sm_congr (g := fun _ => 0) fun v hv => by rw [gi_of_lt (by simpa using hv)]; simp]
    exact sm_zero n⟩
theorem eff_at {n : Nat} (hn : 1 ≤ n) {k : Int} (hk : 0 ≤ k) : Eff n (addAt (List.replicate n 0) 0 k) k := by
  have h := (eff_zero n).add (v := 0) (by omega) (k := k) (by have := (eff_zero n).pos 0 (by omega); omega)
  rwa [Int.zero_add] at h
theorem gi_zero {n v : Nat} (hv : v < n) : gi (List.replicate n 0) v = 0 := by rw [gi_of_lt (by simpa using hv)]; simp
/-- Whatever effective divisor of this degree is taken away, it wins. -/
def AL (n : Nat) (es : List E3) (d : List Int) (r : Int) : Prop := ∀ e, Eff n e r → Win n es (sb n d e)
structure RkOk (n : Nat) (es : List E3) (d : List Int) (k : Int) : Prop where
  lo : -1 ≤ k
  al : AL n es d k
  no : ¬ AL n es d (k + 1)
section
variable {n : Nat} {es : List E3} {d : List Int}
theorem al_neg {r : Int} (hr : r < 0) : AL n es d r := fun e he => by have := he.nonneg; omega
theorem al_down (hn : 1 ≤ n) {r : Int} (h : AL n es d (r + 1)) : AL n es d r := fun e he => by
  have h1 := h _ (he.add (v := 0) (k := 1) (by omega) (by have := he.pos 0 (by omega); omega))
  refine win_mono (fun v hv => ?_) h1
  rw [gi_sb hv, gi_sb hv, gi_addAt (by rw [he.len]; omega)]
  split
  · rename_i e; subst e; omega
  · omega
theorem al_le (hn : 1 ≤ n) : ∀ (k : Nat) {r : Int}, AL n es d (r + k) → AL n es d r
  | 0, r, h => by simpa using h
  | k + 1, r, h => al_le hn k (al_down hn (by rw [Int.add_assoc]; exact_mod_cast h))
theorem al_of_le (hn : 1 ≤ n) {r r' : Int} (h : r ≤ r') (ha : AL n es d r') : AL n es d r := by
  refine al_le hn (r' - r).toNat ?_
  rwa [show r + ((r' - r).toNat : Int) = r' from by omega]
theorem RkOk.eq (hn : 1 ≤ n) {k k' : Int} (h : RkOk n es d k) (h' : RkOk n es d k') : k = k' := by
  rcases Int.lt_trichotomy k k' with q | q | q
  · exact absurd (al_of_le hn (by omega) h'.al) h.no
  · exact q
  · exact absurd (al_of_le hn (by omega) h.al) h'.no
theorem RkOk.ge (hn : 1 ≤ n) {k r : Int} (h : RkOk n es d k) : r ≤ k ↔ AL n es d r :=
  ⟨fun q => al_of_le hn q h.al, fun q => Int.not_lt.1 fun lt => h.no (al_of_le hn (by omega) q)⟩
theorem sb_zero {v : Nat} (hv : v < n) : gi (sb n d (List.replicate n 0)) v = gi d v := by rw [gi_sb hv, gi_zero hv]; omega
theorem al_zero : AL n es d 0 ↔ Win n es d := by
  constructor
  · intro h; exact win_mono (fun v hv => by rw [sb_zero hv]; exact Int.le_refl _) (h _ (eff_zero n))
  · intro h e he
    refine win_mono (fun v hv => ?_) h
    have h1 := he.pos v hv
    have h2 := he.le hv
    rw [gi_sb hv]; omega
theorem rk_lose (h : ¬ Win n es d) : RkOk n es d (-1) := ⟨by omega, al_neg (by omega), fun q => h (al_zero.1 q)⟩
theorem RkOk.win (hn : 1 ≤ n) {k : Int} (h : RkOk n es d k) : 0 ≤ k ↔ Win n es d := (h.ge hn).trans al_zero
theorem RkOk.top (hn : 1 ≤ n) (hd : d.length = n) {k : Int} (h : RkOk n es d k) (hw : Win n es d) : k ≤ dg d := by
  have h0 := (h.win hn).2 hw
  have h1 := win_dg (sb_length n d _) (h.al _ (eff_at hn h0))
  rw [dg_sb hd (eff_at hn h0).len, (eff_at hn h0).deg] at h1
  omega
theorem al_eqv {x y : List Int} {s : Nat → Int} (h : ∀ v, v < n → gi y v = gi x v - Lp n es s v) {r : Int} : AL n es x r ↔ AL n es y r := by
  have key : ∀ e, Win n es (sb n x e) ↔ Win n es (sb n y e) := fun e => win_eqv (s := s) fun v hv => by rw [gi_sb hv, gi_sb hv, h v hv]; omega
  exact ⟨fun q e he => (key e).1 (q e he), fun q e he => (key e).2 (q e he)⟩
theorem rk_eqv {x y : List Int} {s : Nat → Int} (h : ∀ v, v < n → gi y v = gi x v - Lp n es s v) {k : Int} : RkOk n es x k ↔ RkOk n es y k :=
  ⟨fun q => ⟨q.lo, (al_eqv h).1 q.al, fun a => q.no ((al_eqv h).2 a)⟩, fun q => ⟨q.lo, (al_eqv h).2 q.al, fun a => q.no ((al_eqv h).1 a)⟩⟩
/-- Many chips. -/
theorem rk_big (hg : gcheckF n es = 0) (hC : ∀ q, q < n → Conn n es q) (h1 : 1 ≤ n) (hn : n ≤ 12) (hd : d.length = n) (hdb : ∀ v, v < n → -200 ≤ gi d v ∧ gi d v ≤ 200) (hdg : dg d ≤ 200) (ht : tot n es ≤ 18) (h : 2 * (plainM es + 1 - n) - 2 < dg d) :
    RkOk n es d (dg d - (plainM es + 1 - n)) := by
  have hE := (gcheck_ok hg).1
  have hg0 : 0 ≤ plainM es + 1 - n := by
    apply Classical.byContradiction
    intro q
    have hl : (addAt (List.replicate n (0 : Int)) 0 (-1)).length = n := by rw [addAt_length]; simp
    have hdg1 : dg (addAt (List.replicate n (0 : Int)) 0 (-1)) = -1 := by rw [dg_addAt (by simp; omega), (eff_zero n).deg]; rfl
    have hw := win_many hg hC hn hl (fun v hv => by
      rw [gi_addAt (by simp; omega), gi_zero hv, gi_zero (by omega)]
      split <;> omega) (by rw [hdg1]; omega)
    have := win_dg hl hw
    omega
  refine ⟨by omega, fun e he => ?_, fun hal => ?_⟩
  · refine win_many hg hC hn (sb_length n d e) (fun v hv => ?_) ?_
    · rw [gi_sb hv]
      have := he.pos v hv
      have := he.le hv
      have := hdb v hv
      omega
    · rw [dg_sb hd he.len, he.deg]; omega
  · have hnl : (nu n es).length = n := tab_length _ n
    have h2 : Win n es (sb n d (nu n es)) := by
      refine win_many hg hC hn (sb_length n d _) (fun v hv => ?_) ?_
      · rw [gi_sb hv]
        have := nu_bound hE ht hv
        have := hdb v hv
        omega
      · rw [dg_sb hd hnl, nu_dg hE]; omega
    obtain ⟨s, hs⟩ := h2
    obtain ⟨e, he⟩ : ∃ e, e = tab (fun v => gi (sb n d (nu n es)) v - Lp n es s v) n := ⟨_, rfl⟩
    have hge : ∀ v, v < n → gi e v = gi (sb n d (nu n es)) v - Lp n es s v := fun v hv => by rw [he]; exact gi_tab _ hv
    have hel : e.length = n := by rw [he]; exact tab_length _ n
    have heff : Eff n e (dg d - (plainM es + 1 - n) + 1) := ⟨hel, fun v hv => by rw [hge v hv]; exact hs v hv, by
      rw [dg_lp hel (sb_length n d _) hge, dg_sb hd hnl, nu_dg hE]; omega⟩
    have h3 := hal e heff
    refine nu_lose hE h1 ((win_eqv (x := nu n es) (y := sb n d e) (s := fun i => (-1) * s i) fun v hv => ?_).2 h3)
    rw [Lp_mul, gi_sb hv, hge v hv, gi_sb hv]
    omega
/-- One more than the least rank with one chip less. -/
theorem rk_step (hn : 1 ≤ n) (hd : d.length = n) (hw : Win n es d) {k : Nat → Int} (hk : ∀ v, v < n → RkOk n es (addAt d v (-1)) (k v)) {m : Int} (h1 : ∀ v, v < n → m ≤ k v + 1) (h2 : ∃ v, v < n ∧ m = k v + 1) : RkOk n es d m := by
  obtain ⟨v, hv, hm⟩ := h2
  refine ⟨by have := (hk v hv).lo; omega, fun e he => ?_, fun q => ?_⟩
  · by_cases e0 : m = 0
    · subst e0; exact al_zero.2 hw e he
    · have hpos : ∃ u, u < n ∧ 1 ≤ gi e u := by
        apply Classical.byContradiction
        intro q
        have : dg e ≤ 0 := by
          rw [dg_n he.len, ← sm_zero n]
          exact sm_le fun u hu => Int.not_lt.1 fun lt => q ⟨u, hu, lt⟩
        have := he.nonneg
        have := he.deg
        omega
      obtain ⟨u, hu, hu1⟩ := hpos
      have h3 := al_of_le hn (r := m - 1) (by have := h1 u hu; omega) (hk u hu).al (addAt e u (-1)) (by have := he.add hu (k := -1) (by omega); exact this)
      refine win_mono (fun i hi => ?_) h3
      rw [gi_sb hi, gi_sb hi, gi_addAt (by rw [hd]; exact hu), gi_addAt (by rw [he.len]; exact hu)]
      split
      · rename_i e; subst e; omega
      · omega
  · refine (hk v hv).no fun e he => ?_
    have h3 := q (addAt e v 1) (by have := he.add hv (k := 1) (by have := he.pos v hv; omega); rwa [show k v + 1 + 1 = m + 1 from by omega] at this)
    refine win_mono (fun i hi => ?_) h3
    rw [gi_sb hi, gi_sb hi, gi_addAt (d := e) (by rw [he.len]; exact hv), gi_addAt (d := d) (by rw [hd]; exact hv)]
    split
    · rename_i e; subst e; omega
    · omega
end
end Go.Proofs.Ytmeoemmemjipdaa

/- What the finder of ranks comes to. -/
namespace Go.Proofs.Ytmeoemmemjipdaa
open Go
set_option linter.unusedVariables false
set_option linter.unusedSimpArgs false

theorem p_chips_Degree {n : Nat} {d : List Int} {R : Int → Int → Prop} (hn : 1 ≤ n ∧ n ≤ 12) (hd : d.length = n) (hb : ∀ j, j < n → -1000000 ≤ gi d j ∧ gi d j ≤ 1000000) (h : R (dg d) 0) : pf_chips_Degree d R := by
  unfold pf_chips_Degree
  refine p_chips_own (n := n) (by simp) (by simp) (fun k hk => ?_) ⟨fun _ => ?_, fun q => absurd rfl q⟩
  · have e : k = 0 := by simp at hk; omega
    subst e
    exact ⟨hd, checkF_of hd hn.1 hn.2 fun j hj => by have := hb j hj; show -1048576 ≤ gi d j ∧ gi d j ≤ 1048576; omega⟩
  refine ⟨fun m s v => Cnt d.length (fun k => s = sm k (gi d)) m v, Cnt.start rfl, ?_⟩
  rintro m _ _ ⟨k, rfl, rfl, hk, rfl⟩
  simp only [Int.toNat_natCast]
  refine ⟨fun hlt => ⟨by omega, ?_, ?_⟩, fun hge => ?_⟩
  · have h1 := sm_bound (f := gi d) (B := 1000000) (by omega) (n := k) (fun i hi => hb i (by omega))
    have h2 := hb k (by omega)
    exact i64 (by omega)
  · exact Cnt.next (by omega) (by omega) rfl
  · have e : k = d.length := by omega
    subst e; exact h

/-! ### The error of a connected graph with divisors -/
def errL (n : Int) : List (List Int) → Int
  | [] => 0
  | d :: t => if checkF d n = 0 then errL n t else checkF d n
theorem gx_succ {d : List Int} {t : List (List Int)} {k : Nat} : gx (d :: t) (k + 1) = gx t k := by simp [gx]
theorem gx_zero {d : List Int} {t : List (List Int)} : gx (d :: t) 0 = d := by simp [gx]
theorem errL_zero {n : Int} : ∀ {l : List (List Int)}, (∀ j, j < l.length → checkF (gx l j) n = 0) → errL n l = 0
  | [], _ => rfl
  | d :: t, h => by
    have h0 := h 0 (by simp)
    rw [gx_zero] at h0
    unfold errL
    rw [if_pos h0]
    exact errL_zero fun j hj => by have := h (j + 1) (by simpa using hj); rwa [gx_succ] at this
theorem errL_at {n : Int} : ∀ {l : List (List Int)} {k : Nat}, k < l.length → (∀ j, j < k → checkF (gx l j) n = 0) → checkF (gx l k) n ≠ 0 → errL n l = checkF (gx l k) n
  | [], k, hk, _, _ => by simp at hk
  | d :: t, 0, hk, h, hn => by
    rw [gx_zero] at hn ⊢
    unfold errL
    rw [if_neg hn]
  | d :: t, k + 1, hk, h, hn => by
    have h0 := h 0 (by omega)
    rw [gx_zero] at h0
    rw [gx_succ] at hn ⊢
    unfold errL
    rw [if_pos h0]
    exact errL_at (by simpa using hk) (fun j hj => by have := h (j + 1) (by omega); rwa [gx_succ] at this) hn
def givL (n : Int) (es : List E3) (l : List (List Int)) : Int := if joinedE n es = 0 then errL n l else joinedE n es
theorem givL_one {n : Int} {es : List E3} {d : List Int} : givL n es [d] = givenF n es 0 d := by
  rw [given0]
  unfold givL errL errL
  by_cases e : checkF d n = 0 <;> simp [e]
theorem p_rank_given {n : Int} {es : List E3} {l : List (List Int)} {R : Int → Prop} (hl : es.length ≤ 1000) (hll : l.length ≤ 1000) (h : R (givL n es l)) : pf_rank_given n es l R := by
  unfold pf_rank_given
  refine ⟨by omega, fun hg => ⟨fun hc => ?_, fun hc => ?_⟩, fun hg => ?_⟩
  · have hj : joinedE n es = 0 := by
      have := of_decide_eq_true hc
      unfold joinedE; rw [if_pos this.1, if_pos this.2]
    have e : givL n es l = errL n l := by unfold givL; rw [if_pos hj]
    rw [e] at h
    refine ⟨Cnt l.length (fun k => ∀ j, j < k → checkF (gx l j) n = 0), Cnt.start (fun j hj => absurd hj (by omega)), ?_⟩
    rintro m _ ⟨k, rfl, rfl, hk, hinv⟩
    simp only [Int.toNat_natCast]
    refine ⟨fun hlt => ⟨by omega, p_chips_Check ⟨fun h0 => Cnt.next (by omega) (by omega) fun j hj => ?_, fun hne => ?_⟩⟩, fun hge => ?_⟩
    · by_cases e : j = k
      · rw [e]; exact h0
      · exact hinv j (by omega)
    · rw [errL_at (by omega) hinv hne] at h; exact h
    · have e : k = l.length := by omega
      rw [errL_zero (by rw [← e]; exact hinv)] at h; exact h
  · have hj : joinedE n es = 13 := by
      unfold joinedE; rw [if_pos hg, if_neg]
      intro q; exact hc (decide_eq_true ⟨hg, q⟩)
    have e : givL n es l = 13 := by unfold givL; rw [if_neg (by omega), hj]
    rw [e] at h; exact h
  · have hj : joinedE n es = gcheckF n es := by unfold joinedE; rw [if_neg hg]
    have e : givL n es l = gcheckF n es := by unfold givL; rw [if_neg (by omega), hj]
    rw [e] at h; exact h

/-! ### The ranks that are known -/
def keyF (r : List Int) : List Int := cpy (List.replicate 12 (0 : Int)) r
theorem keyF_length (r : List Int) : (keyF r).length = 12 := by unfold keyF; rw [cpy_length]; simp
theorem gi_keyF {r : List Int} {i : Nat} (hi : i < 12) : gi (keyF r) i = if i < r.length then gi r i else 0 := by
  unfold keyF
  rw [gi_cpy (by simpa using hi), gi_zero hi]
theorem keyF_inj {n : Nat} {r r' : List Int} (hn : n ≤ 12) (h : r.length = n) (h' : r'.length = n) (e : keyF r = keyF r') : r = r' := by
  refine gi_ext (by omega) fun k hk => ?_
  have h1 := gi_keyF (r := r) (i := k) (by omega)
  have h2 := gi_keyF (r := r') (i := k) (by omega)
  rw [if_pos (by omega)] at h1 h2
  rw [← h1, ← h2, e]
structure MOk (n : Nat) (es : List E3) (m : List (List Int × Int)) : Prop where
  keys : KOk 12 m
  vals : ∀ p ∈ m, ∃ r, p.1 = keyF r ∧ Eff n r (dg r) ∧ dg r ≤ 5 ∧ RkOk n es r p.2
theorem MOk.nil (n : Nat) (es : List E3) : MOk n es [] := ⟨KOk.nil 12, fun p hp => by simp at hp⟩
theorem keyF_ok {n : Nat} {r : List Int} (hr : Eff n r (dg r)) (h5 : dg r ≤ 5) : KeyOk 12 (keyF r) := by
  refine ⟨keyF_length r, fun x hx => ?_⟩
  obtain ⟨i, hi, rfl⟩ := List.getElem_of_mem hx
  rw [keyF_length] at hi
  rw [← gi_of_lt (by rw [keyF_length]; exact hi), gi_keyF hi]
  split
  · have hi2 : i < n := by rw [← hr.len]; assumption
    have := hr.pos i hi2
    have := hr.le hi2
    exact i64 (by omega)
  · exact i64 (by omega)
theorem MOk.put {n : Nat} {es : List E3} {m : List (List Int × Int)} (h : MOk n es m) {r : List Int} {v : Int} (hr : Eff n r (dg r)) (h5 : dg r ≤ 5) (hk : RkOk n es r v) : MOk n es (mput m (keyF r) v) := by
  have hK := h.keys.put (keyF_ok hr h5) v
  refine ⟨hK, fun p hp => ?_⟩
  rcases mput_mem hp with e | e
  · obtain ⟨j, hj⟩ := List.mem_iff_getElem?.1 hp
    have h1 := mget_at hK.1 (k := p.1) (v := p.2) hj
    rw [e, mget_put, if_pos rfl] at h1
    cases h1
    exact ⟨r, e, hr, h5, hk⟩
  · exact h.vals p e
theorem MOk.get {n : Nat} {es : List E3} {m : List (List Int × Int)} (h : MOk n es m) (hn : n ≤ 12) {r : List Int} {v : Int} (hr : r.length = n) (hg : mget m (keyF r) = some v) : RkOk n es r v := by
  obtain ⟨r', h1, h2, h3, h4⟩ := h.vals _ (mget_mem hg)
  have e := keyF_inj hn hr h2.len h1
  subst e; exact h4
theorem nodup_le : ∀ {l K : List (List Int)}, l.Nodup → (∀ x ∈ l, x ∈ K) → l.length ≤ K.length
  | [], K, _, _ => Nat.zero_le _
  | a :: t, K, h, hs => by
    have h1 := List.nodup_cons.1 h
    have ha : a ∈ K := hs a (by simp)
    have h2 := nodup_le (l := t) (K := K.erase a) h1.2 fun x hx => (List.mem_erase_of_ne (by rintro rfl; exact h1.1 hx)).2 (hs x (by simp [hx]))
    rw [List.length_erase_of_mem ha] at h2
    have : 0 < K.length := List.length_pos_of_mem ha
    simp only [List.length_cons]
    omega
theorem flat_le {f : Nat → List (List Int)} {B : Nat} : ∀ {l : List Nat}, (∀ a ∈ l, (f a).length ≤ B) → (l.flatMap f).length ≤ l.length * B
  | [], _ => by simp
  | a :: t, h => by
    rw [List.flatMap_cons, List.length_append, List.length_cons, Nat.add_mul, Nat.one_mul]
    have := h a (by simp)
    have := flat_le (f := f) (l := t) fun b hb => h b (by simp [hb])
    omega
theorem eff_list {n k : Nat} {e : List Int} (h : Eff (n + 1) e (k : Int)) : e ∈ listF (n + 1) k := by
  refine (listF_mem n k e).2 ⟨h.len, fun a ha => ?_, by rw [sum_dg, h.deg]⟩
  obtain ⟨i, hi, rfl⟩ := List.getElem_of_mem ha
  rw [← gi_of_lt hi]
  exact h.pos i (by rw [← h.len]; exact hi)
theorem list_eff {n k : Nat} {e : List Int} (h : e ∈ listF (n + 1) k) : Eff (n + 1) e (k : Int) := by
  obtain ⟨h1, h2, h3⟩ := (listF_mem n k e).1 h
  exact ⟨h1, fun v hv => (dg_entry h2 (by omega)).1, by rw [← sum_dg, h3]⟩
theorem MOk.len {n : Nat} {es : List E3} {m : List (List Int × Int)} (h : MOk n es m) (h1 : 1 ≤ n) (hn : n ≤ 5) : m.length ≤ 7776 := by
  obtain ⟨n, rfl⟩ : ∃ k, n = k + 1 := ⟨n - 1, by omega⟩
  have hN : (m.map (·.1)).Nodup := by
    have := h.keys.1
    unfold List.Nodup
    rw [List.pairwise_map]
    exact this
  have h2 := nodup_le (K := (List.range 6).flatMap fun k => (listF (n + 1) k).map keyF) hN fun x hx => by
    obtain ⟨p, hp, rfl⟩ := List.mem_map.1 hx
    obtain ⟨r, e, hr, h5, -⟩ := h.vals p hp
    obtain ⟨k, hk⟩ : ∃ k : Nat, dg r = (k : Int) := ⟨(dg r).toNat, by have := hr.nonneg; omega⟩
    rw [hk] at hr
    rw [List.mem_flatMap]
    exact ⟨k, List.mem_range.2 (by omega), List.mem_map.2 ⟨r, eff_list hr, e.symm⟩⟩
  have h3 := flat_le (f := fun k => (listF (n + 1) k).map keyF) (B := 1296) (l := List.range 6) fun k hk => by
    rw [List.length_map]
    have h1 := listF_length n k
    have h2 : (k + 1) ^ n ≤ 6 ^ n := Nat.pow_le_pow_left (by have := List.mem_range.1 hk; omega) n
    have h3 : 6 ^ n ≤ 6 ^ 4 := Nat.pow_le_pow_right (by omega) (by omega)
    omega
  simp only [List.length_map, List.length_range] at h2 h3
  omega

/-! ### The finder -/
/-- A small connected graph. -/
structure GOk (n : Nat) (es : List E3) : Prop where
  g : gcheckF n es = 0
  c : connF n es = true
  el : es.length ≤ 40
  n1 : 1 ≤ n
  n5 : n ≤ 5
  su : (es.map (·.2.2)).sum ≤ 9
section
variable {n : Nat} {es : List E3}
theorem GOk.E (G : GOk n es) : EOk n es := (gcheck_ok G.g).1
theorem GOk.C (G : GOk n es) : ∀ q, q < n → Conn n es q := conn_all G.g G.c
theorem GOk.tot (G : GOk n es) : tot n es ≤ 18 := tot_few G.E G.n1 (by have := G.n5; omega) G.su
theorem GOk.giv (G : GOk n es) {d : List Int} (hd : d.length = n) (hb : ∀ v, v < n → -1000000 ≤ gi d v ∧ gi d v ≤ 1000000) : givenF n es 0 d = 0 := by
  have := G.n1
  have := G.n5
  unfold givenF; rw [if_pos G.g, if_pos G.c, if_pos ⟨by omega, by omega⟩]
  exact checkF_of hd (by omega) (by omega) fun v hv => by have := hb v hv; omega
theorem GOk.small (G : GOk n es) {d : List Int} (hb : ∀ v, v < n → -200 ≤ gi d v ∧ gi d v ≤ 200) : Small (n : Int) es d :=
  ⟨G.el, fun _ => ⟨by have := G.n5; omega, G.su⟩, fun _ v hv => hb v (by omega)⟩
theorem set_back {r : List Int} {k : Nat} (hk : k < r.length) : (r.set k (gi r k - 1)).set k (gi (r.set k (gi r k - 1)) k + 1) = r := by
  refine gi_ext (by simp) fun i hi => ?_
  rw [gi_set (by simpa using hk), gi_set hk, gi_set hk]
  split
  · rename_i e; subst e; simp
  · rfl
theorem RkOk.few (hn : 1 ≤ n) {d : List Int} (hd : d.length = n) {k : Int} (h : RkOk n es d k) : -1 ≤ k ∧ (k = -1 ∨ k ≤ dg d) := by
  refine ⟨h.lo, ?_⟩
  by_cases hw : Win n es d
  · exact .inr (h.top hn hd hw)
  · exact .inl (h.eq hn (rk_lose hw))
theorem fr_find {Rec : Int → List (Int × Int × Int) → Int → List (List Int × Int) → List Int → (Int → Int → List (List Int × Int) → Prop) → Prop} (G : GOk n es) {d : List Int} {m : List (List Int × Int)} {R : Int → Int → List (List Int × Int) → Prop}
    (hd : d.length = n) (hb : ∀ v, v < n → -200 ≤ gi d v ∧ gi d v ≤ 200) (h5 : dg d ≤ 5) (hm : MOk n es m)
    (hrec : ∀ (d' : List Int) (m' : List (List Int × Int)) (R' : Int → Int → List (List Int × Int) → Prop), d'.length = n → (∀ v, v < n → -200 ≤ gi d' v ∧ gi d' v ≤ 200) → dg d' = dg d - 1 → 0 ≤ dg d → MOk n es m' → (∀ k m'', RkOk n es d' k → MOk n es m'' → R' k 0 m'') → Rec n es (plainM es + 1 - n) m' d' R')
    (h : ∀ k m', RkOk n es d k → MOk n es m' → R k 0 m') : pfr_rank_finder_rank_v2 Rec n es (plainM es + 1 - n) m d R := by
  have hn1 := G.n1
  have hn5 := G.n5
  have hpm : 0 ≤ 2 * plainM es ∧ 2 * plainM es ≤ 18 := by
    have h1 := tot_plain G.E
    have h2 := G.tot
    have h3 : 0 ≤ tot n es := sm_nonneg fun v _ => sm_nonneg fun u _ => W_nonneg G.E v u
    omega
  have hdb : -1000 ≤ dg d ∧ dg d ≤ 5 := by
    have := sm_bound (f := gi d) (B := 200) (by omega) (n := n) (fun i hi => by have := hb i hi; omega)
    rw [dg_n hd] at h5 ⊢
    omega
  unfold pfr_rank_finder_rank_v2
  refine p_chips_Degree ⟨hn1, by omega⟩ hd (fun j hj => by have := hb j hj; omega) ⟨fun _ => ⟨fun hneg => h _ _ (rk_lose fun q => by have := win_dg hd q; omega) hm, fun hnn => ⟨i64 (by omega), i64 (by omega), fun hbig => ⟨i64 (by omega), h _ _ (rk_big G.g G.C hn1 (by omega) hd hb (by omega) G.tot (by omega)) hm⟩, fun hsm => ?_⟩⟩, fun q => absurd rfl q⟩
  refine p_effective_Winnable (.inl (G.small hb)) (by omega) (fun q => absurd (G.giv hd fun v hv => by have := hb v hv; omega) q) fun _ r s hr b hbw => ⟨fun _ => ⟨fun hbt => ?_, fun hbf => h _ _ (rk_lose fun q => hbf (hbw.2 (by simpa using q))) hm⟩, fun q => absurd rfl q⟩
  simp only [Int.toNat_natCast] at hr hbw
  have hw := hbw.1 hbt
  have hrl : r.length = n := hr.dl
  have hrq : 0 ≤ gi r 0 := (win_red G.E (by omega) hr.red hr.lp).1 hw
  have hrd : dg r = dg d := dg_lp hrl hd hr.lp
  have heff : Eff n r (dg r) := ⟨hrl, fun v hv => by
    by_cases e : v = 0
    · subst e; exact hrq
    · exact hr.pos v hv e, rfl⟩
  have hrw : Win n es r := (win_eqv hr.lp).1 hw
  have hre : ∀ v, v < n → 0 ≤ gi r v ∧ gi r v ≤ 5 := fun v hv => by have := heff.pos v hv; have := heff.le hv; omega
  have back : ∀ {k : Int}, RkOk n es r k → RkOk n es d k := fun q => (rk_eqv hr.lp).2 q
  refine ⟨by omega, hm.keys, keyF_ok heff (by omega), fun hsome => ?_, fun hnone => ⟨fun hfull => absurd hfull (by have := hm.len hn1 hn5; omega), fun _ => ?_⟩⟩
  · obtain ⟨v, hv⟩ := Option.isSome_iff_exists.1 hsome
    rw [hv]
    exact h _ _ (back (hm.get (by omega) hrl hv)) hm
  refine ⟨fun c least i m' r' => Cnt n (fun k => MOk n es m' ∧ r' = r ∧ ∃ κ : Nat → Int, (∀ u, u < k → RkOk n es (addAt r u (-1)) (κ u)) ∧ (∀ u, u < k → least ≤ κ u + 1) ∧ (least = dg d ∨ ∃ u, u < k ∧ least = κ u + 1)) c i,
    Cnt.start ⟨hm, rfl, fun _ => 0, fun u hu => absurd hu (by omega), fun u hu => absurd hu (by omega), .inl rfl⟩, ?_⟩
  rintro c least _ m' r' ⟨k, rfl, rfl, hk, hm', rfl, κ, hκ, hle, hat⟩
  simp only [Int.toNat_natCast]
  have hal : ∀ u, (addAt r' u (-1)).length = n := fun u => by rw [addAt_length, hrl]
  have hadg : ∀ u, u < n → dg (addAt r' u (-1)) = dg d - 1 := fun u hu => by rw [dg_addAt (by omega), hrd]; omega
  have hse : ∀ {x : Int}, dg d = x → 0 ≤ x := fun e => by have := heff.nonneg; omega
  refine ⟨fun hlt => ⟨by omega, i64 (by have := hre k (by omega); omega), ?_⟩, fun hge => ⟨hm'.keys, ?_⟩⟩
  · refine hrec (addAt r' k (-1)) m' _ (hal k) (fun v hv => ?_) (hadg k (by omega)) (hse rfl) hm' fun j m'' hj hm'' => ?_
    · rw [gi_addAt (by omega)]
      have := hre v hv
      have := hre k (by omega)
      split <;> omega
    · have hj2 := hj.few hn1 (hal k)
      rw [hadg k (by omega)] at hj2
      have hgk := hre k (by omega)
      refine ⟨by rw [List.length_set]; omega, ?_, fun _ => ⟨i64 (by omega), ?_⟩, fun q => absurd rfl q⟩
      · rw [gi_set (by omega), if_pos rfl]
        exact i64 (by omega)
      · refine Cnt.next (by omega) (by omega) ⟨hm'', set_back (by omega), fun u => if u = k then j else κ u, fun u hu => ?_, fun u hu => ?_, ?_⟩
        · show RkOk n es (addAt r' u (-1)) (if u = k then j else κ u)
          by_cases e : u = k
          · subst e; rw [if_pos rfl]; exact hj
          · rw [if_neg e]; exact hκ u (by omega)
        · show mnF least (j + 1) ≤ (if u = k then j else κ u) + 1
          rw [mnF_eq]
          by_cases e : u = k
          · rw [if_pos e]; omega
          · rw [if_neg e]; have := hle u (by omega); omega
        · rw [mnF_eq]
          rcases Int.le_total least (j + 1) with q | q
          · rw [Int.min_eq_left q]
            rcases hat with a | ⟨u, hu, a⟩
            · exact .inl a
            · refine .inr ⟨u, by omega, ?_⟩
              show least = (if u = k then j else κ u) + 1
              rw [if_neg (by omega)]; exact a
          · rw [Int.min_eq_right q]
            refine .inr ⟨k, by omega, ?_⟩
            show j + 1 = (if k = k then j else κ k) + 1
            rw [if_pos rfl]
  · have e : k = n := by omega
    subst e
    have hk0 := hκ 0 (by omega)
    have hst : RkOk k es r' least := rk_step hn1 hrl hrw hκ hle (by
      rcases hat with a | a
      · refine ⟨0, by omega, ?_⟩
        have h1 := hle 0 (by omega)
        have h2 := hk0.few hn1 (hal 0)
        rw [hadg 0 (by omega)] at h2
        have h3 := heff.nonneg
        omega
      · exact a)
    exact h _ _ (back hst) (hm'.put heff (by omega) hst)
theorem p_find2 (G : GOk n es) : ∀ (fu : Nat) {d : List Int} {m : List (List Int × Int)} {R : Int → Int → List (List Int × Int) → Prop}, dg d + 1 < fu → -1 ≤ dg d → d.length = n → (∀ v, v < n → -200 ≤ gi d v ∧ gi d v ≤ 200) → dg d ≤ 5 → MOk n es m →
    (∀ k m', RkOk n es d k → MOk n es m' → R k 0 m') → pf_rank_finder_rank_v2 fu n es (plainM es + 1 - n) m d R
  | 0, _, _, _, hf, h1, _, _, _, _, _ => by omega
  | fu + 1, d, m, R, hf, h1, hd, hb, h5, hm, h => by
    show pfr_rank_finder_rank_v2 (pf_rank_finder_rank_v2 fu) n es (plainM es + 1 - n) m d R
    exact fr_find G hd hb h5 hm (fun d' m' R' hd' hb' hdg h0 hm' h' => p_find2 G fu (by omega) (by omega) hd' hb' (by omega) hm' h') h
theorem p_find (G : GOk n es) {d : List Int} {m : List (List Int × Int)} {R : Int → Int → List (List Int × Int) → Prop} (hd : d.length = n) (hb : ∀ v, v < n → -200 ≤ gi d v ∧ gi d v ≤ 200) (h5 : dg d ≤ 5) (hm : MOk n es m)
    (h : ∀ k m', RkOk n es d k → MOk n es m' → R k 0 m') : ∃ fu, pf_rank_finder_rank fu n es (plainM es + 1 - n) m d R := by
  refine ⟨1, ?_⟩
  show pfr_rank_finder_rank_v2 (fun a b c e f R' => ∃ fu, pf_rank_finder_rank_v2 fu a b c e f R') n es (plainM es + 1 - n) m d R
  exact fr_find G hd hb h5 hm (fun d' m' R' hd' hb' hdg h0 hm' h' => ⟨8, p_find2 G 8 (by omega) (by omega) hd' hb' (by omega) hm' h'⟩) h
end
end Go.Proofs.Ytmeoemmemjipdaa

/- What graph.Loopless and graph.Genus come to. -/
namespace Go.Proofs.Ytmeoemmemjipdaa
open Go
set_option linter.unusedVariables false
set_option linter.unusedSimpArgs false

/-! ### Without loops -/
def plainL (es : List E3) : List E3 := es.filter fun x => decide (x.1 ≠ x.2.1)
theorem plainL_take {es : List E3} {k : Nat} (hk : k < es.length) : plainL (es.take (k + 1)) = plainL (es.take k) ++ if (ge es k).1 = (ge es k).2.1 then [] else [ge es k] := by
  have e : es.take (k + 1) = es.take k ++ [ge es k] := by rw [List.take_add_one, List.getElem?_eq_getElem hk, ge_of_lt hk]; rfl
  unfold plainL
  rw [e, List.filter_append]
  congr 1
  by_cases q : (ge es k).1 = (ge es k).2.1
  · rw [if_pos q]; simp [q]
  · rw [if_neg q]; simp [q]
theorem W_plainL : ∀ (es : List E3) (v u : Nat), W (plainL es) v u = W es v u
  | [], v, u => rfl
  | x :: es, v, u => by
    unfold plainL
    rw [List.filter_cons, W_cons]
    by_cases q : x.1 = x.2.1
    · have : w1 x v u = 0 := by unfold w1; rw [if_neg (fun h => h.1 q)]
      rw [if_neg (by simpa using q), this]
      have := W_plainL es v u
      unfold plainL at this
      rw [this]; omega
    · rw [if_pos (by simpa using q), W_cons]
      have := W_plainL es v u
      unfold plainL at this
      rw [this]
theorem pcmp_le {a b c d : Int} : pcmpF a b c d ≤ 0 ↔ a < c ∨ (a = c ∧ b ≤ d) := by
  unfold pcmpF orF cmpF
  (repeat' split) <;> omega
theorem pcmp_trans {a b c d e f : Int} (h1 : pcmpF a b c d ≤ 0) (h2 : pcmpF c d e f < 0) : pcmpF a b e f < 0 := by
  have h1 := pcmp_le.1 h1
  have h2 := (pcmp_lt _ _ _ _).1 h2
  exact (pcmp_lt _ _ _ _).2 (by omega)
theorem gchk_filter {n : Int} {p : E3 → Bool} : ∀ (es : List E3) (a b a' b' : Int), pcmpF a' b' a b ≤ 0 → gchk n a b es = 0 → gchk n a' b' (es.filter p) = 0
  | [], a, b, a', b', _, _ => rfl
  | x :: t, a, b, a', b', h, hg => by
    unfold gchk at hg
    by_cases c1 : (0 ≤ x.1 ∧ x.1 < n) ∧ (0 ≤ x.2.1 ∧ x.2.1 < n) ∧ 1 ≤ x.2.2 ∧ x.2.2 ≤ 50
    · rw [if_pos c1] at hg
      by_cases c2 : x.1 ≤ x.2.1 ∧ pcmpF a b x.1 x.2.1 < 0
      · rw [if_pos c2] at hg
        have h3 := pcmp_trans h c2.2
        rw [List.filter_cons]
        split
        · unfold gchk
          rw [if_pos c1, if_pos ⟨c2.1, h3⟩]
          exact gchk_filter t _ _ _ _ (pcmp_le.2 (by omega)) hg
        · exact gchk_filter t _ _ _ _ (by omega) hg
      · rw [if_neg c2] at hg; omega
    · rw [if_neg c1] at hg; omega
theorem gcheck_plain {n : Int} {es : List E3} (h : gcheckF n es = 0) : gcheckF n (plainL es) = 0 := by
  unfold gcheckF at h ⊢
  split
  · rename_i c
    rw [if_pos c] at h
    exact gchk_filter es _ _ _ _ (by decide) h
  · rename_i c; rw [if_neg c] at h; exact h
theorem p_graph_Loopless {n : Nat} {es : List E3} {R : Int → List E3 → Int → Prop} (hl : es.length ≤ 1000) (hg : gcheckF n es = 0) (h : R n (plainL es) 0) : pf_graph_Loopless n es R := by
  unfold pf_graph_Loopless pf_graph_limited
  refine p_graph_Check (by omega) ⟨fun _ => ?_, fun q => absurd hg q⟩
  refine ⟨fun m v out => Cnt es.length (fun k => out = plainL (es.take k) ∧ out.length ≤ k) m v, Cnt.start ⟨rfl, Nat.le_refl _⟩, ?_⟩
  rintro m _ out ⟨k, rfl, rfl, hk, hout, hol⟩
  simp only [Int.toNat_natCast]
  refine ⟨fun hlt => ⟨by omega, fun q => Cnt.next (by omega) (by omega) ⟨?_, by omega⟩, fun q => ⟨by omega, Cnt.next (by omega) (by omega) ⟨?_, by simpa using hol⟩⟩⟩, fun hge => ?_⟩
  · rw [plainL_take (by omega), if_pos q, List.append_nil]; exact hout
  · rw [plainL_take (by omega), if_neg q, hout]
    have hx := (gcheck_ok hg).1 _ (List.mem_of_getElem? (ge_some (show k < es.length by omega)))
    have e : mnF (ge es k).2.2 50 = (ge es k).2.2 := by rw [mnF_eq]; omega
    rw [e]
  · have e : k = es.length := by omega
    rw [e, List.take_length] at hout
    rw [hout]; exact h

/-! ### Single edges -/
def sF : List E3 → List E3
  | [] => []
  | x :: t => List.replicate x.2.2.toNat (x.1, x.2.1, 1) ++ sF t
theorem sF_append : ∀ (a b : List E3), sF (a ++ b) = sF a ++ sF b
  | [], b => rfl
  | x :: t, b => by rw [List.cons_append, sF, sF, sF_append t b, List.append_assoc]
theorem sF_take {es : List E3} {k : Nat} (hk : k < es.length) : sF (es.take (k + 1)) = sF (es.take k) ++ List.replicate (ge es k).2.2.toNat ((ge es k).1, (ge es k).2.1, 1) := by
  rw [List.take_add_one, List.getElem?_eq_getElem hk, ← ge_of_lt hk, sF_append]
  simp [sF]
theorem sF_pre {es : List E3} {k : Nat} (hk : k < es.length) {j : Nat} (hj : j ≤ (ge es k).2.2.toNat) : sF (es.take k) ++ List.replicate j ((ge es k).1, (ge es k).2.1, 1) <+: sF es := by
  have h1 : es = es.take (k + 1) ++ es.drop (k + 1) := (List.take_append_drop _ _).symm
  have h2 : sF es = sF (es.take k) ++ List.replicate (ge es k).2.2.toNat ((ge es k).1, (ge es k).2.1, 1) ++ sF (es.drop (k + 1)) := by
    conv => lhs; rw [h1]
    rw [sF_append, sF_take hk]
  obtain ⟨i, hi⟩ : ∃ i, (ge es k).2.2.toNat = j + i := ⟨(ge es k).2.2.toNat - j, by omega⟩
  rw [h2, hi, ← List.replicate_append_replicate]
  exact ⟨List.replicate i ((ge es k).1, (ge es k).2.1, 1) ++ sF (es.drop (k + 1)), by simp only [List.append_assoc]⟩
theorem sF_ok {n : Nat} : ∀ {es : List E3}, EOk n es → EOk n (sF es)
  | [], _ => fun x hx => by simp [sF] at hx
  | y :: t, h => fun x hx => by
    rw [sF, List.mem_append] at hx
    rcases hx with q | q
    · have := h y (by simp)
      have e := (List.mem_replicate.1 q).2
      subst e
      simp only
      omega
    · exact sF_ok (fun z hz => h z (by simp [hz])) x q
theorem W_rep (a b : Int) (l : List E3) (v u : Nat) : ∀ k : Nat, W (List.replicate k (a, b, 1) ++ l) v u = (k : Int) * w1 (a, b, 1) v u + W l v u
  | 0 => by simp
  | k + 1 => by
    rw [List.replicate_succ, List.cons_append, W_cons, W_rep a b l v u k, Int.natCast_add, Int.add_mul]
    omega
theorem W_sF {n : Nat} (v u : Nat) : ∀ {es : List E3}, EOk n es → W (sF es) v u = W es v u
  | [], _ => rfl
  | x :: t, h => by
    have hx := h x (by simp)
    rw [sF, W_rep, W_cons, W_sF v u (fun z hz => h z (by simp [hz]))]
    have : ((x.2.2.toNat : Nat) : Int) * w1 (x.1, x.2.1, 1) v u = w1 x v u := by
      unfold w1
      simp only
      split
      · omega
      · omega
    omega
theorem sF_len {n : Nat} : ∀ {es : List E3}, EOk n es → ((sF es).length : Int) = (es.map (·.2.2)).sum
  | [], _ => rfl
  | x :: t, h => by
    have hx := h x (by simp)
    have := sF_len (es := t) fun z hz => h z (by simp [hz])
    rw [sF, List.length_append, List.length_replicate, List.map_cons, List.sum_cons, ← this]
    omega
theorem plainL_sum : ∀ (es : List E3), ((plainL es).map (·.2.2)).sum = plainM es
  | [] => rfl
  | x :: t => by
    have ih := plainL_sum t
    unfold plainL plainM at *
    rw [List.filter_cons, List.map_cons, List.sum_cons]
    by_cases q : x.1 = x.2.1
    · rw [if_neg (by simpa using q), if_pos q, ih]; omega
    · rw [if_pos (by simpa using q), if_neg q, List.map_cons, List.sum_cons, ih]
theorem sF_few {n : Nat} : ∀ {es : List E3}, EOk n es → (sF es).length ≤ 50 * es.length
  | [], _ => Nat.le_refl _
  | x :: t, h => by
    have hx := h x (by simp)
    have := sF_few (es := t) fun z hz => h z (by simp [hz])
    rw [sF, List.length_append, List.length_replicate, List.length_cons]
    omega
def gmap (y : Int × Int × Int) : E3 := (y.2.1, y.2.2, 1)
theorem p_graph_singles_1 {n : Nat} {es : List E3} (hE : EOk n es) (hl : es.length ≤ 1000) : pf_graph_singles_1 (n : Int) es (fun l => l.map gmap <+: sF es) (fun l => l.map gmap = sF es) := by
  unfold pf_graph_singles_1
  refine ⟨fun m pre e2 v => Cnt es.length (fun k => pre.map gmap = sF (es.take k) ∧ 0 ≤ e2 ∧ e2 ≤ 50 * k) m v, Cnt.start ⟨rfl, by omega, by omega⟩, ?_⟩
  rintro m pre e2 _ ⟨k, rfl, rfl, hk, hpre, he0, he1⟩
  simp only [Int.toNat_natCast]
  refine ⟨fun hlt => ⟨by omega, ?_⟩, fun hge => ?_⟩
  · have hkl : k < es.length := by omega
    have hx := hE _ (List.mem_of_getElem? (ge_some hkl))
    refine ⟨fun m pre e3 v => Cnt (ge es k).2.2.toNat (fun j => pre.map gmap = sF (es.take k) ++ List.replicate j ((ge es k).1, (ge es k).2.1, 1) ∧ 0 ≤ e3 ∧ e3 ≤ 50 * k + j) m v, Cnt.start ⟨by simpa using hpre, he0, by omega⟩, ?_⟩
    rintro m3 pre3 e3 _ ⟨j, rfl, rfl, hj, hp3, h30, h31⟩
    have hstep : ∀ e : Int, (pre3 ++ [(e, (ge es k).1, (ge es k).2.1)]).map gmap = sF (es.take k) ++ List.replicate (j + 1) ((ge es k).1, (ge es k).2.1, 1) := fun e => by
      rw [List.map_append, hp3, List.replicate_succ', List.append_assoc]; rfl
    refine ⟨fun h1 => ⟨?_, ⟨i64 (by omega), Cnt.next (by omega) (by omega) ⟨hstep e3, by omega, by omega⟩⟩, trivial⟩, fun h1 => Cnt.next (by omega) (by omega) ⟨?_, by omega, by omega⟩⟩
    · show (pre3 ++ [(e3, (ge es k).1, (ge es k).2.1)]).map gmap <+: sF es
      rw [hstep]; exact sF_pre hkl (by omega)
    · have e : j = (ge es k).2.2.toNat := by omega
      rw [sF_take hkl, hp3, e]
  · have e : k = es.length := by omega
    rw [e, List.take_length] at hpre
    exact hpre

/-! ### Counting parts -/
def castF (F : List Nat) : List Int := F.map fun v : Nat => (v : Int)
theorem gi_castF {F : List Nat} {v : Nat} (hv : v < F.length) : gi (castF F) v = (gn F v : Int) := by
  unfold castF
  rw [gi_of_lt (by simpa using hv), gn_of_lt hv]; simp
theorem p_forest_root {F : List Nat} (hF : Forest F) {v : Nat} (hv : v < 12) {R : Int → Prop} (h : R (root F v)) : pf_graph_forest_root (castF F) (v : Int) R := by
  unfold pf_graph_forest_root
  refine ⟨fun m x => ∃ u : Nat, x = u ∧ m = u ∧ u < 12 ∧ root F u = root F v, ⟨v, v, rfl, rfl, hv, rfl⟩, ?_⟩
  rintro m _ ⟨u, rfl, hm, hu, hr⟩
  have hg : gi (castF F) u = (gn F u : Int) := gi_castF (by rw [hF.1]; exact hu)
  have hle := hF.2 u hu
  simp only [Int.toNat_natCast, hg]
  refine ⟨by omega, fun e => ?_, fun e => ⟨gn F u, by omega, gn F u, rfl, rfl, by omega, ?_⟩⟩
  · rw [root_self (F := F) (v := u) (by omega)] at hr
    rw [hr]; exact h
  · rw [← root_step hF hu (by omega)]; exact hr
theorem nroots_join {F : List Nat} (hF : Forest F) {a b : Nat} (ha : a < 12) (hb : b < 12) (hne : root F a ≠ root F b) : ∀ k, k ≤ 12 → nroots (joinN F a b) k + (if max (root F a) (root F b) < k then 1 else 0) = nroots F k
  | 0, _ => by simp [nroots]
  | k + 1, hk => by
    have ih := nroots_join hF ha hb hne k (by omega)
    have hj := root_joinN hF ha hb k (by omega)
    have ra := root_root hF ha
    have rb := root_root hF hb
    rw [nroots, nroots]
    have hM : root F (max (root F a) (root F b)) = max (root F a) (root F b) := by
      rcases Nat.le_total (root F a) (root F b) with q | q
      · rw [Nat.max_eq_right q]; exact rb
      · rw [Nat.max_eq_left q]; exact ra
    have hm : root F (min (root F a) (root F b)) = min (root F a) (root F b) := by
      rcases Nat.le_total (root F a) (root F b) with q | q
      · rw [Nat.min_eq_left q]; exact ra
      · rw [Nat.min_eq_right q]; exact rb
    by_cases e1 : k = max (root F a) (root F b)
    · have h1 : root F k = k := by rw [e1]; exact hM
      rw [if_pos (h1.trans e1)] at hj
      rw [if_neg (by omega : ¬ root (joinN F a b) k = k), if_pos h1, if_pos (by omega)]
      rw [if_neg (by omega)] at ih
      omega
    · have h2 : root (joinN F a b) k = k ↔ root F k = k := by
        rw [hj]
        split
        · rename_i e2
          constructor
          · intro e3; rw [← e3] at e2; rw [hm] at e2; omega
          · intro e3; omega
        · exact Iff.rfl
      by_cases e3 : root F k = k
      · rw [if_pos (h2.2 e3), if_pos e3]
        by_cases e4 : max (root F a) (root F b) < k
        · rw [if_pos e4] at ih; rw [if_pos (by omega)]; omega
        · rw [if_neg e4] at ih; rw [if_neg (by omega)]; omega
      · rw [if_neg (fun q => e3 (h2.1 q)), if_neg e3]
        by_cases e4 : max (root F a) (root F b) < k
        · rw [if_pos e4] at ih; rw [if_pos (by omega)]; omega
        · rw [if_neg e4] at ih; rw [if_neg (by omega)]; omega
theorem nroots_same {F : List Nat} (hF : Forest F) {a b : Nat} (ha : a < 12) (hb : b < 12) (he : root F a = root F b) : ∀ k, k ≤ 12 → nroots (joinN F a b) k = nroots F k
  | 0, _ => rfl
  | k + 1, hk => by
    have ih := nroots_same hF ha hb he k (by omega)
    have hj := root_joinN hF ha hb k (by omega)
    rw [nroots, nroots, ih, hj, he]
    simp only [Nat.max_self, Nat.min_self]
    congr 2
    split
    · rename_i e; rw [e]
    · rfl
theorem nroots_grown : ∀ k, k ≤ 12 → nroots grownF k = k
  | 0, _ => rfl
  | k + 1, hk => by
    rw [nroots, nroots_grown k (by omega), if_pos]
    exact root_self (by rw [gn_of_lt (by simpa [grownF] using (by omega : k < 12))]; simp [grownF])
theorem joinedF_snoc (l : List E3) (x : E3) : joinedF (l ++ [x]) = joinN (joinedF l) x.1.toNat x.2.1.toNat := by
  unfold joinedF; rw [List.foldl_append]; rfl
theorem castF_join {F : List Nat} {a b : Nat} : (castF F).set (mxF (root F a) (root F b)).toNat (mnF (root F a) (root F b)) = castF (joinN F a b) := by
  unfold castF joinN
  rw [List.map_set, mxF_eq, mnF_eq]
  congr 1
  · omega
  · omega
theorem p_graph_Genus {n : Nat} {es : List E3} {R : Int → Int → Prop} (hl : es.length ≤ 1000) (hg : gcheckF n es = 0) (hc : ∀ q, q < n → Conn n es q) (h : R ((es.map (·.2.2)).sum + 1 - n) 0) : pf_graph_Genus n es R := by
  obtain ⟨hE, hn1, hn12⟩ := gcheck_ok hg
  unfold pf_graph_Genus
  refine p_graph_Check (by omega) ⟨fun _ => ?_, fun q => absurd hg q⟩
  refine ⟨fun m v f => Cnt 12 (fun k => f.length = 12 ∧ ∀ i, i < k → gi f i = (i : Int)) m v, Cnt.start ⟨by simp, fun i hi => absurd hi (by omega)⟩, ?_⟩
  rintro m _ f ⟨k, rfl, rfl, hk, hfl, hf⟩
  simp only [Int.toNat_natCast]
  refine ⟨fun hlt => ⟨by omega, Cnt.next (by omega) (by omega) ⟨by simpa using hfl, fun i hi => ?_⟩⟩, fun hge => ?_⟩
  · rw [gi_set (by omega)]
    split
    · omega
    · exact hf i (by omega)
  have e12 : k = 12 := by omega
  subst e12
  have hf0 : f = castF grownF := gi_ext (by rw [hfl]; rfl) fun i hi => by
    rw [hf i (by omega), gi_castF (by show i < (List.range 12).length; simpa using (by omega : i < 12)), gn_of_lt (by simpa [grownF] using (by omega : i < 12))]
    simp [grownF]
  show ∃ Pr Rr : List (Int × Int × Int) → Prop, _
  refine ⟨_, _, p_graph_singles_1 hE hl, fun pre f2 genus => pre.map gmap <+: sF es ∧ f2 = castF (joinedF (pre.map gmap)) ∧ genus + n - (nroots (joinedF (pre.map gmap)) n : Int) = pre.length ∧ 0 ≤ genus ∧ genus ≤ pre.length, ⟨List.nil_prefix, hf0, ?_, by omega, by simp⟩, ?_, ?_⟩
  · show (0 : Int) + n - (nroots grownF n : Int) = 0
    rw [nroots_grown n hn12]; omega
  · rintro pre e a b f2 genus ⟨hp, rfl, hcount, h0, h1⟩ hPr
    have hPr : (pre ++ [(e, a, b)]).map gmap <+: sF es := hPr
    have hE2 := sF_ok hE
    have hmem : (a, b, 1) ∈ sF es := hPr.subset (by simp [gmap])
    have hx := hE2 _ hmem
    simp only at hx
    obtain ⟨a, rfl⟩ : ∃ k : Nat, a = (k : Int) := ⟨a.toNat, by omega⟩
    obtain ⟨b, rfl⟩ : ∃ k : Nat, b = (k : Int) := ⟨b.toNat, by omega⟩
    have hF : Forest (joinedF (pre.map gmap)) := joinedF_forest _ fun x hx => by
      have := hE2 x (hp.subset hx)
      omega
    have hplen : pre.length ≤ 50 * es.length := by
      have h2 := hp.length_le
      have h3 := sF_few hE
      rw [List.length_map] at h2
      omega
    have hsn : (pre ++ [(e, (a : Int), (b : Int))]).map gmap = pre.map gmap ++ [((a : Int), (b : Int), 1)] := by rw [List.map_append]; rfl
    have hjs : joinedF ((pre ++ [(e, (a : Int), (b : Int))]).map gmap) = joinN (joinedF (pre.map gmap)) a b := by rw [hsn, joinedF_snoc]; simp
    have ra := root_le hF a (by omega)
    have rb := root_le hF b (by omega)
    have hrl : ∀ v, v < n → root (joinedF (pre.map gmap)) v < n := fun v hv => by have := (root_le hF v (by omega)).1; omega
    have hra := hrl a (by omega)
    have hrb := hrl b (by omega)
    refine p_forest_root hF (by omega) (p_forest_root hF (by omega) ?_)
    have hmx : 0 ≤ mxF (root (joinedF (pre.map gmap)) a : Int) (root (joinedF (pre.map gmap)) b) ∧ mxF (root (joinedF (pre.map gmap)) a : Int) (root (joinedF (pre.map gmap)) b) < 12 := by rw [mxF_eq]; omega
    refine ⟨fun g2 => g2 = genus + if root (joinedF (pre.map gmap)) a = root (joinedF (pre.map gmap)) b then 1 else 0, fun g2 hg2 => ⟨hmx, hPr, by rw [hjs]; exact castF_join, ?_, ?_, ?_⟩, fun q => ⟨i64 (by omega), by rw [if_pos (by omega)]⟩, fun q => by rw [if_neg (by omega)]; omega⟩
    · rw [hjs, hg2, List.length_append, List.length_singleton]
      by_cases q : root (joinedF (pre.map gmap)) a = root (joinedF (pre.map gmap)) b
      · rw [if_pos q, nroots_same hF (by omega) (by omega) q n hn12]; omega
      · have := nroots_join hF (by omega) (by omega) q n hn12
        rw [if_pos (by omega)] at this
        rw [if_neg q]; omega
    · rw [hg2]; split <;> omega
    · rw [hg2, List.length_append, List.length_singleton]; split <;> omega
  · rintro ys f2 genus ⟨hp, rfl, hcount, h0, h1⟩ hR
    have hR : ys.map gmap = sF es := hR
    have hE2 := sF_ok hE
    have hc2 : connF n (sF es) = true := (conn_iff hE2 hn1 hn12 (q := 0) (by omega)).2 fun S h0 h1 => by
      obtain ⟨v, u, a, b, c, d, e⟩ := hc 0 (by omega) S h0 h1
      exact ⟨v, u, a, b, c, d, by rw [W_sF v u hE]; exact e⟩
    unfold connF at hc2
    rw [beq_iff_eq, Int.toNat_natCast] at hc2
    rw [hR, hc2] at hcount
    have hlen := sF_len hE
    rw [← hR, List.length_map] at hlen
    have e : genus = (es.map (·.2.2)).sum + 1 - n := by omega
    rw [e]; exact h
theorem p_rank_of {n : Nat} {es : List E3} {R0 : Int → Prop} {R1 : Int → List E3 → Int → List (List Int × Int) → Int → Prop} (G : GOk n es) (h : R1 n es (plainM es + 1 - n) [] 0) : pf_rank_of n es R0 R1 := by
  have := G.el
  unfold pf_rank_of
  refine p_graph_Loopless (by omega) G.g ⟨fun _ => ?_, fun q => absurd rfl q⟩
  refine p_graph_Genus (by have := List.length_filter_le (fun x : E3 => decide (x.1 ≠ x.2.1)) es; unfold plainL; omega) (gcheck_plain G.g) (fun q hq S h0 h1 => ?_) (by rw [plainL_sum]; exact h)
  obtain ⟨v, u, a, b, c, d, e⟩ := G.C q hq S h0 h1
  exact ⟨v, u, a, b, c, d, by rw [W_plainL]; exact e⟩
/-- The rank. -/
theorem p_rank_Rank {n : Int} {es : List E3} {d : List Int} {R : Int → Int → Prop} (hl : es.length ≤ 1000) (h0 : givenF n es 0 d ≠ 0 → R 0 (givenF n es 0 d)) (h1 : givenF n es 0 d = 0 → GOk n.toNat es ∧ (∀ v, v < n.toNat → -200 ≤ gi d v ∧ gi d v ≤ 200) ∧ dg d ≤ 5 ∧ ∀ k, RkOk n.toNat es d k → R k 0) : pf_rank_Rank n es d R := by
  unfold pf_rank_Rank
  refine p_rank_given hl (by simp) ?_
  rw [givL_one]
  refine ⟨fun hg => ?_, fun hg => h0 hg⟩
  obtain ⟨n, rfl⟩ : ∃ n' : Nat, n = (n' : Int) := ⟨n.toNat, by have := givenF_ok hg; omega⟩
  obtain ⟨G, hb, h5, hk⟩ := h1 hg
  simp only [Int.toNat_natCast] at G hb h5 hk
  have hd := (given_all (q := 0) hg).2.2.2.2.2.2.1
  exact p_rank_of G ⟨fun _ => p_find G hd hb h5 (MOk.nil n es) fun k m' hk' _ => hk k hk', fun q => absurd rfl q⟩
end Go.Proofs.Ytmeoemmemjipdaa

/- What chips.Next, rank.taken, rank.Witness and rank.AtLeast come to. -/
namespace Go.Proofs.Ytmeoemmemjipdaa
open Go
set_option linter.unusedVariables false
set_option linter.unusedSimpArgs false

theorem drop_zero {d : List Int} {k : Nat} (h : ∀ i, k ≤ i → i < d.length → gi d i = 0) : (d.drop k).sum = 0 := by
  rw [sum_dg]
  unfold dg
  rw [sm_congr (g := fun _ => 0) fun i hi => ?_]
  · exact sm_zero _
  · rw [gi_drop]
    rw [List.length_drop] at hi
    exact h _ (by omega) (by omega)
theorem drop_one {d : List Int} {k : Nat} (hk : k < d.length) (h : ∀ i, k < i → i < d.length → gi d i = 0) : (d.drop k).sum = gi d k := by
  rw [List.drop_eq_getElem_cons hk, List.sum_cons, drop_zero (k := k + 1) fun i h1 h2 => h i (by omega) h2, gi_of_lt hk]
  omega
theorem p_chips_step {d : List Int} {R : Bool → List Int → Prop} (hl : d.length ≤ 1000) (h0 : 1 ≤ d.length) (hb : ∀ j, j < d.length → -1000000 ≤ gi d j ∧ gi d j ≤ 1000000) (h1 : ∀ y, nextF d = some y → R true y) (h2 : nextF d = none → R false d) : pf_chips_step d R := by
  unfold pf_chips_step
  refine ⟨i64 (by omega), fun m j => ∃ k : Nat, j = (k : Int) ∧ m = k ∧ k < d.length ∧ ∀ i, k < i → i < d.length → gi d i = 0, ⟨d.length - 1, d.length - 1, by omega, rfl, by omega, fun i a b => by omega⟩, ?_⟩
  rintro m _ ⟨k, rfl, hm, hk, hz⟩
  simp only [Int.toNat_natCast]
  refine ⟨fun hpos => ⟨by omega, fun e => ⟨i64 (by omega), k - 1, by omega, k - 1, by omega, rfl, by omega, fun i a b => ?_⟩, fun e => ⟨fun q => by omega, fun _ => ?_⟩⟩, fun hneg => ⟨fun _ => h2 (nextF_none d fun v hv => drop_zero fun i a b => hz i (by omega) b), fun q => by omega⟩⟩
  · by_cases q : i = k
    · rw [q]; exact e
    · exact hz i (by omega) b
  · obtain ⟨v, rfl⟩ : ∃ v, k = v + 1 := ⟨k - 1, by omega⟩
    have e1 : (((v + 1 : Nat) : Int) - 1).toNat = v := by omega
    have e2 : ((d.length : Int) - 1).toNat = d.length - 1 := by omega
    have hgk := hb (v + 1) hk
    have hgv := hb v (by omega)
    have hs : gi (d.set (v + 1) 0) v = gi d v := by rw [gi_set hk, if_neg (by omega)]
    rw [e1, e2, hs]
    refine ⟨i64 (by omega), i64 (by omega), by rw [List.length_set]; omega, i64 (by omega), by rw [List.length_set, List.length_set]; omega, ?_⟩
    have hnx := nextF_some d v (by omega) (by rw [drop_one hk hz]; exact e) fun w hw hw2 => drop_zero fun i a b => hz i (by omega) b
    rw [drop_one hk hz] at hnx
    have e3 : ((d.set (v + 1) 0).set v (gi d v + 1)).set (d.length - 1) (gi d (v + 1) - 1) = d.take v ++ (gi d v + 1) :: firstF (d.length - v - 1) (gi d (v + 1) - 1) := by
      refine gi_ext (by rw [List.length_set, List.length_set, List.length_set, next_length (by omega)]) fun i hi => ?_
      rw [List.length_set, List.length_set, List.length_set] at hi
      rw [gi_next (by omega) _ _ hi, gi_set (by rw [List.length_set, List.length_set]; omega), gi_set (by rw [List.length_set]; omega), gi_set hk]
      by_cases c1 : i = d.length - 1
      · rw [if_pos c1, if_neg (by omega), if_neg (by omega), if_pos (by omega)]
      · rw [if_neg c1]
        by_cases c2 : i = v
        · rw [if_pos c2, if_neg (by omega), if_pos c2]
        · rw [if_neg c2]
          by_cases c3 : i < v
          · rw [if_neg (by omega), if_pos c3]
          · rw [if_neg c3, if_neg c2, if_neg (show ¬ i + 1 = d.length by omega)]
            split
            · rfl
            · exact hz i (by omega) hi
    rw [e3]
    exact h1 _ hnx
theorem p_chips_Next {n : Nat} {d : List Int} {R : List Int → Bool → Int → Prop} (hn : 1 ≤ n ∧ n ≤ 12) (hd : d.length = n) (hb : ∀ j, j < n → 0 ≤ gi d j ∧ gi d j ≤ 80000) (h1 : ∀ y, nextF d = some y → R y true 0) (h2 : nextF d = none → R [] false 0) : pf_chips_Next d R := by
  have hdg : dg d ≤ 1000000 := by
    have := sm_bound (f := gi d) (B := 80000) (by omega) (n := n) fun i hi => by have := hb i hi; omega
    rw [dg_n hd]; omega
  unfold pf_chips_Next
  refine p_chips_Degree hn hd (fun j hj => by have := hb j hj; omega) ⟨fun _ => p_slices_Min (by omega) (by omega) fun m ⟨k, hk, hm⟩ _ => ⟨fun q => by have := hb k (by omega); omega, fun _ => ⟨fun q => by omega, fun _ => ?_⟩⟩, fun q => absurd rfl q⟩
  refine p_slices_Clone_Divisor (by omega) (p_chips_step (by omega) (by omega) (fun j hj => by have := hb j (by omega); omega) (fun y hy => ⟨fun _ => h1 y hy, fun q => absurd rfl q⟩) fun hy => ⟨fun q => (by cases q), fun _ => h2 hy⟩)

/-! ### Effective divisors, and what is left without them -/
def takY (n : Nat) (d e : List Int) : List Int × List Int := (e, sb n d e)
theorem p_rank_taken_1 {N k : Nat} {d : List Int} (hN : N ≤ 11) (hk : k ≤ 1000) (hd : d.length = N + 1) (hb : ∀ v, v < N + 1 → -2000000 ≤ gi d v ∧ gi d v ≤ 2000000) :
    pf_rank_taken_1 d (k : Int) (fun l => l <+: (listF (N + 1) k).map (takY (N + 1) d)) (fun l => l = (listF (N + 1) k).map (takY (N + 1) d)) := by
  unfold pf_rank_taken_1
  obtain ⟨⟨B, hB⟩, hs⟩ := listF_steps N k
  have hmem : ∀ e ∈ listF (N + 1) k, Eff (N + 1) e (k : Int) := fun e he => list_eff he
  generalize listF (N + 1) k = L at hB hs hmem
  simp only [Int.toNat_natCast]
  have e1 : ((d.length : Int) - 1).toNat = N := by omega
  have hfirst : (List.replicate d.length (0 : Int)).set N (k : Int) = firstF (N + 1) k := by
    refine gi_ext (by rw [firstF_length (by omega)]; simpa using hd) fun i hi => ?_
    rw [List.length_set, List.length_replicate] at hi
    rw [gi_set (by simpa using (by omega : N < d.length)), gi_firstF]
    by_cases c : i = N
    · rw [if_pos c, if_pos (by omega)]
    · rw [if_neg c, if_neg (by omega), gi_zero hi]
  rw [e1, hfirst]
  refine ⟨by omega, i64 (by omega), by rw [List.length_replicate]; omega, fun m pre e more => ∃ j, m = L.length - j ∧ j ≤ L.length ∧ pre = (L.take j).map (takY (N + 1) d) ∧ more = decide (j < L.length) ∧ (j < L.length → L[j]? = some e), ⟨L.length, 0, by omega, by omega, rfl, ?_, fun _ => by rw [hB]; rfl⟩, ?_⟩
  · rw [hB]; simp
  rintro m pre e _ ⟨j, rfl, hj, rfl, rfl, he⟩
  refine ⟨fun hmore => ?_, fun hmore => ?_⟩
  · have hjl : j < L.length := of_decide_eq_true hmore
    have he := he hjl
    have heff := hmem e (List.mem_of_getElem? he)
    have hel := heff.len
    have heb : ∀ v, v < N + 1 → 0 ≤ gi e v ∧ gi e v ≤ 1000 := fun v hv => by have := heff.pos v hv; have := heff.le hv; omega
    refine ⟨fun m3 pre3 v left => Cnt (N + 1) (fun i => pre3 = (L.take j).map (takY (N + 1) d) ∧ left = upto (fun i => gi d i - gi e i) i (N + 1)) m3 v, ?_, ?_⟩
    · rw [hd]; exact Cnt.start ⟨rfl, (upto_zero _ _).symm⟩
    rintro m3 _ _ left ⟨i, rfl, rfl, hi, rfl, rfl⟩
    simp only [Int.toNat_natCast, List.length_replicate, hd]
    refine ⟨fun hlt => ⟨by omega, by omega, i64 (by have := hb i (by omega); have := heb i (by omega); omega), by rw [upto_length]; omega, Cnt.next (by omega) (by omega) ⟨by trivial, upto_set (fun i => gi d i - gi e i) (by omega)⟩⟩, fun hge => ?_⟩
    have hi2 : i = N + 1 := by omega
    subst hi2
    rw [upto_all]
    have hnext : (L.take j).map (takY (N + 1) d) ++ [(e, tab (fun i => gi d i - gi e i) (N + 1))] = (L.take (j + 1)).map (takY (N + 1) d) := by
      rw [List.take_add_one, he, List.map_append]; rfl
    have hsp : L = L.take j ++ e :: L.drop (j + 1) := by
      have := (List.take_append_drop j L).symm
      have h2 : L.drop j = e :: L.drop (j + 1) := by
        rw [List.drop_eq_getElem_cons hjl]
        rw [List.getElem?_eq_getElem hjl] at he
        injection he with he
        rw [he]
      rwa [h2] at this
    have hnx : nextF e = L[j + 1]? := by
      have h3 := Steps.at_ (A := L.take j) (d := e) (B := L.drop (j + 1)) (o := none) (by rw [← hsp]; exact hs)
      rw [h3, List.head?_drop]
      cases L[j + 1]? <;> rfl
    rw [hnext]
    refine ⟨(List.take_prefix _ _).map _, p_chips_Next (n := N + 1) ⟨by omega, by omega⟩ hel (fun v hv => by have := heb v hv; omega) (fun y hy => ?_) (fun hy => ?_), trivial⟩
    · rw [hnx] at hy
      have : j + 1 < L.length := (List.getElem?_eq_some_iff.1 hy).1
      exact ⟨L.length - (j + 1), by omega, j + 1, rfl, by omega, rfl, (decide_eq_true this).symm, fun _ => hy⟩
    · rw [hnx] at hy
      have : ¬ j + 1 < L.length := fun q => by rw [List.getElem?_eq_getElem q] at hy; cases hy
      exact ⟨L.length - (j + 1), by omega, j + 1, rfl, by omega, rfl, (decide_eq_false this).symm, fun q => absurd q this⟩
  · have e : j = L.length := by
      have : ¬ j < L.length := fun q => hmore (decide_eq_true q)
      omega
    rw [e, List.take_length]
/-- The first effective divisor of a degree that cannot be taken away. -/
structure FailAt (n : Nat) (es : List E3) (d : List Int) (k : Nat) (w : List Int) : Prop where
  at_ : ∃ A B, listF n k = A ++ w :: B ∧ ∀ e ∈ A, Win n es (sb n d e)
  no : ¬ Win n es (sb n d w)
theorem first_eq {α : Type} {P : α → Prop} : ∀ {A B A' B' : List α} {x x' : α}, A ++ x :: B = A' ++ x' :: B' → (∀ e ∈ A, P e) → (∀ e ∈ A', P e) → ¬ P x → ¬ P x' → x = x'
  | [], B, [], B', x, x', h, _, _, _, _ => by injection h
  | [], B, a :: A', B', x, x', h, _, h', hx, _ => by injection h with e _; exact absurd (e ▸ h' a (by simp)) hx
  | a :: A, B, [], B', x, x', h, h', _, _, hx => by injection h with e _; exact absurd (e ▸ h' a (by simp)) hx
  | a :: A, B, a' :: A', B', x, x', h, h1, h2, hx, hx' => by injection h with _ e; exact first_eq e (fun z hz => h1 z (by simp [hz])) (fun z hz => h2 z (by simp [hz])) hx hx'
theorem FailAt.eq {n k : Nat} {es : List E3} {d w w' : List Int} (h : FailAt n es d k w) (h' : FailAt n es d k w') : w = w' := by
  obtain ⟨A, B, e, hA⟩ := h.at_
  obtain ⟨A', B', e', hA'⟩ := h'.at_
  exact first_eq (P := fun x => Win n es (sb n d x)) (e.symm.trans e') hA hA' h.no h'.no
theorem FailAt.mem {n k : Nat} {es : List E3} {d w : List Int} (h : FailAt (n + 1) es d k w) : Eff (n + 1) w (k : Int) := by
  obtain ⟨A, B, e, -⟩ := h.at_
  exact list_eff (by rw [e]; simp)
/-- The first witness. -/
def WitOk (n : Nat) (es : List E3) (d w : List Int) : Prop := ∃ k, RkOk n es d k ∧ FailAt n es d (k + 1).toNat w
theorem WitOk.eq {n : Nat} (hn : 1 ≤ n) {es : List E3} {d w w' : List Int} (h : WitOk n es d w) (h' : WitOk n es d w') : w = w' := by
  obtain ⟨k, h1, h2⟩ := h
  obtain ⟨k', h1', h2'⟩ := h'
  have e := h1.eq hn h1'
  subst e
  exact h2.eq h2'
/-- What a divisor has to be for a rank. -/
structure DOk (n : Nat) (es : List E3) (d : List Int) : Prop where
  G : GOk n es
  b : ∀ v, v < n → -150 ≤ gi d v ∧ gi d v ≤ 150
  d5 : dg d ≤ 5
theorem list_few {n k : Nat} (hn : n ≤ 4) (hk : k ≤ 6) : (listF (n + 1) k).length ≤ 2401 := by
  have h1 := listF_length n k
  have h2 : (k + 1) ^ n ≤ 7 ^ n := Nat.pow_le_pow_left (by omega) n
  have h3 : 7 ^ n ≤ 7 ^ 4 := Nat.pow_le_pow_right (by omega) hn
  omega
theorem RkOk.six {n : Nat} {es : List E3} {d : List Int} (hn : 1 ≤ n) (hd : d.length = n) (h5 : dg d ≤ 5) {k : Int} (h : RkOk n es d k) : -1 ≤ k ∧ k ≤ 5 := by
  have := h.few hn hd
  omega
theorem p_rank_Witness {n : Int} {es : List E3} {d : List Int} {R : List Int → Int → Prop} (hl : es.length ≤ 1000) (h0 : givenF n es 0 d ≠ 0 → R [] (givenF n es 0 d)) (h1 : givenF n es 0 d = 0 → DOk n.toNat es d ∧ ∀ w, WitOk n.toNat es d w → R w 0) : pf_rank_Witness n es d R := by
  unfold pf_rank_Witness
  refine p_rank_Rank hl (fun hg => ⟨fun q => absurd q hg, fun _ => h0 hg⟩) fun hg => ?_
  obtain ⟨hD, hw⟩ := h1 hg
  refine ⟨hD.G, fun v hv => by have := hD.b v hv; omega, hD.d5, fun k hk => ⟨fun _ => ?_, fun q => absurd rfl q⟩⟩
  obtain ⟨n, rfl⟩ : ∃ n' : Nat, n = (n' : Int) := ⟨n.toNat, by have := givenF_ok hg; omega⟩
  simp only [Int.toNat_natCast] at hD hw hk
  have hd := (given_all (q := 0) hg).2.2.2.2.2.2.1
  have hn1 := hD.G.n1
  have hn5 := hD.G.n5
  obtain ⟨N, rfl⟩ : ∃ N, n = N + 1 := ⟨n - 1, by omega⟩
  have hk6 := hk.six hn1 hd hD.d5
  obtain ⟨r, hr⟩ : ∃ r : Nat, k + 1 = (r : Int) := ⟨(k + 1).toNat, by omega⟩
  refine ⟨i64 (by omega), ?_⟩
  rw [hr]
  have hlen := list_few (n := N) (k := r) (by omega) (by omega)
  refine ⟨_, _, p_rank_taken_1 (by omega) (by omega) hd (fun v hv => by have := hD.b v hv; omega), fun pre nn => nn = pre.length ∧ ∃ A B, listF (N + 1) r = A ++ B ∧ pre = A.map (takY (N + 1) d) ∧ ∀ e ∈ A, Win (N + 1) es (sb (N + 1) d e), ⟨rfl, [], _, rfl, rfl, fun e he => by simp at he⟩, ?_, ?_⟩
  · rintro pre y y2 nn ⟨rfl, A, B, hAB, rfl, hA⟩ hPr
    have hPr : A.map (takY (N + 1) d) ++ [(y, y2)] <+: (listF (N + 1) r).map (takY (N + 1) d) := hPr
    rw [hAB, List.map_append, List.prefix_append_right_inj] at hPr
    obtain ⟨b, B', rfl, hb⟩ : ∃ b B', B = b :: B' ∧ takY (N + 1) d b = (y, y2) := by
      cases B with
      | nil => simp at hPr
      | cons b B' =>
        refine ⟨b, B', rfl, ?_⟩
        obtain ⟨t, ht⟩ := hPr
        injection ht with e _
        exact e.symm
    injection hb with e1 e2
    subst e1
    subst e2
    have hAl : A.length + 1 ≤ 2401 := by rw [hAB, List.length_append, List.length_cons] at hlen; omega
    have heff : Eff (N + 1) b (r : Int) := list_eff (by rw [hAB]; simp)
    have hbb : ∀ v, v < N + 1 → -200 ≤ gi (sb (N + 1) d b) v ∧ gi (sb (N + 1) d b) v ≤ 200 := fun v hv => by
      rw [gi_sb hv]
      have := hD.b v hv
      have := heff.pos v hv
      have := heff.le hv
      omega
    simp only [List.length_map]
    refine ⟨i64 (by omega), fun q => by omega, fun _ => ?_⟩
    refine p_effective_Winnable (.inl (hD.G.small hbb)) (by rw [sb_length]; omega) (fun q => absurd (hD.G.giv (sb_length _ _ _) fun v hv => by have := hbb v hv; omega) q) fun _ _ _ _ bb hbw => ⟨fun _ => ⟨fun hbt => ?_, fun hbf => ?_⟩, fun q => absurd rfl q⟩
    · simp only [Int.toNat_natCast] at hbw
      refine ⟨by rw [List.length_append, List.length_map, List.length_singleton]; omega, A ++ [b], B', by rw [hAB]; simp, by rw [List.map_append]; rfl, fun e he => ?_⟩
      rcases List.mem_append.1 he with q | q
      · exact hA e q
      · rw [List.mem_singleton] at q; subst q; exact hbw.1 hbt
    · simp only [Int.toNat_natCast] at hbw
      exact hw b ⟨k, hk, ⟨A, B', by rw [hr]; exact hAB, hA⟩, fun q => hbf (hbw.2 q)⟩
  · rintro ys nn ⟨rfl, A, B, hAB, rfl, hA⟩ hR
    have hR : A.map (takY (N + 1) d) = (listF (N + 1) r).map (takY (N + 1) d) := hR
    have hB : B = [] := by
      have := congrArg List.length hR
      rw [hAB, List.length_map, List.length_map, List.length_append] at this
      exact List.length_eq_zero_iff.1 (by omega)
    subst hB
    rw [List.append_nil] at hAB
    exact absurd (fun e he => hA e (by rw [← hAB]; exact eff_list (by rw [← hr]; exact he))) hk.no
theorem p_rank_AtLeast {n r : Int} {es : List E3} {d : List Int} {R : Bool → Int → Prop} (hl : es.length ≤ 1000) (h0 : givenF n es 0 d ≠ 0 → R false (givenF n es 0 d)) (h1 : givenF n es 0 d = 0 → r < 0 → R true 0) (h2 : givenF n es 0 d = 0 → 0 ≤ r → DOk n.toNat es d ∧ ∀ k, RkOk n.toNat es d k → R (decide (r ≤ k)) 0) : pf_rank_AtLeast n es d r R := by
  unfold pf_rank_AtLeast
  refine p_rank_given hl (by simp) ?_
  rw [givL_one]
  refine ⟨givenF n es 0 d = 0 ∧ 0 ≤ r, fun ⟨hg, hr⟩ => ?_, fun hg => ⟨fun hr => ?_, fun hr => ⟨hg, by omega⟩⟩, fun hg => ?_⟩
  · obtain ⟨hD, hk⟩ := h2 hg hr
    exact p_rank_Rank hl (fun q => absurd hg q) fun _ => ⟨hD.G, fun v hv => by have := hD.b v hv; omega, hD.d5, fun k hk' => ⟨fun _ => hk k hk', fun q => absurd rfl q⟩⟩
  · rw [hg, decide_eq_true rfl]; exact h1 hg hr
  · rw [decide_eq_false hg]; exact h0 hg
end Go.Proofs.Ytmeoemmemjipdaa

/- What the reference of ranks comes to. -/
namespace Go.Proofs.Ytmeoemmemjipdaa
open Go
set_option linter.unusedVariables false
set_option linter.unusedSimpArgs false

theorem flat_mono {f : Nat → List (List Int)} {a b : Nat} (h : a ≤ b) : ((List.range a).flatMap f).length ≤ ((List.range b).flatMap f).length := by
  induction b with
  | zero => rw [show a = 0 by omega]; exact Nat.le_refl _
  | succ b ih =>
    by_cases e : a = b + 1
    · rw [e]; exact Nat.le_refl _
    · have := ih (by omega)
      rw [List.range_succ, List.flatMap_append, List.length_append]; omega
theorem p_r37_Listed : ∀ (N fu k : Nat) {R : List (List Int) → Prop}, N < fu → (k + 1) ^ N ≤ 1000000 → N ≤ 11 → k ≤ 1000 → R (listF (N + 1) k) → pf_r37_Listed fu ((N + 1 : Nat) : Int) (k : Int) R
  | N, 0, k, R, hf, _, _, _, _ => by omega
  | 0, fu + 1, k, R, _, _, _, _, h => by
    show pfr_r37_Listed (pf_r37_Listed fu) ((0 + 1 : Nat) : Int) (k : Int) R
    unfold pfr_r37_Listed
    exact ⟨fun q => by omega, fun _ => ⟨fun _ => h, fun q => by omega⟩⟩
  | N + 1, fu + 1, k, R, hf, hp, hN, hk, h => by
    show pfr_r37_Listed (pf_r37_Listed fu) ((N + 1 + 1 : Nat) : Int) (k : Int) R
    unfold pfr_r37_Listed
    refine ⟨fun q => by omega, fun _ => ⟨fun q => by omega, fun _ => ?_⟩⟩
    have hlen := listF_length (N + 1) k
    obtain ⟨f, hfd⟩ : ∃ f : Nat → List (List Int), f = fun i => (listF (N + 1) (k - i)).map ((i : Int) :: ·) := ⟨_, rfl⟩
    have hL : listF (N + 1 + 1) k = (List.range (k + 1)).flatMap f := by rw [hfd]; rfl
    rw [hL] at h hlen
    refine ⟨fun m out v => Cnt (k + 1) (fun i => out = (List.range i).flatMap f) m v, Cnt.start rfl, ?_⟩
    rintro m out _ ⟨i, rfl, rfl, hi, rfl⟩
    refine ⟨fun hle => ⟨i64 (by omega), i64 (by omega), ?_⟩, fun hgt => ?_⟩
    · have e1 : ((N + 1 + 1 : Nat) : Int) - 1 = ((N + 1 : Nat) : Int) := by omega
      have e2 : (k : Int) - (i : Int) = ((k - i : Nat) : Int) := by omega
      rw [e1, e2]
      have hpw : (k - i + 1) ^ N ≤ 1000000 := by
        have h1 : (k - i + 1) ^ N ≤ (k + 1) ^ N := Nat.pow_le_pow_left (by omega) N
        have h2 : (k + 1) ^ N ≤ (k + 1) ^ (N + 1) := Nat.pow_le_pow_right (by omega) (by omega)
        omega
      refine p_r37_Listed N fu (k - i) (by omega) hpw (by omega) (by omega) ?_
      have hsucc : (List.range (i + 1)).flatMap f = (List.range i).flatMap f ++ (listF (N + 1) (k - i)).map ((i : Int) :: ·) := by
        rw [List.range_succ, List.flatMap_append]
        simp [hfd]
      have htot : ((List.range (i + 1)).flatMap f).length ≤ 1000000 := by
        have := flat_mono (f := f) (a := i + 1) (b := k + 1) (by omega)
        omega
      rw [hsucc, List.length_append, List.length_map] at htot
      have hml : ∀ e ∈ listF (N + 1) (k - i), e.length = N + 1 := fun e he => ((listF_mem N (k - i) e).1 he).1
      generalize listF (N + 1) (k - i) = r at hsucc htot hml
      refine ⟨fun m out v => Cnt r.length (fun j => out = (List.range i).flatMap f ++ (r.take j).map ((i : Int) :: ·)) m v, Cnt.start (by simp), ?_⟩
      rintro m2 _ _ ⟨j, rfl, rfl, hj, rfl⟩
      simp only [Int.toNat_natCast]
      refine ⟨fun hlt => ⟨by omega, ?_, ?_, Cnt.next (by omega) (by omega) ?_⟩, fun hge => Cnt.next (by omega) (by omega) ?_⟩
      · have := hml _ (List.mem_of_getElem? (gx_some (show j < r.length by omega)))
        simp only [List.length_singleton]; omega
      · rw [List.length_append, List.length_map, List.length_take]; omega
      · rw [List.take_add_one, gx_some (show j < r.length by omega), List.map_append, List.append_assoc]; rfl
      · have e : j = r.length := by omega
        rw [hsucc, e, List.take_length]
    · have e : i = k + 1 := by omega
      rw [e]; exact h

theorem plus_sb {n : Nat} {d e : List Int} (hd : d.length = n) : plusF d e (-1) = sb n d e := by
  unfold plusF sb
  rw [hd]
  exact tab_congr fun i _ => by omega
section
variable {N : Nat} {es : List E3} {d : List Int}
theorem p_r38_Fails {k : Nat} {R : List Int → Bool → Prop} (hD : DOk (N + 1) es d) (hd : d.length = N + 1) (hk : k ≤ 6) (h1 : ∀ w, FailAt (N + 1) es d k w → R w true) (h2 : AL (N + 1) es d (k : Int) → R [] false) : pf_r38_Fails ((N + 1 : Nat) : Int) es d (k : Int) R := by
  have hn5 := hD.G.n5
  have hel := hD.G.el
  unfold pf_r38_Fails
  have hpw : (k + 1) ^ N ≤ 2401 := by
    have h2 : (k + 1) ^ N ≤ 7 ^ N := Nat.pow_le_pow_left (by omega) N
    have h3 : 7 ^ N ≤ 7 ^ 4 := Nat.pow_le_pow_right (by omega) (by omega)
    omega
  have hlen := listF_length N k
  refine ⟨N + 1, p_r37_Listed N (N + 1) k (by omega) (by omega) (by omega) (by omega) ?_⟩
  have hmem : ∀ e ∈ listF (N + 1) k, Eff (N + 1) e (k : Int) := fun e he => list_eff he
  have hAL : (∀ e ∈ listF (N + 1) k, Win (N + 1) es (sb (N + 1) d e)) → AL (N + 1) es d (k : Int) := fun q e he => q e (eff_list he)
  have hF : ∀ A w B, listF (N + 1) k = A ++ w :: B → (∀ e ∈ A, Win (N + 1) es (sb (N + 1) d e)) → ¬ Win (N + 1) es (sb (N + 1) d w) → FailAt (N + 1) es d k w := fun A w B e hA hw => ⟨⟨A, B, e, hA⟩, hw⟩
  generalize listF (N + 1) k = L at hlen hmem hAL hF
  refine ⟨fun m v => Cnt L.length (fun j => ∀ e ∈ L.take j, Win (N + 1) es (sb (N + 1) d e)) m v, Cnt.start (fun e he => by simp at he), ?_⟩
  rintro m _ ⟨j, rfl, rfl, hj, hinv⟩
  simp only [Int.toNat_natCast]
  refine ⟨fun hlt => ⟨by omega, ?_⟩, fun hge => ?_⟩
  · have hjl : j < L.length := by omega
    have heff := hmem _ (List.mem_of_getElem? (gx_some hjl))
    have hbb : ∀ v, v < N + 1 → 0 ≤ gi (gx L j) v ∧ gi (gx L j) v ≤ 6 := fun v hv => by have := heff.pos v hv; have := heff.le hv; omega
    refine p_r25_Plus (by omega) (by rw [heff.len]; omega) (by omega) (fun v hv => by have := hD.b v (by omega); omega) (fun v hv => by have := hbb v (by omega); omega) ?_
    rw [plus_sb hd]
    refine p_r36_Wins (by omega) hD.G.g hD.G.c (sb_length _ _ _) (fun v hv => by rw [gi_sb hv]; have := hD.b v hv; have := hbb v hv; omega) (fun hw => ⟨fun _ => Cnt.next (by omega) (by omega) fun e he => ?_, fun q => absurd rfl q⟩) fun hw => ⟨fun q => (by cases q), fun _ => h1 _ ?_⟩
    · rw [List.take_add_one, gx_some hjl] at he
      rcases List.mem_append.1 he with q | q
      · exact hinv e q
      · have : e = gx L j := by simpa using q
        rw [this]; exact hw
    · refine hF (L.take j) _ (L.drop (j + 1)) ?_ hinv hw
      have h3 : L.drop j = gx L j :: L.drop (j + 1) := by rw [List.drop_eq_getElem_cons hjl, gx_of_lt hjl]
      rw [← h3, List.take_append_drop]
  · have e : j = L.length := by omega
    rw [e, List.take_length] at hinv
    exact h2 (hAL hinv)
theorem p_r38_Of {R : Int → Prop} (hD : DOk (N + 1) es d) (hd : d.length = N + 1) (h : ∀ k, RkOk (N + 1) es d k → R k) : pf_r38_Of ((N + 1 : Nat) : Int) es d R := by
  have hn5 := hD.G.n5
  unfold pf_r38_Of
  refine ⟨fun m r => ∃ k : Nat, r = (k : Int) - 1 ∧ k ≤ 6 ∧ m = 6 - k ∧ AL (N + 1) es d ((k : Int) - 1), ⟨6, 0, by omega, by omega, rfl, al_neg (by omega)⟩, ?_⟩
  rintro m _ ⟨k, rfl, hk, rfl, hal⟩
  have e1 : (k : Int) - 1 + 1 = (k : Int) := by omega
  have h5 := hD.d5
  refine p_r17_Total (by omega) (fun i hi => by have := hD.b i (by omega); omega) ⟨fun hlt => ⟨i64 (by omega), ?_⟩, fun hge => h _ ⟨by omega, hal, fun q => ?_⟩⟩
  · rw [e1]
    refine p_r38_Fails hD hd hk (fun w hw => ⟨fun _ => h _ ⟨by omega, hal, fun q => hw.no ?_⟩, fun q => absurd rfl q⟩) fun q => ⟨fun q => (by cases q), fun _ => ⟨6 - (k + 1), by omega, k + 1, by omega, by omega, rfl, ?_⟩⟩
    · rw [e1] at q; exact q w hw.mem
    · rw [show ((k + 1 : Nat) : Int) - 1 = (k : Int) by omega]; exact q
  · rw [e1] at q
    have he := eff_at (n := N + 1) (by omega) (k := (k : Int)) (by omega)
    have h1 := win_dg (sb_length (N + 1) d _) (q _ he)
    rw [dg_sb hd he.len, he.deg] at h1
    omega
end
theorem given_nat {n : Int} {es : List E3} {d : List Int} (hg : givenF n es 0 d = 0) (hD : DOk n.toNat es d) : ∃ N : Nat, n = ((N + 1 : Nat) : Int) ∧ d.length = N + 1 := by
  have h1 := given_all (n := n.toNat) (q := 0) (es := es) (d := d) (by rw [show ((n.toNat : Nat) : Int) = n from by have := givenF_ok hg; omega]; exact hg)
  have h2 := givenF_ok hg
  exact ⟨n.toNat - 1, by omega, by have := h1.2.2.2.2.2.2.1; omega⟩
theorem p_r38_Rank {n : Int} {es : List E3} {d : List Int} {R : Int → Int → Prop} (hl : es.length ≤ 1000) (h0 : givenF n es 0 d ≠ 0 → R 0 (givenF n es 0 d)) (h1 : givenF n es 0 d = 0 → DOk n.toNat es d ∧ ∀ k, RkOk n.toNat es d k → R k 0) : pf_r38_Rank n es d R := by
  unfold pf_r38_Rank
  refine p_r35_Given (by omega) ⟨fun hg => ?_, fun hg => h0 hg⟩
  obtain ⟨hD, hk⟩ := h1 hg
  obtain ⟨N, rfl, hd⟩ := given_nat hg hD
  exact p_r38_Of hD hd hk
theorem p_r38_Witness {n : Int} {es : List E3} {d : List Int} {R : List Int → Int → Prop} (hl : es.length ≤ 1000) (h0 : givenF n es 0 d ≠ 0 → R [] (givenF n es 0 d)) (h1 : givenF n es 0 d = 0 → DOk n.toNat es d ∧ ∀ w, WitOk n.toNat es d w → R w 0) : pf_r38_Witness n es d R := by
  unfold pf_r38_Witness
  refine p_r35_Given (by omega) ⟨fun hg => ?_, fun hg => h0 hg⟩
  obtain ⟨hD, hk⟩ := h1 hg
  obtain ⟨N, rfl, hd⟩ := given_nat hg hD
  refine p_r38_Of hD hd fun k hk' => ?_
  have h6 := hk'.six (by omega) hd hD.d5
  obtain ⟨r, hr⟩ : ∃ r : Nat, k + 1 = (r : Int) := ⟨(k + 1).toNat, by omega⟩
  refine ⟨i64 (by omega), ?_⟩
  rw [hr]
  refine p_r38_Fails hD hd (by omega) (fun w hw => hk w ⟨k, hk', by rw [hr]; exact hw⟩) fun q => absurd (by rw [hr]; exact q) hk'.no
theorem p_r38_AtLeast {n r : Int} {es : List E3} {d : List Int} {R : Bool → Int → Prop} (hl : es.length ≤ 1000) (h0 : givenF n es 0 d ≠ 0 → R false (givenF n es 0 d)) (h1 : givenF n es 0 d = 0 → r < 0 → R true 0) (h2 : givenF n es 0 d = 0 → 0 ≤ r → DOk n.toNat es d ∧ ∀ k, RkOk n.toNat es d k → R (decide (r ≤ k)) 0) : pf_r38_AtLeast n es d r R := by
  unfold pf_r38_AtLeast
  refine p_r35_Given (by omega) ⟨fun hg => ⟨fun hr => h1 hg hr, fun hr => ?_⟩, fun hg => h0 hg⟩
  obtain ⟨hD, hk⟩ := h2 hg (by omega)
  obtain ⟨N, rfl, hd⟩ := given_nat hg hD
  exact p_r38_Of hD hd hk
/-- A small graph, and few chips unless there is an error. -/
structure FewOk (n : Int) (es : List E3) (d : List Int) (most : Int) : Prop where
  s : smallF n es 5 7 = true
  l : d.length ≤ 100
  g : givenF n es 0 d = 0 → lowF n d = true ∧ dg d ≤ most
theorem FewOk.el {n : Int} {es : List E3} {d : List Int} {most : Int} (h : FewOk n es d most) : es.length ≤ 40 := (of_decide_eq_true h.s).1
theorem gok_of {n : Int} {es : List E3} (hs : smallF n es 5 7 = true) (hg : gcheckF n es = 0) (hc : connF n es = true) : GOk n.toNat es := by
  obtain ⟨h1, h2⟩ := of_decide_eq_true hs
  have h3 := h2 hg
  have hn : 1 ≤ n ∧ n ≤ 12 := by unfold gcheckF at hg; split at hg; · assumption
                                 · omega
  have e : ((n.toNat : Nat) : Int) = n := by omega
  exact ⟨by rw [e]; exact hg, by rw [e]; exact hc, h1, by omega, by omega, by omega⟩
theorem FewOk.dok {n : Int} {es : List E3} {d : List Int} {most : Int} (h : FewOk n es d most) (hm : most ≤ 5) (hg : givenF n es 0 d = 0) : DOk n.toNat es d := by
  obtain ⟨h1, h2⟩ := h.g hg
  have h3 := givenF_ok hg
  have e : ((n.toNat : Nat) : Int) = n := by omega
  have h4 := given_all (n := n.toNat) (q := 0) (es := es) (d := d) (by rw [e]; exact hg)
  have h5 := (lowF_iff.1 h1).2 (by have := h4.2.2.2.2.2.2.2; rwa [e] at this)
  have h6 := h4.2.2.2.2.2.2.1
  exact ⟨gok_of h.s (by have := h4.2.2.2.1; rwa [e] at this) (by have := h4.2.2.2.2.1; rwa [e] at this), fun v hv => by have := h5 v (by omega); omega, by omega⟩
theorem p_r38_Few {n most : Int} {es : List E3} {d : List Int} {R : Bool → Prop} (h1 : FewOk n es d most → R true) (h2 : ¬ FewOk n es d most → R false) : pf_r38_Few n es d most R := by
  unfold pf_r38_Few
  refine ⟨smallF n es 5 7 = true ∧ d.length ≤ 100, fun ⟨hs, hl⟩ => ?_, p_r08_small ⟨fun hs => ⟨fun hl => h2 fun q => by have := q.l; omega, fun hl => ⟨hs, by omega⟩⟩, fun hs => h2 fun q => hs q.s⟩⟩
  have hel := (of_decide_eq_true hs).1
  refine p_r35_Given (by omega) ⟨fun hg => p_r34_Low ⟨fun hlo => p_r17_Total (by omega) (fun i hi => ?_) ?_, fun hlo => h2 fun q => hlo (q.g hg).1⟩, fun hg => h1 ⟨hs, hl, fun q => absurd q hg⟩⟩
  · have h3 := givenF_ok hg
    have e : ((n.toNat : Nat) : Int) = n := by omega
    have h4 := given_all (n := n.toNat) (q := 0) (es := es) (d := d) (by rw [e]; exact hg)
    have := (lowF_iff.1 hlo).2 (by have := h4.2.2.2.2.2.2.2; rwa [e] at this) i hi
    omega
  · by_cases q : dg d ≤ most
    · rw [decide_eq_true q]; exact h1 ⟨hs, hl, fun _ => ⟨hlo, q⟩⟩
    · rw [decide_eq_false q]; exact h2 fun f => q (f.g hg).2
end Go.Proofs.Ytmeoemmemjipdaa

/- The examples of the chapter on ranks come out right; what the law's small functions come to. -/
namespace Go.Proofs.Ytmeoemmemjipdaa
open Go
set_option linter.unusedVariables false
set_option linter.unusedSimpArgs false

def tri : List E3 := [(0, 1, 1), (0, 2, 1), (1, 2, 1)]
def k4 : List E3 := [(0, 1, 1), (0, 2, 1), (0, 3, 1), (1, 2, 1), (1, 3, 1), (2, 3, 1)]
theorem tri_ok : GOk 3 tri := ⟨by decide, by decide, by decide, by decide, by decide, by decide⟩
theorem k4_ok : GOk 4 k4 := ⟨by decide, by decide, by decide, by decide, by decide, by decide⟩
theorem one_ok : GOk 1 [] := ⟨by decide, by decide, by decide, by decide, by decide, by decide⟩
theorem al_dec {N k : Nat} {es : List E3} {d : List Int} (S : List (List Int)) (h : ∀ e ∈ listF (N + 1) k, ∃ s ∈ S, ∀ v, v < N + 1 → 0 ≤ gi (sb (N + 1) d e) v - Lp (N + 1) es (gi s) v) : AL (N + 1) es d (k : Int) := fun e he => by
  obtain ⟨s, -, hs⟩ := h e (eff_list he)
  exact ⟨gi s, hs⟩
theorem lose_dec {n : Nat} {es : List E3} {d : List Int} (G : GOk n es) (q : Nat) (hq : q < n) (h1 : ∀ v, v < n → v ≠ q → 0 ≤ gi d v) (h2 : ∀ m, m < 2 ^ n → 1 ≤ m → m.testBit q = false → ¬ (∀ v, v < n → m.testBit v = true → outS n es m.testBit v ≤ gi d v)) (hneg : gi d q < 0) : ¬ Win n es d := fun hw => by
  have := (win_red (d := d) (r := d) (s := fun _ => 0) G.E hq (red_of_dec hq h1 h2) fun v hv => by rw [Lp_const]; omega).1 hw
  omega
theorem no_dec {N k : Nat} {es : List E3} {d : List Int} (e : List Int) (he : e ∈ listF (N + 1) k) (h : ¬ Win (N + 1) es (sb (N + 1) d e)) : ¬ AL (N + 1) es d (k : Int) := fun q => h (q e (list_eff he))
theorem ex1 : RkOk 3 tri [1, 1, 0] 1 := ⟨by omega, al_dec (N := 2) (k := 1) [[0, 0, 0], [1, 1, 0]] (by decide), no_dec (N := 2) (k := 2) [0, 1, 1] (by decide) (lose_dec tri_ok 2 (by decide) (by decide) (by decide) (by decide))⟩
theorem ex2 : RkOk 3 tri [0, 1, 0] 0 := ⟨by omega, al_dec (N := 2) (k := 0) [[0, 0, 0]] (by decide), no_dec (N := 2) (k := 1) [0, 0, 1] (by decide) (lose_dec tri_ok 2 (by decide) (by decide) (by decide) (by decide))⟩
theorem ex3 : RkOk 4 k4 [1, 1, 0, 0] 0 := ⟨by omega, al_dec (N := 3) (k := 0) [[0, 0, 0, 0]] (by decide), no_dec (N := 3) (k := 1) [0, 0, 1, 0] (by decide) (lose_dec k4_ok 2 (by decide) (by decide) (by decide) (by decide))⟩
theorem ex4 : RkOk 4 k4 [1, 1, 1, 0] 1 := ⟨by omega, al_dec (N := 3) (k := 1) [[0, 0, 0, 0], [1, 1, 1, 0]] (by decide), no_dec (N := 3) (k := 2) [2, 0, 0, 0] (by decide) (lose_dec k4_ok 0 (by decide) (by decide) (by decide) (by decide))⟩
theorem ex5 : RkOk 4 k4 [1, 1, 1, 1] 2 := ⟨by omega, al_dec (N := 3) (k := 2) [[0, 0, 0, 0], [0, 1, 1, 1], [1, 0, 1, 1], [1, 1, 0, 1], [1, 1, 1, 0]] (by decide), no_dec (N := 3) (k := 3) [2, 1, 0, 0] (by decide) (lose_dec k4_ok 0 (by decide) (by decide) (by decide) (by decide))⟩
theorem ex6 : RkOk 1 [] [3] 3 := ⟨by omega, al_dec (N := 0) (k := 3) [[0]] (by decide), no_dec (N := 0) (k := 4) [4] (by decide) (lose_dec one_ok 0 (by decide) (by decide) (by decide) (by decide))⟩
theorem wx1 : WitOk 3 tri [1, 1, 0] [0, 1, 1] := ⟨1, ex1, ⟨[[0, 0, 2]], [[0, 2, 0], [1, 0, 1], [1, 1, 0], [2, 0, 0]], by decide, fun e he => by
  rw [List.mem_singleton] at he
  subst he
  exact ⟨gi [1, 1, 0], by decide⟩⟩, lose_dec tri_ok 2 (by decide) (by decide) (by decide) (by decide)⟩
theorem wx2 : WitOk 3 tri [0, 1, 0] [0, 0, 1] := ⟨0, ex2, ⟨[], [[0, 1, 0], [1, 0, 0]], by decide, fun e he => by simp at he⟩, lose_dec tri_ok 2 (by decide) (by decide) (by decide) (by decide)⟩
theorem ex_rank {n : Nat} {es : List E3} {d : List Int} {r : Int} {R : Int → Int → Prop} (hr : RkOk n es d r) (G : GOk n es) (hd : d.length = n) (hb : ∀ v, v < n → -200 ≤ gi d v ∧ gi d v ≤ 200) (h5 : dg d ≤ 5) (h : R r 0) : pf_rank_Rank (n : Int) es d R := by
  have := G.el
  refine p_rank_Rank (by omega) (fun q => absurd (G.giv hd fun v hv => by have := hb v hv; omega) q) fun _ => ?_
  simp only [Int.toNat_natCast]
  exact ⟨G, hb, h5, fun k hk => by rw [hk.eq G.n1 hr]; exact h⟩
theorem ex_wit {n : Nat} {es : List E3} {d w : List Int} {R : List Int → Int → Prop} (hr : WitOk n es d w) (G : GOk n es) (hd : d.length = n) (hb : ∀ v, v < n → -150 ≤ gi d v ∧ gi d v ≤ 150) (h5 : dg d ≤ 5) (h : R w 0) : pf_rank_Witness (n : Int) es d R := by
  have := G.el
  refine p_rank_Witness (by omega) (fun q => absurd (G.giv hd fun v hv => by have := hb v hv; omega) q) fun _ => ?_
  simp only [Int.toNat_natCast]
  exact ⟨⟨G, hb, h5⟩, fun k hk => by rw [hk.eq G.n1 hr]; exact h⟩
theorem p_l38_awake {R : Bool → Prop} (h : R true) : pf_l38_awake R := by
  unfold pf_l38_awake
  generalize hL : ([(3, [(0, 1, 1), (0, 2, 1), (1, 2, 1)], [1, 1, 0], 1), (3, [(0, 1, 1), (0, 2, 1), (1, 2, 1)], [0, 1, 0], 0), (4, [(0, 1, 1), (0, 2, 1), (0, 3, 1), (1, 2, 1), (1, 3, 1), (2, 3, 1)], [1, 1, 0, 0], 0), (4, [(0, 1, 1), (0, 2, 1), (0, 3, 1), (1, 2, 1), (1, 3, 1), (2, 3, 1)], [1, 1, 1, 0], 1), (4, [(0, 1, 1), (0, 2, 1), (0, 3, 1), (1, 2, 1), (1, 3, 1), (2, 3, 1)], [1, 1, 1, 1], 2), (1, [], [3], 3)] : List (Int × (List (Int × Int × Int)) × (List Int) × Int)) = L
  have hlen : L.length = 6 := by rw [← hL]; rfl
  have e0 : gx L 0 = (3, tri, [1, 1, 0], 1) := by rw [← hL]; rfl
  have e1 : gx L 1 = (3, tri, [0, 1, 0], 0) := by rw [← hL]; rfl
  have e2 : gx L 2 = (4, k4, [1, 1, 0, 0], 0) := by rw [← hL]; rfl
  have e3 : gx L 3 = (4, k4, [1, 1, 1, 0], 1) := by rw [← hL]; rfl
  have e4 : gx L 4 = (4, k4, [1, 1, 1, 1], 2) := by rw [← hL]; rfl
  have e5 : gx L 5 = (1, [], [3], 3) := by rw [← hL]; rfl
  clear hL
  rw [hlen]
  refine ⟨fun m v => ∃ k : Nat, v = (k : Int) ∧ k ≤ 6 ∧ m = 6 - k, ⟨6, 0, rfl, by omega, rfl⟩, ?_⟩
  rintro m _ ⟨k, rfl, hk, rfl⟩
  simp only [Int.toNat_natCast]
  refine ⟨fun hlt => ?_, fun _ => ?_⟩
  · have hk6 : k < 6 := by omega
    have nx : In64 ((k : Int) + 1) ∧ ∃ m3, m3 < 6 - k ∧ ∃ k' : Nat, (k : Int) + 1 = (k' : Int) ∧ k' ≤ 6 ∧ m3 = 6 - k' := ⟨i64 (by omega), 6 - (k + 1), by omega, k + 1, by omega, by omega, rfl⟩
    refine ⟨⟨by omega, by omega⟩, ?_⟩
    rcases (by omega : k = 0 ∨ k = 1 ∨ k = 2 ∨ k = 3 ∨ k = 4 ∨ k = 5) with rfl | rfl | rfl | rfl | rfl | rfl
    · rw [e0]
      show pf_rank_Rank ((3 : Nat) : Int) tri [1, 1, 0] _
      exact ex_rank ex1 tri_ok (by decide) (by decide) (by decide) ⟨fun _ => ⟨fun _ => nx, fun q => absurd rfl q⟩, fun q => absurd rfl q⟩
    · rw [e1]
      show pf_rank_Rank ((3 : Nat) : Int) tri [0, 1, 0] _
      exact ex_rank ex2 tri_ok (by decide) (by decide) (by decide) ⟨fun _ => ⟨fun _ => nx, fun q => absurd rfl q⟩, fun q => absurd rfl q⟩
    · rw [e2]
      show pf_rank_Rank ((4 : Nat) : Int) k4 [1, 1, 0, 0] _
      exact ex_rank ex3 k4_ok (by decide) (by decide) (by decide) ⟨fun _ => ⟨fun _ => nx, fun q => absurd rfl q⟩, fun q => absurd rfl q⟩
    · rw [e3]
      show pf_rank_Rank ((4 : Nat) : Int) k4 [1, 1, 1, 0] _
      exact ex_rank ex4 k4_ok (by decide) (by decide) (by decide) ⟨fun _ => ⟨fun _ => nx, fun q => absurd rfl q⟩, fun q => absurd rfl q⟩
    · rw [e4]
      show pf_rank_Rank ((4 : Nat) : Int) k4 [1, 1, 1, 1] _
      exact ex_rank ex5 k4_ok (by decide) (by decide) (by decide) ⟨fun _ => ⟨fun _ => nx, fun q => absurd rfl q⟩, fun q => absurd rfl q⟩
    · rw [e5]
      show pf_rank_Rank ((1 : Nat) : Int) [] [3] _
      exact ex_rank ex6 one_ok (by decide) (by decide) (by decide) ⟨fun _ => ⟨fun _ => nx, fun q => absurd rfl q⟩, fun q => absurd rfl q⟩
  · refine ex_wit wx1 tri_ok (by decide) (by decide) (by decide) (ex_wit wx2 tri_ok (by decide) (by decide) (by decide) ⟨fun _ => ⟨fun _ => ?_, fun q => absurd rfl q⟩, fun q => absurd rfl q⟩)
    exact p_slices_Equal_Divisor (by decide) ⟨fun _ => p_slices_Equal_Divisor (by decide) h, fun q => absurd (by decide) q⟩
end Go.Proofs.Ytmeoemmemjipdaa

/- Laws of layer 38: the answers are the reference's. -/
namespace Go.Proofs.Ytmeoemmemjipdaa
open Go
set_option linter.unusedVariables false
set_option linter.unusedSimpArgs false

section
variable {n most : Int} {es : List E3} {d : List Int} (hF : FewOk n es d most) (hm : most ≤ 5)
include hF hm
theorem two_rank {R : Int → Int → Int → Int → Prop} (h : ∀ a e, R a e a e) : pf_rank_Rank n es d (fun a e => pf_r38_Rank n es d (fun b f => R a e b f)) := by
  have hel := hF.el
  refine p_rank_Rank (by omega) (fun hg => p_r38_Rank (by omega) (fun _ => h _ _) fun q => absurd q hg) fun hg => ?_
  have hD := hF.dok hm hg
  refine ⟨hD.G, fun v hv => by have := hD.b v hv; omega, hD.d5, fun k hk => p_r38_Rank (by omega) (fun q => absurd hg q) fun _ => ⟨hD, fun k' hk' => ?_⟩⟩
  have e := hk.eq hD.G.n1 hk'
  subst e; exact h _ _
theorem two_wit {R : List Int → Int → List Int → Int → Prop} (h : ∀ a e, R a e a e) : pf_rank_Witness n es d (fun a e => pf_r38_Witness n es d (fun b f => R a e b f)) := by
  have hel := hF.el
  refine p_rank_Witness (by omega) (fun hg => p_r38_Witness (by omega) (fun _ => h _ _) fun q => absurd q hg) fun hg => ?_
  have hD := hF.dok hm hg
  refine ⟨hD, fun k hk => p_r38_Witness (by omega) (fun q => absurd hg q) fun _ => ⟨hD, fun k' hk' => ?_⟩⟩
  have e := hk.eq hD.G.n1 hk'
  subst e; exact h _ _
theorem two_al {r : Int} {R : Bool → Int → Bool → Int → Prop} (h : ∀ a e, R a e a e) : pf_rank_AtLeast n es d r (fun a e => pf_r38_AtLeast n es d r (fun b f => R a e b f)) := by
  have hel := hF.el
  refine p_rank_AtLeast (by omega) (fun hg => p_r38_AtLeast (by omega) (fun _ => h _ _) (fun q => absurd q hg) fun q => absurd q hg) (fun hg hr => p_r38_AtLeast (by omega) (fun q => absurd hg q) (fun _ _ => h _ _) fun _ q => by omega) fun hg hr => ?_
  have hD := hF.dok hm hg
  refine ⟨hD, fun k hk => p_r38_AtLeast (by omega) (fun q => absurd hg q) (fun _ q => by omega) fun _ _ => ⟨hD, fun k' hk' => ?_⟩⟩
  have e := hk.eq hD.G.n1 hk'
  subst e; exact h _ _
end
theorem wit_len {n : Nat} {es : List E3} {d w : List Int} (hn : 1 ≤ n) (h : WitOk n es d w) : w.length = n := by
  obtain ⟨k, h1, h2⟩ := h
  obtain ⟨N, rfl⟩ : ∃ N, n = N + 1 := ⟨n - 1, by omega⟩
  exact h2.mem.len
theorem two_wit' {n : Int} {es : List E3} {d : List Int} {most : Int} (hF : FewOk n es d most) (hm : most ≤ 5) {R : List Int → Int → List Int → Int → Prop} (h : ∀ a e, a.length ≤ 12 → R a e a e) : pf_rank_Witness n es d (fun a e => pf_r38_Witness n es d (fun b f => R a e b f)) := by
  have hel := hF.el
  refine p_rank_Witness (by omega) (fun hg => p_r38_Witness (by omega) (fun _ => h _ _ (by simp)) fun q => absurd q hg) fun hg => ?_
  have hD := hF.dok hm hg
  refine ⟨hD, fun k hk => p_r38_Witness (by omega) (fun q => absurd hg q) fun _ => ⟨hD, fun k' hk' => ?_⟩⟩
  have e := hk.eq hD.G.n1 hk'
  subst e; exact h _ _ (by have := wit_len hD.G.n1 hk; have := hD.G.n5; omega)
theorem p_rankcounts {n r : Int} {es : List E3} {d : List Int} : pf_l38_RankCounts n es d r (fun b => b = true) := by
  unfold pf_l38_RankCounts
  refine p_r38_Few (fun hF => ⟨fun _ => ?_, fun q => absurd rfl q⟩) fun _ => ⟨fun q => (by cases q), fun _ => p_l38_awake rfl⟩
  refine two_rank hF (by omega) fun a e => two_wit' hF (by omega) fun w f hwl => two_al hF (by omega) fun b g => ⟨fun _ => ⟨fun _ => ?_, fun q => absurd rfl q⟩, fun q => absurd rfl q⟩
  exact p_slices_Equal_Divisor (by omega) ⟨fun _ => ⟨fun _ => ⟨fun _ => ⟨fun _ => p_l38_awake rfl, fun q => absurd rfl q⟩, fun q => absurd (by simp) q⟩, fun q => absurd rfl q⟩, fun q => absurd (by simp) q⟩
end Go.Proofs.Ytmeoemmemjipdaa
