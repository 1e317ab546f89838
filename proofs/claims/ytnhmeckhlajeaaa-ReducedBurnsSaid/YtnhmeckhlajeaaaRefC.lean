/- The references: Reached, Parts, Connected; Joined, Sink, Given, Debt. -/
import Derived.Test.YtnhmeckhlajeaaaRefB
namespace Go.Proofs.Ytnhmeckhlajeaaa
open Go Go.RowKit Go.Shelf
set_option linter.unusedVariables false
set_option linter.unusedSectionVars false
set_option linter.unusedSimpArgs false

theorem new_brow {w w' : World} {g n : Nat} (h : New w g w' (Array.replicate n (Value.bool false)) 4) : BRow w' g 4 n (List.replicate n false) := by
  have := h.row
  simpa [BRow] using this
theorem gb_rep (n v : Nat) : gb (List.replicate n false) v = false := by
  rcases Nat.lt_or_ge v n with h | h
  · rw [gb_of_lt (by simpa using h)]; simp
  · exact gb_ge (by simpa using h)
theorem set_same {l : List Bool} {v : Nat} (h : gb l v = true) : l.set v true = l := by
  rcases Nat.lt_or_ge v l.length with hv | hv
  · rw [gb_of_lt hv] at h
    rw [← h]; exact List.set_getElem_self hv
  · rw [gb_ge hv] at h; cases h
/-- Closed under edges. -/
def Cl (n : Nat) (es : List E3) (o : List Bool) : Prop := ∀ a b, a < n → b < n → gb o a = true → 0 < W es a b → gb o b = true
theorem root_W {n : Nat} {es : List E3} (hE : EOk n es) (hn : 1 ≤ n) (h12 : n ≤ 12) {a b : Nat} (h : 0 < W es a b) : root (joinedF es) a = root (joinedF es) b := by
  obtain ⟨m, hm⟩ := (W_adj hE).1 h
  obtain ⟨x, hx, q1, q2, q3, q4⟩ := mem_linksF.1 hm
  have h1 := root_edge es (hE.ends hn h12) x hx
  have hbx := hE x hx
  rcases q2 with q2 | q2
  · rwa [show x.1.toNat = a by omega, show x.2.1.toNat = b by omega] at h1
  · rw [show x.1.toNat = b by omega, show x.2.1.toNat = a by omega] at h1; exact h1.symm
theorem conn_root {n : Nat} {es : List E3} (hE : EOk n es) (hn : 1 ≤ n) (h12 : n ≤ 12) : connF n es = true ↔ ∀ v, v < n → root (joinedF es) v = root (joinedF es) 0 := by
  have hF := joinedF_forest es (hE.ends hn h12)
  unfold connF
  rw [beq_iff_eq, Int.toNat_natCast]
  exact nroots_one hF hn h12
theorem cl_root {n : Nat} {es : List E3} (hE : EOk n es) (hn : 1 ≤ n) (h12 : n ≤ 12) {o : List Bool} (hC : Cl n es o) {v : Nat} (hv : v < n) (hvo : gb o v = true) (hs : ∀ u, u < n → gb o u = true → root (joinedF es) u = root (joinedF es) v) :
    ∀ u, u < n → gb o u = decide (root (joinedF es) u = root (joinedF es) v) := by
  have hcl : ∀ x ∈ es, gb o x.1.toNat = gb o x.2.1.toNat := fun x hx => by
    have hb := hE x hx
    by_cases e : x.1 = x.2.1
    · rw [e]
    · have hw := W_edge hE hn h12 hx e
      cases h1 : gb o x.1.toNat <;> cases h2 : gb o x.2.1.toNat
      · rfl
      · rw [hC _ _ (by omega) (by omega) h2 (by rw [W_symm]; exact hw)] at h1; cases h1
      · rw [hC _ _ (by omega) (by omega) h1 hw] at h2; cases h2
      · rfl
  have hside := root_side (n := n) (S := gb o) es (hE.ends hn h12) hcl
  intro u hu
  cases h : gb o u with
  | true => exact (decide_eq_true (hs u hu h)).symm
  | false =>
    symm
    rw [decide_eq_false_iff_not]
    intro e
    have h1 := hside u (by omega)
    have h2 := hside v (by omega)
    rw [e, h2, hvo] at h1
    rw [h] at h1; cases h1

theorem r08_reached (A : Option Addr) (es : List E3) (c : Nat) (n v : Nat) (w : World) (he : Edges w A es) (hl : es.length ≤ 1000000000) (hg : gcheckF n es = 0) (hv : v < n) :
    Calls Try.prog 169 #[.agg #[.int .i64 (n : Int), .slice A es.length c], .int .i64 (v : Int)] w fun e w' => ∃ g o, e = .returned (.slice (some ⟨g, 0, none⟩) n n) ∧ w.heap.size ≤ g ∧ BRow w' g 4 n o ∧ o.length = n ∧ Pure w w' ∧ ∀ u, u < n → gb o u = decide (root (joinedF es) u = root (joinedF es) v) := by
  refine (ok_r08_Reached (n : Int) A es.length c (v : Int) w (fun A1 l1 c1 w' => ∃ g o, A1 = some ⟨g, 0, none⟩ ∧ l1 = n ∧ c1 = n ∧ w.heap.size ≤ g ∧ BRow w' g 4 n o ∧ o.length = n ∧ Pure w w' ∧ ∀ u, u < n → gb o u = decide (root (joinedF es) u = root (joinedF es) v)) ?_).mono (by
    rintro e w' ⟨_, _, _, rfl, g, o, rfl, rfl, rfl, h⟩; exact ⟨g, o, rfl, h⟩)
  obtain ⟨hE, hn1, hn12⟩ := gcheck_ok hg
  unfold sh_r08_Reached
  intro g2 w2 hN
  have p2 : Pure w w2 := hN.keeps _
  have gs := hN.size
  have ga := hN.at_
  refine ⟨by omega, fun g3 w3 hN3 => ?_⟩
  simp only [Int.toNat_natCast] at hN3 ⊢
  have gs3 := hN3.size
  have ga3 := hN3.at_
  have hb3 := new_brow hN3
  have p3 : Pure w w3 := p2.trans (hN3.keeps _)
  refine ⟨ix_some (by omega) (by omega), bwr hb3 (by omega) (by simp; omega), by rw [ixA_one]; simp; omega, fun w4 e4 => ?_⟩
  have hb4 : BRow w4 g3 4 n ((List.replicate n false).set v true) := by rw [e4]; simpa using bst hb3 (v : Int) true
  have p4 : Pure w w4 := by rw [e4, ixA_one]; exact p3.setCell (fun h => absurd h (by simp; omega)) _
  -- the states of the three loops
  let Q : List Bool → World → Prop := fun o V => o.length = n ∧ BRow V g3 4 n o ∧ Pure w V ∧ gb o v = true ∧ ∀ u, u < n → gb o u = true → root (joinedF es) u = root (joinedF es) v
  let Z : List Bool → List Bool → Prop := fun o0 o => (Cl n es o0 → o = o0) ∧ (o = o0 ∨ cf o < cf o0) ∧ ∀ a, gb o0 a = true → gb o a = true
  have hq4 : Q ((List.replicate n false).set v true) w4 := by
    refine ⟨by simp, hb4, p4, by rw [gb_set (by simpa using hv), if_pos rfl], fun u hu h => ?_⟩
    rw [gb_set (by simpa using hv)] at h
    split at h
    · rename_i e; rw [e]
    · rw [gb_rep] at h; cases h
  have hcf0 : cf ((List.replicate n false).set v true) + 1 = n := by
    rw [cf_set (by simpa using hv) (gb_rep n v)]
    unfold cf
    rw [List.filter_eq_self.2 (fun x hx => by rw [(List.mem_replicate.1 hx).2]; rfl)]
    simp
  have hsetQ : ∀ {o : List Bool} {V V' : World} {b : Nat}, Q o V → b < n → root (joinedF es) b = root (joinedF es) v → V' = V.setCell (ixA (some ⟨g3, 0, none⟩) (b : Int) 1) (.bool true) → Q (o.set b true) V' := by
    rintro o V V' b ⟨q1, q2, q3, q4, q5⟩ hb hr rfl
    have hbl : b < o.length := by omega
    refine ⟨by simpa using q1, by simpa using bst q2 (b : Int) true, by rw [ixA_one]; exact q3.setCell (fun h => absurd h (by simp; omega)) _, ?_, fun u hu h => ?_⟩
    · rw [gb_set hbl]; split <;> first | rfl | exact q4
    · rw [gb_set hbl] at h
      split at h
      · rename_i e; rw [e]; exact hr
      · exact q5 u hu h
  have hkeepQ : ∀ {o : List Bool} {V V' : World}, Q o V → Pure V V' → Q o V' := by
    rintro o V V' ⟨q1, q2, q3, q4, q5⟩ p
    exact ⟨q1, p.row q2 id, q3.trans p, q4, q5⟩
  refine ⟨fun m i V => ∃ (k : Nat) (o : List Bool), m = n - k ∧ i = (k : Int) ∧ k ≤ n ∧ Q o V ∧ (Cl n es o ∨ cf o + k + 1 ≤ n), ⟨n, 0, _, rfl, rfl, by omega, hq4, .inr (by omega)⟩, ?_⟩
  rintro m i w5 ⟨k, o0, rfl, rfl, hk, hq5, hpr⟩
  refine ⟨fun hlt => ?_, fun hge => ?_⟩
  · refine ⟨fun m i V => ∃ (a : Nat) (o : List Bool), m = n - a ∧ i = (a : Int) ∧ a ≤ n ∧ Q o V ∧ Z o0 o ∧ ∀ a', a' < a → gb o0 a' = true → ∀ b, b < n → 0 < W es a' b → gb o b = true, ⟨n, 0, o0, rfl, rfl, by omega, hq5, ⟨fun _ => rfl, .inl rfl, fun _ h => h⟩, fun a' h => absurd h (by omega)⟩, ?_⟩
    rintro m i w6 ⟨a, o, rfl, rfl, ha, hq6, hz, hdone⟩
    refine ⟨fun hlta => ?_, fun hgea => ?_⟩
    · refine ⟨fun m i V => ∃ (b : Nat) (o : List Bool), m = n - b ∧ i = (b : Int) ∧ b ≤ n ∧ Q o V ∧ Z o0 o ∧ (∀ a', a' < a → gb o0 a' = true → ∀ b, b < n → 0 < W es a' b → gb o b = true) ∧ (gb o0 a = true → ∀ b', b' < b → 0 < W es a b' → gb o b' = true), ⟨n, 0, o, rfl, rfl, by omega, hq6, hz, hdone, fun _ b' h => absurd h (by omega)⟩, ?_⟩
      clear hq6 hz hdone hq5
      rintro m i w7 ⟨b, o, rfl, rfl, hb, hq7, hz, hdone, hnow⟩
      refine ⟨fun hltb => ?_, fun hgeb => ?_⟩
      · have ld := bld hq7.2.1 (i := (a : Int)) (by omega) (by have := hq7.1; omega)
        simp only [Int.toNat_natCast] at ld
        refine ⟨ix_some (by omega) (by omega), gb o a, ld, fun hx => ?_, fun hx => ⟨in64 (by omega), n - (b + 1), by omega, b + 1, o, rfl, by omega, by omega, hq7, hz, hdone, fun h => absurd (hz.2.2 a h) hx⟩⟩
        have hstep : ∀ {V V' : World}, Q o V → (a ≠ b → 0 < W es a b) → V' = V.setCell (ixA (some ⟨g3, 0, none⟩) (b : Int) 1) (.bool true) → Q (o.set b true) V' ∧ Z o0 (o.set b true) ∧ (∀ a', a' < a → gb o0 a' = true → ∀ b', b' < n → 0 < W es a' b' → gb (o.set b true) b' = true) ∧ (gb o0 a = true → ∀ b', b' < b + 1 → 0 < W es a b' → gb (o.set b true) b' = true) := by
          intro V V' hq hW e
          have hbl : b < o.length := by have := hq.1; omega
          have hup : ∀ x, gb o x = true → gb (o.set b true) x = true := fun x h => by rw [gb_set hbl]; split <;> first | rfl | exact h
          have hrb : root (joinedF es) b = root (joinedF es) v := by
            have h1 := hq.2.2.2.2 a (by omega) hx
            by_cases eab : a = b
            · rw [← eab]; exact h1
            · rw [← root_W hE hn1 hn12 (hW eab)]; exact h1
          refine ⟨hsetQ hq (by omega) hrb e, ⟨fun hcl => ?_, ?_, fun x h => hup x (hz.2.2 x h)⟩, fun a' h1 h2 b' h3 h4 => hup _ (hdone a' h1 h2 b' h3 h4), fun h1 b' h2 h3 => ?_⟩
          · have e0 := hz.1 hcl
            subst e0
            refine set_same ?_
            by_cases eab : a = b
            · rw [← eab]; exact hx
            · exact hcl a b (by omega) (by omega) hx (hW eab)
          · cases hob : gb o b with
            | true => rw [set_same hob]; exact hz.2.1
            | false =>
              have := cf_set hbl hob
              rcases hz.2.1 with h | h
              · right; rw [← h]; omega
              · right; omega
          · by_cases e2 : b' = b
            · subst e2; rw [gb_set hbl, if_pos rfl]
            · exact hup _ (hnow h1 b' (by omega) h3)
        have hpass : ¬ 0 < W es a b → (gb o0 a = true → ∀ b', b' < b + 1 → 0 < W es a b' → gb o b' = true) := fun h h1 b' h2 h3 => by
          by_cases e2 : b' = b
          · subst e2; exact absurd h3 h
          · exact hnow h1 b' (by omega) h3
        by_cases eab : a = b
        · subst eab
          refine (r08_between A es c n a a w7 (he.keep hq7.2.2.1) hl).mono ?_
          rintro _ w8 ⟨rfl, p8⟩
          have hq8 := hkeepQ hq7 p8
          refine ⟨_, rfl, p8.kp (by simp), fun h => ⟨ix_some (by omega) (by omega), bwr hq8.2.1 (by omega) (by have := hq8.1; omega), by rw [ixA_one]; simp; omega, fun w9 e9 => ?_⟩, fun h => ⟨in64 (by omega), n - (a + 1), by omega, a + 1, o, rfl, by omega, by omega, hq8, hz, hdone, hpass (by rw [show W es a a = 0 from W_self es a]; omega)⟩⟩
          obtain ⟨s1, s2, s3, s4⟩ := hstep hq8 (fun h => absurd rfl h) e9
          exact ⟨in64 (by omega), n - (a + 1), by omega, a + 1, _, rfl, by omega, by omega, s1, s2, s3, s4⟩
        · refine (r08_betw A es c n a b w7 (he.keep hq7.2.2.1) hl hg eab).mono ?_
          rintro _ w8 ⟨rfl, p8⟩
          have hq8 := hkeepQ hq7 p8
          refine ⟨_, rfl, p8.kp (by simp), fun h => ⟨ix_some (by omega) (by omega), bwr hq8.2.1 (by omega) (by have := hq8.1; omega), by rw [ixA_one]; simp; omega, fun w9 e9 => ?_⟩, fun h => ⟨in64 (by omega), n - (b + 1), by omega, b + 1, o, rfl, by omega, by omega, hq8, hz, hdone, hpass h⟩⟩
          obtain ⟨s1, s2, s3, s4⟩ := hstep hq8 (fun _ => h) e9
          exact ⟨in64 (by omega), n - (b + 1), by omega, b + 1, _, rfl, by omega, by omega, s1, s2, s3, s4⟩
      · have hbn : b = n := by omega
        subst hbn
        refine ⟨in64 (by omega), b - (a + 1), by omega, a + 1, o, rfl, by omega, by omega, hq7, hz, fun a' h1 h2 b' h3 h4 => ?_⟩
        by_cases e2 : a' = a
        · subst e2; exact hnow h2 b' h3 h4
        · exact hdone a' (by omega) h2 b' h3 h4
    · have han : a = n := by omega
      subst han
      refine ⟨in64 (by omega), a - (k + 1), by omega, k + 1, o, rfl, by omega, by omega, hq6, ?_⟩
      by_cases hcl : Cl a es o0
      · rw [hz.1 hcl]; exact .inl hcl
      · rcases hz.2.1 with h | h
        · exfalso
          subst h
          exact hcl fun x y hx hy h1 h2 => hdone x hx h1 y hy h2
        · rcases hpr with h2 | h2
          · exact absurd h2 hcl
          · right; omega
  · have hkn : k = n := by omega
    subst hkn
    rcases hpr with h | h
    · exact ⟨g3, o0, rfl, trivial, trivial, by omega, hq5.2.1, hq5.1, hq5.2.2.1, cl_root hE hn1 hn12 h hv hq5.2.2.2.1 hq5.2.2.2.2⟩
    · omega
end Go.Proofs.Ytnhmeckhlajeaaa
