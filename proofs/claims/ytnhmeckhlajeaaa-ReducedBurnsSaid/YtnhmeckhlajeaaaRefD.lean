/- The references: Parts, Connected; Joined, Sink, Given, Debt. -/
import Derived.Test.YtnhmeckhlajeaaaRefC
namespace Go.Proofs.Ytnhmeckhlajeaaa
open Go Go.RowKit Go.Shelf
set_option linter.unusedVariables false
set_option linter.unusedSectionVars false
set_option linter.unusedSimpArgs false

theorem r08_parts (A : Option Addr) (es : List E3) (c : Nat) (n : Nat) (w : World) (he : Edges w A es) (hl : es.length ≤ 1000000000) (hg : gcheckF n es = 0) :
    Calls Try.prog 155 #[.agg #[.int .i64 (n : Int), .slice A es.length c]] w fun e w' => ∃ k : Int, e = .returned (.int .i64 k) ∧ (k = 1 ↔ connF n es = true) ∧ Pure w w' := by
  refine ok_r08_Parts (n : Int) A es.length c w (fun k w' => (k = 1 ↔ connF n es = true) ∧ Pure w w') ?_
  obtain ⟨hE, hn1, hn12⟩ := gcheck_ok hg
  have hcr := conn_root hE hn1 hn12
  generalize hRF : (fun v => root (joinedF es) v) = rt at *
  have hrt : ∀ v, root (joinedF es) v = rt v := fun v => by rw [← hRF]
  unfold sh_r08_Parts
  intro g2 w2 hN
  have p2 : Pure w w2 := hN.keeps _
  have gs := hN.size
  have ga := hN.at_
  refine ⟨by omega, fun g3 w3 hN3 => ?_⟩
  simp only [Int.toNat_natCast] at hN3 ⊢
  have gs3 := hN3.size
  have ga3 := hN3.at_
  have hb3 := new_brow hN3
  have p3 : Pure w w3 := p2.trans (hN3.keeps _)
  refine ⟨fun m k i V => ∃ (v : Nat) (o : List Bool), m = n - v ∧ i = (v : Int) ∧ v ≤ n ∧ 0 ≤ k ∧ k ≤ v ∧ (v = 0 → k = 0) ∧ (0 < v → 1 ≤ k ∧ (k = 1 ↔ ∀ x, x < v → rt x = rt 0)) ∧ o.length = n ∧ BRow V g3 4 n o ∧ (∀ u, u < n → (gb o u = true ↔ ∃ x, x < v ∧ rt u = rt x)) ∧ Pure w V, ⟨n, 0, List.replicate n false, rfl, rfl, by omega, by omega, by omega, fun _ => rfl, fun h => absurd h (by omega), by simp, hb3, fun u _ => by rw [gb_rep]; simp, p3⟩, ?_⟩
  rintro m k i w4 ⟨v, o, rfl, rfl, hv, k0, k1, k2, k3, hol, hb4, hseen, p4⟩
  refine ⟨fun hlt => ?_, fun hge => ?_⟩
  · have hlt : v < n := by omega
    have ld := bld hb4 (i := (v : Int)) (by omega) (by omega)
    simp only [Int.toNat_natCast] at ld
    refine ⟨ix_some (by omega) (by omega), gb o v, ld, fun hx => ?_, fun hx => ?_⟩
    · obtain ⟨x, hxv, hxr⟩ := (hseen v hlt).1 hx
      refine ⟨in64 (by omega), n - (v + 1), by omega, v + 1, o, rfl, by omega, by omega, k0, by omega, fun h => absurd h (by omega), fun _ => ?_, hol, hb4, fun u hu => ?_, p4⟩
      · have h3 := k3 (by omega)
        refine ⟨h3.1, ?_⟩
        rw [h3.2]
        constructor
        · intro h y hy
          by_cases e : y = v
          · subst e; rw [hxr]; exact h x hxv
          · exact h y (by omega)
        · intro h y hy; exact h y (by omega)
      · rw [hseen u hu]
        constructor
        · rintro ⟨y, hy, hyr⟩; exact ⟨y, by omega, hyr⟩
        · rintro ⟨y, hy, hyr⟩
          by_cases e : y = v
          · subst e; exact ⟨x, hxv, hyr.trans hxr⟩
          · exact ⟨y, by omega, hyr⟩
    · refine ⟨in64 (by omega), (r08_reached A es c n v w4 (he.keep p4) hl hg hlt).mono ?_⟩
      rintro _ w5 ⟨gr, ro, rfl, hgr, hbr, hrl, p5, hro⟩
      have q5 := p4.trans p5
      have hb5 := p5.row hb4 id
      have l5 := Row.lt hb4
      refine ⟨_, _, _, rfl, p5.kp (by simp), fun m i V => ∃ (u : Nat) (o' : List Bool), m = n - u ∧ i = (u : Int) ∧ u ≤ n ∧ o'.length = n ∧ BRow V g3 4 n o' ∧ BRow V gr 4 n ro ∧ (∀ x, x < n → (gb o' x = true ↔ (gb o x = true ∨ (x < u ∧ gb ro x = true)))) ∧ Pure w V, ⟨n, 0, o, rfl, rfl, by omega, hol, hb5, hbr, fun x _ => by simp, q5⟩, ?_⟩
      rintro m i w6 ⟨u, o', rfl, rfl, hu, hol', hb6, hbr6, hor, p6⟩
      refine ⟨fun hltu => ?_, fun hgeu => ?_⟩
      · have hltu : u < n := by omega
        have ld6 := bld hb6 (i := (u : Int)) (by omega) (by omega)
        simp only [Int.toNat_natCast] at ld6
        have st : ∀ (b : Bool) (w7 : World), w7 = w6.setCell (ixA (some ⟨g3, 0, none⟩) (u : Int) 1) (.bool b) → (b = true ↔ (gb o u = true ∨ gb ro u = true)) → ∃ m4, m4 < n - u ∧ ∃ (u_1 : Nat) (o' : List Bool), m4 = n - u_1 ∧ (u : Int) + 1 = (u_1 : Int) ∧ u_1 ≤ n ∧ o'.length = n ∧ BRow w7 g3 4 n o' ∧ BRow w7 gr 4 n ro ∧ (∀ x, x < n → (gb o' x = true ↔ (gb o x = true ∨ (x < u_1 ∧ gb ro x = true)))) ∧ Pure w w7 := by
          rintro b w7 rfl hbb
          refine ⟨n - (u + 1), by omega, u + 1, o'.set u b, rfl, by omega, by omega, by simpa using hol', by simpa using bst hb6 (u : Int) b, Row.far_ hbr6 (by omega) _ _, fun x hx => ?_, by rw [ixA_one]; exact p6.setCell (fun h => absurd h (by simp; omega)) _⟩
          rw [gb_set (by omega)]
          by_cases e : x = u
          · subst e
            rw [if_pos rfl, hbb]
            constructor
            · rintro (h | h)
              · exact .inl h
              · exact .inr ⟨by omega, h⟩
            · rintro (h | h)
              · exact .inl h
              · exact .inr h.2
          · rw [if_neg e, hor x hx]
            constructor
            · rintro (h | h)
              · exact .inl h
              · exact .inr ⟨by omega, h.2⟩
            · rintro (h | h)
              · exact .inl h
              · exact .inr ⟨by omega, h.2⟩
        have hou := hor u hltu
        refine ⟨ix_some (by omega) (by omega), gb o' u, ld6, fun hx2 => ⟨ix_some (by omega) (by omega), bwr hb6 (by omega) (by omega), by rw [ixA_one]; simp; omega, fun w7 e7 => ⟨in64 (by omega), st true w7 e7 ?_⟩⟩, fun hx2 => ?_⟩
        · have := hou.1 hx2
          constructor
          · intro _; rcases this with h | h
            · exact .inl h
            · exact .inr h.2
          · intro _; rfl
        · have ldr := bld hbr6 (i := (u : Int)) (by omega) (by omega)
          simp only [Int.toNat_natCast] at ldr
          refine ⟨ix_some (by omega) (by omega), gb ro u, ldr, ix_some (by omega) (by omega), bwr hb6 (by omega) (by omega), by rw [ixA_one]; simp; omega, fun w7 e7 => ⟨in64 (by omega), st _ w7 e7 ?_⟩⟩
          constructor
          · intro h; exact .inr h
          · rintro (h | h)
            · exact absurd (hou.2 (.inl h)) hx2
            · exact h
      · have hun : u = n := by omega
        subst hun
        have hnew : ¬ ∃ x, x < v ∧ rt v = rt x := fun h => hx ((hseen v hlt).2 h)
        refine ⟨in64 (by omega), u - (v + 1), by omega, v + 1, o', rfl, by omega, by omega, by omega, by omega, fun h => absurd h (by omega), fun _ => ⟨by omega, ?_⟩, hol', hb6, fun x hxn => ?_, p6⟩
        · by_cases e0 : v = 0
          · subst e0
            have := k2 rfl
            subst this
            constructor
            · intro _ y hy; rw [show y = 0 by omega]
            · intro _; rfl
          · have h3 := k3 (by omega)
            constructor
            · intro h; omega
            · intro h; exact absurd ⟨0, by omega, h v (by omega)⟩ hnew
        · rw [hor x hxn, hseen x hxn, hro x hxn, decide_eq_true_eq, hrt, hrt]
          constructor
          · rintro (⟨y, hy, hyr⟩ | h)
            · exact ⟨y, by omega, hyr⟩
            · exact ⟨v, by omega, h.2⟩
          · rintro ⟨y, hy, hyr⟩
            by_cases e : y = v
            · subst e; exact .inr ⟨hxn, hyr⟩
            · exact .inl ⟨y, by omega, hyr⟩
  · have hvn : v = n := by omega
    subst hvn
    refine ⟨?_, p4⟩
    rw [(k3 (by omega)).2, hcr]
    simp only [hrt]

theorem r08_connected (A : Option Addr) (es : List E3) (c : Nat) (n : Nat) (w : World) (he : Edges w A es) (hl : es.length ≤ 1000000000) (hg : gcheckF n es = 0) :
    Calls Try.prog 121 #[.agg #[.int .i64 (n : Int), .slice A es.length c]] w fun e w' => e = .returned (.bool (connF n es)) ∧ Pure w w' := by
  refine (ok_r08_Connected (n : Int) A es.length c w (fun r w' => r = connF n es ∧ Pure w w') ?_).mono (by rintro e w' ⟨r, rfl, rfl, p⟩; exact ⟨rfl, p⟩)
  unfold sh_r08_Connected
  intro g w2 hN
  have p2 : Pure w w2 := hN.keeps _
  refine (r08_parts A es c n w2 (he.keep p2) hl hg).mono ?_
  rintro _ w3 ⟨k, rfl, hk, p3⟩
  refine ⟨_, rfl, p3.kp (by simp), ?_, p2.trans p3⟩
  rw [Bool.eq_iff_iff, decide_eq_true_eq]; exact hk
def joinedE (n : Int) (es : List E3) : Int := if gcheckF n es = 0 then (if connF n es = true then 0 else 13) else gcheckF n es
theorem r25_joined (A : Option Addr) (es : List E3) (c : Nat) (n : Int) (w : World) (he : Edges w A es) (hl : es.length ≤ 1000000000) :
    Calls Try.prog 70 #[.agg #[.int .i64 n, .slice A es.length c]] w fun e w' => e = .returned (.int .i64 (joinedE n es)) ∧ Pure w w' := by
  refine (ok_r25_Joined n A es.length c w (fun r w' => r = joinedE n es ∧ Pure w w') ?_).mono (by rintro e w' ⟨r, rfl, rfl, p⟩; exact ⟨rfl, p⟩)
  unfold sh_r25_Joined joinedE
  intro g w2 hN
  have p2 : Pure w w2 := hN.keeps _
  refine (r08_check A es c n w2 (he.keep p2) hl).mono ?_
  rintro _ w3 ⟨rfl, p3⟩
  have q3 := p2.trans p3
  refine ⟨_, rfl, p3.kp (by simp), fun h0 => ?_, fun h0 => ⟨by rw [if_neg h0], q3⟩⟩
  obtain ⟨n, rfl⟩ : ∃ n' : Nat, n = (n' : Int) := ⟨n.toNat, by unfold gcheckF at h0; split at h0 <;> omega⟩
  refine (r08_connected A es c n w3 (he.keep q3) hl h0).mono ?_
  rintro _ w4 ⟨rfl, p4⟩
  refine ⟨_, rfl, p4.kp (by simp), fun h => ⟨by rw [if_pos h0, if_pos h], q3.trans p4⟩, fun h => ⟨by rw [if_pos h0, if_neg h], q3.trans p4⟩⟩
theorem r34_given (A D : Option Addr) (es : List E3) (d : List Int) (c cd : Nat) (n q : Int) (w : World) (he : Edges w A es) (hl : es.length ≤ 1000000000) (hd : Ints w D d) (hdl : d.length ≤ 1000000000) :
    Calls Try.prog 24 #[.agg #[.int .i64 n, .slice A es.length c], .int .i64 q, .slice D d.length cd] w fun e w' => e = .returned (.int .i64 (givenF n es q d)) ∧ Pure w w' := by
  have hsink : ∀ w, Edges w A es → Calls Try.prog 71 #[.agg #[.int .i64 n, .slice A es.length c], .int .i64 q] w fun e w' => e = .returned (.int .i64 (if joinedE n es = 0 then (if 0 ≤ q ∧ q < n then 0 else 2) else joinedE n es)) ∧ Pure w w' := by
    intro w he
    refine (ok_r25_Sink n A es.length c q w (fun r w' => r = (if joinedE n es = 0 then (if 0 ≤ q ∧ q < n then 0 else 2) else joinedE n es) ∧ Pure w w') ?_).mono (by rintro e w' ⟨r, rfl, rfl, p⟩; exact ⟨rfl, p⟩)
    unfold sh_r25_Sink
    intro g w2 hN
    have p2 : Pure w w2 := hN.keeps _
    refine (r25_joined A es c n w2 (he.keep p2) hl).mono ?_
    rintro _ w3 ⟨rfl, p3⟩
    have q3 := p2.trans p3
    refine ⟨_, rfl, p3.kp (by simp), fun h0 => ?_, fun h0 => ⟨by rw [if_neg h0], q3⟩⟩
    refine (r08_vertex A es.length c n q w3).mono ?_
    rintro _ w4 ⟨rfl, p4⟩
    refine ⟨_, rfl, p4.kp (by simp), fun h => ⟨by rw [if_pos h0, if_pos (by simpa using h)], q3.trans p4⟩, fun h => ⟨by rw [if_pos h0, if_neg (by simpa using h)], q3.trans p4⟩⟩
  refine (ok_r34_Given n A es.length c q D d.length cd w (fun r w' => r = givenF n es q d ∧ Pure w w') ?_).mono (by rintro e w' ⟨r, rfl, rfl, p⟩; exact ⟨rfl, p⟩)
  unfold sh_r34_Given
  intro g w2 hN
  have p2 : Pure w w2 := hN.keeps _
  refine (hsink w2 (he.keep p2)).mono ?_
  rintro _ w3 ⟨rfl, p3⟩
  have q3 := p2.trans p3
  have hG : givenF n es q d = if (if joinedE n es = 0 then (if 0 ≤ q ∧ q < n then 0 else 2) else joinedE n es) = 0 then checkF d n else (if joinedE n es = 0 then (if 0 ≤ q ∧ q < n then 0 else 2) else joinedE n es) := by
    unfold givenF joinedE
    by_cases h1 : gcheckF n es = 0
    · by_cases h2 : connF n es = true
      · by_cases h3 : 0 ≤ q ∧ q < n
        · simp [h1, h2, h3]
        · simp only [if_pos h1, if_pos h2, if_neg h3, if_true]; simp
      · simp [h1, h2]
    · simp [h1]
  rw [hG]
  refine ⟨_, rfl, p3.kp (by simp), fun h0 => ?_, fun h0 => ⟨by rw [if_neg h0], q3⟩⟩
  refine (r17_check D d cd n w3 (hd.keep q3) hdl).mono ?_
  rintro _ w4 ⟨rfl, rfl⟩
  exact ⟨_, rfl, Kp.refl _ _, by rw [if_pos h0], q3⟩
theorem r34_debt (D : Option Addr) (d : List Int) (cd : Nat) (q : Int) (w : World) (hd : Ints w D d) (hdl : d.length ≤ 1000000000) :
    Calls Try.prog 28 #[.slice D d.length cd, .int .i64 q] w fun e w' => e = .returned (.bool (owesF q d)) ∧ w = w' := by
  refine (ok_r34_Debt D d.length cd q w (fun r w' => r = owesF q d ∧ w = w') ?_).mono (by rintro e w' ⟨r, rfl, rfl, p⟩; exact ⟨rfl, p⟩)
  unfold sh_r34_Debt
  refine ⟨fun m i V => ∃ k : Nat, m = d.length - k ∧ i = (k : Int) ∧ k ≤ d.length ∧ (∀ j, j < k → ¬ ((j : Int) ≠ q ∧ gi d j < 0)) ∧ w = V, ⟨d.length, 0, rfl, rfl, by omega, fun j hj => absurd hj (by omega), rfl⟩, ?_⟩
  rintro m i w2 ⟨k, rfl, rfl, hk, hinv, rfl⟩
  have hnext : ¬ ((k : Int) ≠ q ∧ gi d k < 0) → ∀ j, j < k + 1 → ¬ ((j : Int) ≠ q ∧ gi d j < 0) := fun h j hj => by
    by_cases e : j = k
    · subst e; exact h
    · exact hinv j (by omega)
  refine ⟨fun hlt => ⟨fun h => ⟨in64 (by omega), d.length - (k + 1), by omega, k + 1, rfl, by omega, by omega, hnext (fun x => x.1 h), rfl⟩, fun h => ?_⟩, fun hge => ?_⟩
  · have ld := ints_ld hd (i := (k : Int)) (by omega) (by omega)
    simp only [Int.toNat_natCast] at ld
    refine ⟨ints_ix hd rfl (by omega) (by omega), _, ld, fun hx => ⟨?_, rfl⟩, fun hx => ⟨in64 (by omega), d.length - (k + 1), by omega, k + 1, rfl, by omega, by omega, hnext (fun x => hx x.2), rfl⟩⟩
    symm
    unfold owesF
    rw [List.any_eq_true]
    exact ⟨k, by simp; omega, by simp; exact ⟨h, hx⟩⟩
  · refine ⟨?_, rfl⟩
    symm
    unfold owesF
    rw [List.any_eq_false]
    intro j hj
    simp only [List.mem_range] at hj
    have := hinv j (by omega)
    simpa using this
end Go.Proofs.Ytnhmeckhlajeaaa
