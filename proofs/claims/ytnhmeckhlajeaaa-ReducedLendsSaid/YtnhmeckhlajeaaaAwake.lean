/- The chapter's examples come out right. -/
import Derived.Test.YtnhmeckhlajeaaaRing
import Derived.Test.YtnhmeckhlajeaaaSd
import Derived.Test.YtnhmeckhlajeaaaSlices
namespace Go.Proofs.Ytnhmeckhlajeaaa
open Go Go.RowKit Go.Shelf
set_option linter.unusedVariables false
set_option linter.unusedSectionVars false
set_option linter.unusedSimpArgs false

theorem reduces_eq {n : Nat} {es : List E3} {q : Nat} {d a s a' s' : List Int} (hE : EOk n es) (hq : q < n) (h : Reduces n es q d a s) (dl : a'.length = n) (sl : s'.length = n)
    (lp : ∀ v, v < n → gi a' v = gi d v - Lp n es (gi s') v) (sq : gi s' q = 0) (hR : Red n es q a') : a = a' ∧ s = s' := by
  have hL : ∀ (x y : Nat → Int) v, v < n → Lp n es (fun i => x i - y i) v = Lp n es x v - Lp n es y v := fun x y v hv => by
    have h1 := Lp_add (n := n) (es := es) (fun i => x i - y i) y v
    have h2 := Lp_congr (n := n) (es := es) (a := fun i => x i - y i + y i) (b := x) (fun i _ => by show x i - y i + y i = x i; omega) hv
    omega
  have h1 := red_script hE hq h.red hR.pos (f := fun v => gi s' v - gi s v) (fun v hv => by rw [hL _ _ v hv, lp v hv, h.lp v hv]; omega)
  have h2 := red_script hE hq hR h.red.pos (f := fun v => gi s v - gi s' v) (fun v hv => by rw [hL _ _ v hv, lp v hv, h.lp v hv]; omega)
  have hsq := h.sq
  have hs : ∀ v, v < n → gi s v = gi s' v := fun v hv => by
    have a1 : gi s' v - gi s v ≤ gi s' q - gi s q := h1 v hv
    have a2 : gi s v - gi s' v ≤ gi s q - gi s' q := h2 v hv
    omega
  have hss : s = s' := gi_ext (by rw [h.sl, sl]) (fun k hk => hs k (by rw [h.sl] at hk; exact hk))
  refine ⟨gi_ext (by rw [h.dl, dl]) (fun k hk => ?_), hss⟩
  rw [h.dl] at hk
  rw [lp k hk, h.lp k hk, hss]

/-- The set that a fire leaves is the greatest that can fire. -/
theorem burns_left {n : Nat} {es : List E3} {q : Nat} {d : List Int} {burnt : List Bool} (hE : EOk n es) (hq : q < n) (hB : Burns n es q d burnt) (T : Nat → Bool) (hT0 : T q = false)
    (hT : ∀ v, v < n → T v = true → sm n (fun u => if T u then 0 else W es v u) ≤ gi d v)
    (hmax : ∀ S : Nat → Bool, S q = false → (∀ v, v < n → S v = true → sm n (fun u => if S u then 0 else W es v u) ≤ gi d v) → ∀ v, v < n → S v = true → T v = true) :
    ∀ v, v < n → gb (leftOf burnt) v = T v := by
  have conv : ∀ (S : Nat → Bool) (v : Nat), joinsF es (v : Int) (fun u => !S u.toNat) = sm n (fun u => if S u then 0 else W es v u) := fun S v => by
    rw [joins_sum hE]
    refine sm_congr fun u hu => ?_
    simp only [Int.toNat_natCast]
    by_cases hs : S u = true
    · simp [hs]
    · simp [hs]
  intro v hv
  cases hTv : T v with
  | true =>
    have := hB.forced T hT0 (fun x hx hTx => by rw [conv]; exact hT x hx hTx) v hv hTv
    rw [gb_left hB.len hv, this]; rfl
  | false =>
    cases hl : gb (leftOf burnt) v with
    | false => rfl
    | true =>
      exfalso
      have := hmax (gb (leftOf burnt)) (by rw [gb_left hB.len hq, hB.at_q]; rfl) (fun x hx hSx => by
        have h1 := hB.closed x hx (by rw [gb_left hB.len hx] at hSx; simpa using hSx)
        rw [joins_sum hE] at h1
        refine Int.le_trans (Int.le_of_eq (sm_congr fun u hu => ?_)) h1
        rw [gb_left hB.len hu, Int.toNat_natCast]
        by_cases c : gb burnt u = true
        · simp [c]
        · simp [c]) v hv hl
      rw [hTv] at this; cases this

def es3 : List E3 := [(0, 1, 1), (0, 2, 1), (1, 2, 1)]
theorem ring_ok : EOk 3 es3 := (gcheck_ok (n := 3) (es := es3) (by decide)).1
theorem sm3 (f : Nat → Int) : sm 3 f = f 0 + f 1 + f 2 := by simp [sm]
theorem W3 : W es3 0 0 = 0 ∧ W es3 0 1 = 1 ∧ W es3 0 2 = 1 ∧ W es3 1 0 = 1 ∧ W es3 1 1 = 0 ∧ W es3 1 2 = 1 ∧ W es3 2 0 = 1 ∧ W es3 2 1 = 1 ∧ W es3 2 2 = 0 := by decide
theorem lt3 {P : Nat → Prop} (h0 : P 0) (h1 : P 1) (h2 : P 2) : ∀ v, v < 3 → P v := fun v hv => by
  match v, hv with
  | 0, _ => exact h0
  | 1, _ => exact h1
  | 2, _ => exact h2
theorem ring_red : Red 3 es3 0 [0, 0, 1] := by
  obtain ⟨w00, w01, w02, w10, w11, w12, w20, w21, w22⟩ := W3
  refine ⟨lt3 (by simp) (by intro _; decide) (by intro _; decide), fun S hS ⟨v, hv, hSv⟩ => ?_⟩
  simp only [sm3]
  cases h1 : S 1 <;> cases h2 : S 2
  · exfalso
    revert hSv
    revert v
    exact lt3 (by simp [hS]) (by simp [h1]) (by simp [h2])
  · exact ⟨2, by omega, h2, by simp [hS, h1, h2, w20, w21, w22, gi]⟩
  · exact ⟨1, by omega, h1, by simp [hS, h1, h2, w10, w11, w12, gi]⟩
  · exact ⟨1, by omega, h1, by simp [hS, h1, h2, w10, w11, w12, gi]⟩
theorem ring_lp (s : List Int) : Lp 3 es3 (gi s) 0 = 2 * gi s 0 - gi s 1 - gi s 2 ∧ Lp 3 es3 (gi s) 1 = 2 * gi s 1 - gi s 0 - gi s 2 ∧ Lp 3 es3 (gi s) 2 = 2 * gi s 2 - gi s 0 - gi s 1 := by
  obtain ⟨w00, w01, w02, w10, w11, w12, w20, w21, w22⟩ := W3
  unfold Lp
  simp only [sm3, w00, w01, w02, w10, w11, w12, w20, w21, w22]
  omega
theorem ring_small (d : List Int) (h : ∀ v : Nat, (v : Int) < 3 → -200 ≤ gi d v ∧ gi d v ≤ 200) : Small 3 es3 d := ⟨by decide, fun _ => by decide, fun _ => h⟩

theorem ring_edges {w : World} {g : Nat} (h : Row w g 117 9 [.int .i64 0, .int .i64 1, .int .i64 1, .int .i64 0, .int .i64 2, .int .i64 1, .int .i64 1, .int .i64 2, .int .i64 1]) : Edges w (some ⟨g, 0, none⟩) es3 := fun _ =>
  ⟨g, 0, rfl, Row.lt h, lt3 ⟨h.cell rfl, h.cell rfl, h.cell rfl⟩ ⟨h.cell rfl, h.cell rfl, h.cell rfl⟩ ⟨h.cell rfl, h.cell rfl, h.cell rfl⟩⟩
theorem new_ints {w w' : World} {g : Nat} (l : List Int) {cs : Array Value} (h : New w g w' cs 3) (hc : cs = (l.map (Value.int .i64)).toArray) : Ints w' (some ⟨g, 0, none⟩) l := by
  subst hc
  have hr := h.row
  exact fun _ => ⟨g, 0, rfl, Row.lt hr, fun k hk => by
    have := Row.cell hr (i := k) (v := .int .i64 (gi l k)) (by simp [List.getElem?_eq_getElem hk, gi_of_lt hk])
    simpa using this⟩

theorem ring_reduce (A D : Option Addr) (cap cd : Nat) (w : World) (d : List Int) (hl : d.length = 3) (he : Edges w A es3) (hd : Ints w D d) (hb : ∀ v : Nat, (v : Int) < 3 → -200 ≤ gi d v ∧ gi d v ≤ 200) (hg : givenF 3 es3 0 d = 0) (s' : List Int) (sl : s'.length = 3)
    (lp : ∀ v, v < 3 → gi [0, 0, 1] v = gi d v - Lp 3 es3 (gi s') v) (sq : gi s' 0 = 0) :
    Calls Try.prog 17 #[.agg #[.int .i64 3, .slice A 3 cap], .int .i64 0, .slice D 3 cd] w fun e w' => ∃ A1 c1 A2 c2, e = .returned (.tuple #[.slice A1 3 c1, .slice A2 3 c2, .int .i64 0]) ∧ Ints w' A1 [0, 0, 1] ∧ Ints w' A2 s' ∧ Pure w w' := by
  have h := reduce_any A D es3 d cap cd 3 0 w he hd (by omega) (ring_small d hb)
  rw [hl] at h
  refine h.mono ?_
  rintro e w1 ⟨A1, l1, c1, A2, l2, c2, er, rfl, p, rfl, h1, h2⟩
  obtain ⟨gd, gs, cd', cs', d', s2, hP, hr, -, -, -⟩ := h2 hg
  obtain ⟨rfl, rfl⟩ := reduces_eq ring_ok (by decide) hP (a' := [0, 0, 1]) (s' := s') rfl sl lp sq ring_red
  obtain ⟨rfl, r2, rfl, rfl, r5, rfl, row1, row2⟩ := hr
  rw [r2, r5, hg]
  exact ⟨_, _, _, _, rfl, IRow.ints row1, IRow.ints row2, p⟩

theorem ring_unburnt (A D : Option Addr) (cap cd : Nat) (w : World) (d : List Int) (hl : d.length = 3) (he : Edges w A es3) (hd : Ints w D d) (hg : givenF 3 es3 0 d = 0) (ho : owesF 0 d = false) (T : Nat → Bool) (hT0 : T 0 = false)
    (hT : ∀ v, v < 3 → T v = true → sm 3 (fun u => if T u then 0 else W es3 v u) ≤ gi d v)
    (hmax : ∀ S : Nat → Bool, S 0 = false → (∀ v, v < 3 → S v = true → sm 3 (fun u => if S u then 0 else W es3 v u) ≤ gi d v) → ∀ v, v < 3 → S v = true → T v = true) (out : List Int)
    (hout : ∀ left, (∀ v, v < 3 → gb left v = T v) → setF left 3 = out) :
    Calls Try.prog 31 #[.agg #[.int .i64 3, .slice A 3 cap], .int .i64 0, .slice D 3 cd] w fun e w' => ∃ A1 c1, e = .returned (.tuple #[.slice A1 out.length c1, .int .i64 0]) ∧ Ints w' A1 out ∧ Pure w w' := by
  have h := unburntp_any A D es3 d cap cd 3 0 w he hd (by omega) (by decide)
  rw [hl] at h
  refine h.mono ?_
  rintro e w1 ⟨A1, l1, c1, er, rfl, p, rfl, h1, h2⟩
  rw [if_pos hg, if_neg (by rw [ho]; simp)] at h2 ⊢
  obtain ⟨burnt, hB, hoi⟩ := h2 rfl
  have := burns_left ring_ok (by decide) hB T hT0 hT hmax
  have h3 : setF (leftOf burnt) (3 : Int).toNat = out := hout _ this
  rw [h3] at hoi
  obtain ⟨rfl, hi⟩ := hoi.ints
  exact ⟨_, _, rfl, hi, p⟩

theorem ring_lps (d s : List Int) (h0 : gi [0, 0, 1] 0 = gi d 0 - (2 * gi s 0 - gi s 1 - gi s 2)) (h1 : gi [0, 0, 1] 1 = gi d 1 - (2 * gi s 1 - gi s 0 - gi s 2)) (h2 : gi [0, 0, 1] 2 = gi d 2 - (2 * gi s 2 - gi s 0 - gi s 1)) :
    ∀ v, v < 3 → gi [0, 0, 1] v = gi d v - Lp 3 es3 (gi s) v := by
  obtain ⟨a, b, c⟩ := ring_lp s
  exact lt3 (by rw [a]; exact h0) (by rw [b]; exact h1) (by rw [c]; exact h2)
theorem bnds3 (d : List Int) (h0 : -200 ≤ gi d 0 ∧ gi d 0 ≤ 200) (h1 : -200 ≤ gi d 1 ∧ gi d 1 ≤ 200) (h2 : -200 ≤ gi d 2 ∧ gi d 2 ≤ 200) : ∀ v : Nat, (v : Int) < 3 → -200 ≤ gi d v ∧ gi d v ≤ 200 := fun v hv =>
  lt3 (P := fun v => -200 ≤ gi d v ∧ gi d v ≤ 200) h0 h1 h2 v (by omega)
theorem legal3 (S : Nat → Bool) (hS : S 0 = false) (d : List Int) (h : ∀ v, v < 3 → S v = true → sm 3 (fun u => if S u then 0 else W es3 v u) ≤ gi d v) :
    (S 1 = true → (if S 2 then 1 else 2) ≤ gi d 1) ∧ (S 2 = true → (if S 1 then 1 else 2) ≤ gi d 2) := by
  obtain ⟨w00, w01, w02, w10, w11, w12, w20, w21, w22⟩ := W3
  constructor
  · intro h1
    have := h 1 (by omega) h1
    simp only [sm3, hS, h1, w10, w11, w12] at this
    cases h2 : S 2 <;> simp [h2] at this ⊢ <;> exact this
  · intro h1
    have := h 2 (by omega) h1
    simp only [sm3, hS, h1, w20, w21, w22] at this
    cases h2 : S 1 <;> simp [h2] at this ⊢ <;> exact this

theorem awake_any (w : World) : Calls Try.prog 16 #[] w fun e w' => e = .returned (.bool true) ∧ Pure w w' := by
  refine (ok_l34_awake w (fun r w' => r = true ∧ Pure w w') ?_).mono (by rintro e w' ⟨r, rfl, rfl, p⟩; exact ⟨rfl, p⟩)
  unfold sh_l34_awake
  refine (ring_any w).mono ?_
  rintro _ w2 ⟨x1, rfl, hr1, -, p2⟩
  refine ⟨_, _, _, _, rfl, fun g w3 hN3 => ?_⟩
  have p3 : Pure w2 w3 := hN3.keeps _
  refine (ring_reduce _ _ 3 3 w3 [-1, 2, 0] rfl ((ring_edges hr1).keep p3) (new_ints [-1, 2, 0] hN3 rfl) (bnds3 _ (by decide) (by decide) (by decide)) (by decide) [0, 1, 0] rfl (ring_lps _ _ (by decide) (by decide) (by decide)) rfl).mono ?_
  rintro _ w4 ⟨A1, c1, A2, c2, rfl, i1, i2, p4⟩
  refine ⟨_, _, _, _, _, _, _, rfl, (ring_any w4).mono ?_⟩
  rintro _ w5 ⟨x2, rfl, hr2, -, p5⟩
  refine ⟨_, _, _, _, rfl, fun g w6 hN6 => ?_⟩
  have p6 : Pure w5 w6 := hN6.keeps _
  refine (ring_reduce _ _ 3 3 w6 [2, -1, 0] rfl ((ring_edges hr2).keep p6) (new_ints [2, -1, 0] hN6 rfl) (bnds3 _ (by decide) (by decide) (by decide)) (by decide) [0, -1, -1] rfl (ring_lps _ _ (by decide) (by decide) (by decide)) rfl).mono ?_
  rintro _ w7 ⟨A3, c3, A4, c4, rfl, i3, i4, p7⟩
  refine ⟨_, _, _, _, _, _, _, rfl, (ring_any w7).mono ?_⟩
  rintro _ w8 ⟨x3, rfl, hr3, -, p8⟩
  refine ⟨_, _, _, _, rfl, fun g w9 hN9 => ?_⟩
  have p9 : Pure w8 w9 := hN9.keeps _
  obtain ⟨w00, w01, w02, w10, w11, w12, w20, w21, w22⟩ := W3
  refine (ring_unburnt _ _ 3 3 w9 [0, 2, 0] rfl ((ring_edges hr3).keep p9) (new_ints [0, 2, 0] hN9 rfl) (by decide) (by decide) (fun v => v == 1) rfl (lt3 (by simp) (fun _ => by simp [sm3, w10, w11, w12, gi]) (by simp))
    (fun S hS h => by
      obtain ⟨k1, k2⟩ := legal3 S hS _ h
      refine lt3 (by simp [hS]) (by simp) (fun h2 => ?_)
      have := k2 h2
      simp [gi] at this
      split at this <;> omega) [1] (fun left hl => by have a := hl 0 (by omega); have b := hl 1 (by omega); have c := hl 2 (by omega); simp [setF, a, b, c])).mono ?_
  rintro _ w10' ⟨A5, c5, rfl, i5, p10⟩
  refine ⟨_, _, _, _, rfl, (ring_any w10').mono ?_⟩
  rintro _ w11' ⟨x4, rfl, hr4, -, p11⟩
  refine ⟨_, _, _, _, rfl, fun g w12' hN12 => ?_⟩
  have p12 : Pure w11' w12' := hN12.keeps _
  refine (ring_unburnt _ _ 3 3 w12' [0, 1, 1] rfl ((ring_edges hr4).keep p12) (new_ints [0, 1, 1] hN12 rfl) (by decide) (by decide) (fun v => v == 1 || v == 2) rfl (lt3 (by simp) (fun _ => by simp [sm3, w10, w11, w12, gi]) (fun _ => by simp [sm3, w20, w21, w22, gi]))
    (fun S hS h => lt3 (by simp [hS]) (by simp) (by simp)) [1, 2] (fun left hl => by have a := hl 0 (by omega); have b := hl 1 (by omega); have c := hl 2 (by omega); simp [setF, a, b, c])).mono ?_
  rintro _ w13' ⟨A6, c6, rfl, i6, p13⟩
  refine ⟨_, _, _, _, rfl, (ring_any w13').mono ?_⟩
  rintro _ w14' ⟨x5, rfl, hr5, -, p14⟩
  refine ⟨_, _, _, _, rfl, fun g w15' hN15 => ?_⟩
  have p15 : Pure w14' w15' := hN15.keeps _
  refine (ring_unburnt _ _ 3 3 w15' [0, 1, 0] rfl ((ring_edges hr5).keep p15) (new_ints [0, 1, 0] hN15 rfl) (by decide) (by decide) (fun v => false) rfl (fun _ _ h => by cases h)
    (fun S hS h => by
      obtain ⟨k1, k2⟩ := legal3 S hS _ h
      refine lt3 (by simp [hS]) (fun h1 => ?_) (fun h2 => ?_)
      · have e2 : S 2 = false := by
          cases h2 : S 2 with
          | false => rfl
          | true => exfalso; have := k2 h2; simp [h1, gi] at this
        have := k1 h1
        simp [e2, gi] at this
      · exfalso
        have := k2 h2
        simp [gi] at this
        split at this <;> omega) [] (fun left hl => by have a := hl 0 (by omega); have b := hl 1 (by omega); have c := hl 2 (by omega); simp [setF, a, b, c])).mono ?_
  rintro _ w16' ⟨A7, c7, rfl, i7, p16⟩
  have q1 : Pure w4 w16' := p5.trans (p6.trans (p7.trans (p8.trans (p9.trans (p10.trans (p11.trans (p12.trans (p13.trans (p14.trans (p15.trans p16))))))))))
  have q2 : Pure w7 w16' := p8.trans (p9.trans (p10.trans (p11.trans (p12.trans (p13.trans (p14.trans (p15.trans p16)))))))
  have q3 : Pure w10' w16' := p11.trans (p12.trans (p13.trans (p14.trans (p15.trans p16))))
  have q4 : Pure w13' w16' := p14.trans (p15.trans p16)
  have q0 : Pure w w16' := p2.trans (p3.trans (p4.trans q1))
  have i1 := i1.keep q1
  have i2 := i2.keep q1
  have i3 := i3.keep q2
  have i4 := i4.keep q2
  have i5 := i5.keep q3
  have i6 := i6.keep q4
  refine ⟨_, _, _, _, rfl, fun w17 => Pure w16' w17, fun w17 p17 g w18 hN18 => ?_, in64 (by omega), in64 (by omega), in64 (by omega), in64 (by omega), fun _ g w22 hN22 => ?_, fun h => absurd rfl h⟩
  · have p18 : Pure w17 w18 := hN18.keeps _
    refine (equalI_any _ _ [1] [1] _ _ w18 (i5.keep (p17.trans p18)) (new_ints [1] hN18 rfl) (by decide)).mono ?_
    rintro _ w19 ⟨rfl, p19⟩
    refine ⟨_, rfl, fun _ g w20 hN20 => ?_, fun h => absurd (by decide) h⟩
    have p20 : Pure w19 w20 := hN20.keeps _
    refine (equalI_any _ _ [1, 2] [1, 2] _ _ w20 (i6.keep (p17.trans (p18.trans (Keeps.trans p19 p20)))) (new_ints [1, 2] hN20 rfl) (by decide)).mono ?_
    rintro _ w21 ⟨rfl, p21⟩
    exact ⟨_, rfl, fun _ => ⟨by simp, q0.trans (p17.trans (p18.trans (Keeps.trans p19 (p20.trans p21))))⟩, fun h => absurd (by decide) h⟩
  · have p22 : Pure w16' w22 := hN22.keeps _
    refine (equalD_any _ _ [0, 0, 1] [0, 0, 1] _ _ w22 (i1.keep p22) (new_ints [0, 0, 1] hN22 rfl) (by decide)).mono ?_
    rintro _ w23 ⟨rfl, p23⟩
    refine ⟨_, rfl, fun _ g w24 hN24 => ?_, fun h => absurd (by decide) h⟩
    have p24 : Pure w23 w24 := hN24.keeps _
    have r24 : Pure w16' w24 := p22.trans (Keeps.trans p23 p24)
    refine (equalS_any _ _ [0, 1, 0] [0, 1, 0] _ _ w24 (i2.keep r24) (new_ints [0, 1, 0] hN24 rfl) (by decide)).mono ?_
    rintro _ w25 ⟨rfl, p25⟩
    have r25 : Pure w16' w25 := r24.trans p25
    refine ⟨_, rfl, fun _ => ?_, fun h => absurd (by decide) h⟩
    refine (equalD_any _ _ [0, 0, 1] [0, 0, 1] _ _ w25 (i3.keep r25) (i1.keep r25) (by decide)).mono ?_
    rintro _ w26 ⟨rfl, p26⟩
    have r26 : Pure w16' w26 := r25.trans p26
    refine ⟨_, rfl, fun _ g w27 hN27 => ?_, fun h => absurd (by decide) h⟩
    have p27 : Pure w26 w27 := hN27.keeps _
    have r27 : Pure w16' w27 := r26.trans p27
    refine (equalS_any _ _ [0, -1, -1] [0, -1, -1] _ _ w27 (i4.keep r27) (new_ints [0, -1, -1] hN27 rfl) (by decide)).mono ?_
    rintro _ w28 ⟨rfl, p28⟩
    exact ⟨_, rfl, fun _ => r27.trans p28, fun h => absurd (by decide) h⟩
end Go.Proofs.Ytnhmeckhlajeaaa
