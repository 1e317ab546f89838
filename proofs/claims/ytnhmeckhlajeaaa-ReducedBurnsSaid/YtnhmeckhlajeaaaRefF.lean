/- The references: Is, IsReduced, Left, Unburnt. The law ReducedBurns. -/
import Derived.Test.YtnhmeckhlajeaaaRefE
namespace Go.Proofs.Ytnhmeckhlajeaaa
open Go Go.RowKit Go.Shelf
set_option linter.unusedVariables false
set_option linter.unusedSectionVars false
set_option linter.unusedSimpArgs false

theorem r34_is (A D : Option Addr) (es : List E3) (d : List Int) (c cd : Nat) (n q : Nat) (w : World) (he : Edges w A es) (hl : es.length ≤ 1000) (hg : gcheckF n es = 0) (hd : Ints w D d) (hdn : d.length = n) (hq : q < n) :
    Calls Try.prog 77 #[.agg #[.int .i64 (n : Int), .slice A es.length c], .int .i64 (q : Int), .slice D d.length cd] w fun e w' => ∃ r, e = .returned (.bool r) ∧ (r = true ↔ Red n es q d) ∧ Pure w w' := by
  refine ok_r34_Is (n : Int) A es.length c (q : Int) D d.length cd w (fun r w' => (r = true ↔ Red n es q d) ∧ Pure w w') ?_
  obtain ⟨hE, hn1, hn12⟩ := gcheck_ok hg
  unfold sh_r34_Is
  intro g w2 hN
  have p2 : Pure w w2 := hN.keeps _
  refine (r34_debt D d cd q w2 (hd.keep p2) (by omega)).mono ?_
  rintro _ w3 ⟨rfl, rfl⟩
  have how := owes_iff (q := q) hdn
  refine ⟨_, rfl, Kp.refl _ _, fun h => ⟨⟨fun h => (by cases h), fun h2 => absurd h2.pos (how.1 h)⟩, p2⟩, fun h => ?_⟩
  have hpos : ∀ v, v < n → v ≠ q → 0 ≤ gi d v := Classical.byContradiction fun h2 => h (how.2 h2)
  refine (r25_tight A D es d c cd n q w2 (he.keep p2) hl hg (hd.keep p2) hdn hq).mono ?_
  rintro _ w4 ⟨r, rfl, hr, p4⟩
  exact ⟨_, rfl, p4.kp (by simp), hr.trans (tight_red hq hpos), p2.trans p4⟩

theorem r34_isreduced (A D : Option Addr) (es : List E3) (d : List Int) (cap cd : Nat) (n q : Int) (w : World) (he : Edges w A es) (hd : Ints w D d) (hdl : d.length ≤ 1000000000) (hel : es.length ≤ 1000) :
    Calls Try.prog 30 #[.agg #[.int .i64 n, .slice A es.length cap], .int .i64 q, .slice D d.length cd] w fun e w' => ∃ r er, e = .returned (.tuple #[.bool r, .int .i64 er]) ∧ IsPost n es q d w r er w' := by
  refine ok_r34_IsReduced n A es.length cap q D d.length cd w (IsPost n es q d w) ?_
  unfold sh_r34_IsReduced
  intro g2 w2 hN
  have pN : Pure w w2 := hN.keeps _
  refine (r34_given A D es d cap cd n q w2 (he.keep pN) (by omega) (hd.keep pN) hdl).mono ?_
  rintro _ w3 ⟨rfl, p3⟩
  have p03 := pN.trans p3
  refine ⟨_, rfl, p3.kp (by simp), fun h0 => ?_, fun h0 => ⟨p03, rfl, fun _ => rfl, fun h => absurd h h0⟩⟩
  obtain ⟨k1, k2, k3, k4, k5⟩ := givenF_ok h0
  obtain ⟨n, rfl⟩ : ∃ n' : Nat, n = (n' : Int) := ⟨n.toNat, by omega⟩
  obtain ⟨q, rfl⟩ : ∃ q' : Nat, q = (q' : Int) := ⟨q.toNat, by omega⟩
  obtain ⟨hdn, -, -, -⟩ := checkF_ok k5
  refine (r34_is A D es d cap cd n q w3 (he.keep p03) hel k1 (hd.keep p03) hdn (by omega)).mono ?_
  rintro _ w4 ⟨r, rfl, hr, p4⟩
  exact ⟨_, rfl, p4.kp (by simp), p03.trans p4, h0.symm, fun h => absurd rfl h, fun _ => by simpa using hr⟩

/-- A union of sets that can fire can fire. -/
theorem outS_mono {n : Nat} {es : List E3} (hE : EOk n es) {S T : Nat → Bool} (h : ∀ v, v < n → S v = true → T v = true) (v : Nat) : outS n es T v ≤ outS n es S v := sm_le fun u hu => by
  have hw := W_nonneg hE v u
  show ite _ _ _ ≤ ite _ _ _
  by_cases hT : T u = true
  · rw [if_pos hT]; split <;> omega
  · rw [if_neg hT, if_neg (fun hS => hT (h u hu hS))]; exact Int.le_refl _
theorem setF_congr {l l' : List Bool} : ∀ k, (∀ v, v < k → gb l v = gb l' v) → setF l k = setF l' k
  | 0, _ => rfl
  | k + 1, h => by rw [setF, setF, setF_congr k (fun v hv => h v (by omega)), h k (by omega)]
/-- The bits of a number, in order. -/
def bitsF (a : Nat) : Nat → List Int
  | 0 => []
  | k + 1 => if a.testBit k = true then bitsF a k ++ [(k : Int)] else bitsF a k
theorem bits_set {a : Nat} {l : List Bool} : ∀ k, (∀ v, v < k → gb l v = a.testBit v) → bitsF a k = setF l k
  | 0, _ => rfl
  | k + 1, h => by rw [setF, bitsF, bits_set k (fun v hv => h v (by omega)), h k (by omega)]
theorem bitsF_length (a : Nat) : ∀ k, (bitsF a k).length ≤ k
  | 0 => by simp [bitsF]
  | k + 1 => by have := bitsF_length a k; rw [bitsF]; split <;> simp <;> omega

theorem r34_left (A D : Option Addr) (es : List E3) (d : List Int) (c cd : Nat) (n q : Nat) (w : World) (he : Edges w A es) (hl : es.length ≤ 1000) (hg : gcheckF n es = 0) (hd : Ints w D d) (hdn : d.length = n) (hq : q < n) :
    Calls Try.prog 78 #[.agg #[.int .i64 (n : Int), .slice A es.length c], .int .i64 (q : Int), .slice D d.length cd] w fun e w' => ∃ A' l' c' a, e = .returned (.slice A' l' c') ∧ OInts w' w.heap.size A' l' c' (bitsF a n) ∧ Pure w w' ∧
      ∀ v, v < n → (a.testBit v = true ↔ ∃ m, m < 2 ^ n ∧ m.testBit q = false ∧ mayF n es d m.testBit ∧ m.testBit v = true) := by
  refine (ok_r34_Left (n : Int) A es.length c (q : Int) D d.length cd w (fun A' l' c' w' => ∃ a, OInts w' w.heap.size A' l' c' (bitsF a n) ∧ Pure w w' ∧ ∀ v, v < n → (a.testBit v = true ↔ ∃ m, m < 2 ^ n ∧ m.testBit q = false ∧ mayF n es d m.testBit ∧ m.testBit v = true)) ?_).mono (by
    rintro e w' ⟨A', l', c', rfl, a, h⟩; exact ⟨A', l', c', a, rfl, h⟩)
  obtain ⟨hE, hn1, hn12⟩ := gcheck_ok hg
  have h2n := two_pow_small hn12
  unfold sh_r34_Left
  intro g w2 hN
  have p2 : Pure w w2 := hN.keeps _
  have gs := hN.size
  have ga := hN.at_
  rw [pow_cast]
  have hor : ∀ x y : Nat, x < 2 ^ n → y < 2 ^ n → x ||| y < 2 ^ n := fun x y hx hy => Nat.or_lt_two_pow hx hy
  generalize hP : 2 ^ n = P at *
  have hP1 : 1 ≤ P := by rw [← hP]; exact Nat.one_le_two_pow
  refine ⟨fun mm al i V => ∃ k a : Nat, mm = P - k ∧ i = (k : Int) ∧ al = (a : Int) ∧ k ≤ P ∧ a < P ∧ (∀ v, v < n → (a.testBit v = true ↔ ∃ m, m < k ∧ m.testBit q = false ∧ mayF n es d m.testBit ∧ m.testBit v = true)) ∧ Pure w2 V, ⟨P, 0, 0, rfl, rfl, rfl, by omega, by omega, fun v _ => by simp, Keeps.refl _ _⟩, ?_⟩
  rintro mm al i w3 ⟨k, a, rfl, rfl, rfl, hk, ha, hinv, p3⟩
  have q3 := p2.trans p3
  have hskip : (k.testBit q = false → ¬ mayF n es d k.testBit) → ∀ v, v < n → (a.testBit v = true ↔ ∃ m, m < k + 1 ∧ m.testBit q = false ∧ mayF n es d m.testBit ∧ m.testBit v = true) := fun h v hv => by
    rw [hinv v hv]
    constructor
    · rintro ⟨m, h1, h2⟩; exact ⟨m, by omega, h2⟩
    · rintro ⟨m, h1, h2, h3, h4⟩
      by_cases e : m = k
      · subst e; exact absurd h3 (h h2)
      · exact ⟨m, by omega, h2, h3, h4⟩
  refine ⟨by omega, in64 (by omega), fun hlt => ⟨by omega, bit_fit k q (by omega), ?_, ?_⟩, fun hge => ?_⟩
  · rw [bit_and]
    intro h0
    have hb : k.testBit q = false := by
      cases hb : k.testBit q with
      | false => rfl
      | true => rw [hb, if_pos rfl] at h0; omega
    refine (r25_may A D es d c cd n k w3 (he.keep q3) hl hg (hd.keep q3) hdn (by omega)).mono ?_
    rintro _ w4 ⟨r, rfl, hr, p4⟩
    refine ⟨_, rfl, p4.kp (by simp), fun h => ⟨by omega, in64 (by omega), P - (k + 1), by omega, k + 1, a ||| k, rfl, by omega, by simp, by omega, hor _ _ ha (by omega), fun v hv => ?_, p3.trans p4⟩, fun h => ⟨in64 (by omega), P - (k + 1), by omega, k + 1, a, rfl, by omega, rfl, by omega, ha, hskip (fun _ h2 => h (hr.2 h2)), p3.trans p4⟩⟩
    rw [Nat.testBit_or, Bool.or_eq_true, hinv v hv]
    constructor
    · rintro (⟨m, h1, h2⟩ | h1)
      · exact ⟨m, by omega, h2⟩
      · exact ⟨k, by omega, hb, hr.1 h, h1⟩
    · rintro ⟨m, h1, h2, h3, h4⟩
      by_cases e : m = k
      · subst e; exact .inr h4
      · exact .inl ⟨m, by omega, h2, h3, h4⟩
  · rw [bit_and]
    intro h0
    refine ⟨in64 (by omega), P - (k + 1), by omega, k + 1, a, rfl, by omega, rfl, by omega, ha, hskip (fun hb => ?_), p3⟩
    rw [hb, if_neg (by simp)] at h0; exact absurd rfl h0
  · have hkn : k = P := by omega
    subst hkn
    have g2lt : g < w3.heap.size := by have := p3.size; omega
    refine ⟨fun m Ao lo co i V => ∃ v, m = n - v ∧ i = (v : Int) ∧ v ≤ n ∧ OInts V w3.heap.size Ao lo co (bitsF a v) ∧ Pure w3 V, ⟨n, 0, by omega, rfl, by omega, OInts.nil w3 _, Keeps.refl _ _⟩, ?_⟩
    rintro m Ao lo co i w5 ⟨v, rfl, rfl, hv, ho, p5⟩
    have hll := ho.ints.1
    have hbl := bitsF_length a v
    refine ⟨fun hlt => ⟨by omega, bit_fit a v (by omega), ?_, ?_⟩, fun hge => ?_⟩
    · rw [bit_and]
      intro h0 g3 w6 hN6
      have hb : a.testBit v = true := by
        by_cases hb : a.testBit v = true
        · exact hb
        · rw [if_neg hb] at h0; omega
      refine ho.push hN6 p5.size (by omega) fun A' c' w7 ho7 hgr => ?_
      have p7 : Pure w3 w7 := ho.grown (Nat.le_refl _) p5 hN6 hgr
      refine ⟨fun hlg => ?_, in64 (by omega), n - (v + 1), by omega, v + 1, rfl, by omega, by omega, by rw [bitsF, if_pos hb]; exact ho7, p7⟩
      have e1 := p7.block g g2lt id
      have e2 := p5.block g g2lt id
      have s5 := p5.size
      have e3 : w6.heap[g]? = w5.heap[g]? := by rw [hN6.to_]; exact Below.heap_alloc _ _ _ (by omega)
      rw [e1, e3, e2]
    · rw [bit_and]
      intro h0
      refine ⟨in64 (by omega), n - (v + 1), by omega, v + 1, rfl, by omega, by omega, ?_, p5⟩
      rw [bitsF, if_neg (fun hb => by rw [if_pos hb] at h0; exact h0 rfl)]; exact ho
    · have hvn : v = n := by omega
      subst hvn
      refine ⟨a, ⟨ho.1, ?_⟩, q3.trans p5, hinv⟩
      rcases ho.2 with h | ⟨g', o, cur, h1, h2, h3⟩
      · exact .inl h
      · exact .inr ⟨g', o, cur, h1, by have := q3.size; omega, h3⟩

theorem r34_unburnt (A D : Option Addr) (es : List E3) (d : List Int) (cap cd : Nat) (n q : Int) (w : World) (he : Edges w A es) (hd : Ints w D d) (hdl : d.length ≤ 1000000000) (hel : es.length ≤ 1000) :
    Calls Try.prog 32 #[.agg #[.int .i64 n, .slice A es.length cap], .int .i64 q, .slice D d.length cd] w fun e w' => ∃ A1 l1 c1 er, e = .returned (.tuple #[.slice A1 l1 c1, .int .i64 er]) ∧
      Pure w w' ∧ er = (if givenF n es q d = 0 then (if owesF q d = true then 15 else 0) else givenF n es q d) ∧ (er ≠ 0 → A1 = none ∧ l1 = 0 ∧ c1 = 0) ∧
      (er = 0 → ∀ burnt, Burns n.toNat es q.toNat d burnt → OInts w' w.heap.size A1 l1 c1 (setF (leftOf burnt) n.toNat)) := by
  refine ok_r34_Unburnt n A es.length cap q D d.length cd w (fun A1 l1 c1 er w' => Pure w w' ∧ er = (if givenF n es q d = 0 then (if owesF q d = true then 15 else 0) else givenF n es q d) ∧ (er ≠ 0 → A1 = none ∧ l1 = 0 ∧ c1 = 0) ∧
      (er = 0 → ∀ burnt, Burns n.toNat es q.toNat d burnt → OInts w' w.heap.size A1 l1 c1 (setF (leftOf burnt) n.toNat))) ?_
  unfold sh_r34_Unburnt
  intro g2 w2 hN
  have pN : Pure w w2 := hN.keeps _
  refine (r34_given A D es d cap cd n q w2 (he.keep pN) (by omega) (hd.keep pN) hdl).mono ?_
  rintro _ w3 ⟨rfl, p3⟩
  have p03 := pN.trans p3
  refine ⟨_, rfl, p3.kp (by simp), fun h0 => ?_, fun h0 => ⟨p03, by rw [if_neg h0], fun _ => ⟨rfl, rfl, rfl⟩, fun h => absurd h h0⟩⟩
  obtain ⟨k1, k2, k3, k4, k5⟩ := givenF_ok h0
  obtain ⟨n, rfl⟩ : ∃ n' : Nat, n = (n' : Int) := ⟨n.toNat, by omega⟩
  obtain ⟨q, rfl⟩ : ∃ q' : Nat, q = (q' : Int) := ⟨q.toNat, by omega⟩
  obtain ⟨hE, hn1, hn12⟩ := gcheck_ok k1
  obtain ⟨hdn, -, -, -⟩ := checkF_ok k5
  refine (r34_debt D d cd q w3 (hd.keep p03) hdl).mono ?_
  rintro _ w4 ⟨rfl, rfl⟩
  refine ⟨_, rfl, Kp.refl _ _, fun ho => ⟨p03, by rw [if_pos h0, if_pos ho], fun _ => ⟨rfl, rfl, rfl⟩, fun h => absurd h (by decide)⟩, fun ho => ?_⟩
  refine (r34_left A D es d cap cd n q w3 (he.keep p03) hel k1 (hd.keep p03) hdn (by omega)).mono ?_
  rintro _ w5 ⟨A', l', c', a, rfl, hoi, p5, hbit⟩
  refine ⟨_, _, _, rfl, p5.kp (by simp), p03.trans p5, by rw [if_pos h0, if_neg ho], fun h => absurd rfl h, fun _ burnt hB => ?_⟩
  simp only [Int.toNat_natCast] at hB ⊢
  have hq0 : a.testBit q = false := by
    cases h : a.testBit q with
    | false => rfl
    | true => obtain ⟨m, h1, h2, h3, h4⟩ := (hbit q (by omega)).1 h; rw [h2] at h4; cases h4
  have hleft := burns_left hE (by omega) hB a.testBit hq0 (fun v hv hb => ?_) (fun S hS hlegal v hv hSv => ?_)
  · have e : bitsF a n = setF (leftOf burnt) n := bits_set n hleft
    rw [e] at hoi
    refine ⟨hoi.1, ?_⟩
    rcases hoi.2 with h | ⟨g', o, cur, h1, h2, h3⟩
    · exact .inl h
    · exact .inr ⟨g', o, cur, h1, by have := p03.size; omega, h3⟩
  · obtain ⟨m, h1, h2, h3, h4⟩ := (hbit v hv).1 hb
    have h5 := h3 v hv h4
    have h6 := outS_mono hE (n := n) (S := m.testBit) (T := a.testBit) (fun x hx hxb => (hbit x hx).2 ⟨m, h1, h2, h3, hxb⟩) v
    unfold outS at h5 h6
    omega
  · refine (hbit v hv).2 ⟨maskF S n, mask_lt S n, by rw [mask_bit, hS]; simp, (mask_may S).2 hlegal, by rw [mask_bit, hSv]; simp [hv]⟩

theorem burns_any (A D : Option Addr) (es : List E3) (d : List Int) (cap cd : Nat) (n q : Int) (w : World) (he : Edges w A es) (hd : Ints w D d) :
    Calls Try.prog 6 #[.agg #[.int .i64 n, .slice A es.length cap], .int .i64 q, .slice D d.length cd] w fun e w' => e = .returned (.bool true) ∧ Pure w w' := by
  refine (ok_l34_ReducedBurns n A es.length cap q D d.length cd w (fun r w' => r = true ∧ Pure w w') ?_).mono (by rintro e w' ⟨r, rfl, rfl, p⟩; exact ⟨rfl, p⟩)
  unfold sh_l34_ReducedBurns
  intro g w2 hN
  have p2 : Pure w w2 := hN.keeps _
  have haw : ∀ (V : World), Pure w V → Calls Try.prog 16 #[] V fun e w' => ∃ r : Bool, e = .returned (.bool r) ∧ Kp V w' g ∧ r = true ∧ Pure w w' := fun V hV => by
    refine (awake_any V).mono ?_
    rintro _ w' ⟨rfl, p⟩
    exact ⟨_, rfl, p.kp (by simp), rfl, hV.trans p⟩
  refine ⟨fun V => Pure w V ∧ es.length ≤ 40 ∧ d.length ≤ 100, fun w3 hJ => ?_, ?_⟩
  · obtain ⟨p3, h40, h100⟩ := hJ
    have hdl : d.length ≤ 1000000000 := by omega
    refine (isreduced_any A D es d cap cd n q w3 (he.keep p3) (hd.keep p3) hdl (by omega)).mono ?_
    rintro _ w4 ⟨r1, e1, rfl, q4, rfl, a1, a2⟩
    have p4 := p3.trans q4
    refine ⟨_, _, rfl, q4.kp (by simp), (r34_isreduced A D es d cap cd n q w4 (he.keep p4) (hd.keep p4) hdl (by omega)).mono ?_⟩
    rintro _ w5 ⟨r2, e2, rfl, q5, rfl, b1, b2⟩
    have p5 := p4.trans q5
    refine ⟨_, _, rfl, q5.kp (by simp), (unburntp_any A D es d cap cd n q w5 (he.keep p5) (hd.keep p5) hdl (by omega)).mono ?_⟩
    rintro _ w6 ⟨A1, l1, c1, e3, rfl, q6, rfl, c2, c3⟩
    have p6 := p5.trans q6
    refine ⟨_, _, _, _, rfl, q6.kp (by simp), (r34_unburnt A D es d cap cd n q w6 (he.keep p6) (hd.keep p6) hdl (by omega)).mono ?_⟩
    rintro _ w7 ⟨A2, l2, c4, e4, rfl, q7, rfl, d2, d3⟩
    have p7 := p6.trans q7
    have hrr : (r1 == r2) = true := by
      rw [beq_iff_eq, Bool.eq_iff_iff]
      by_cases h : givenF n es q d = 0
      · rw [a2 h, b2 h]
      · rw [a1 h, b1 h]
    have hlist : ∃ xs, l1 = xs.length ∧ l2 = xs.length ∧ Ints w7 A1 xs ∧ Ints w7 A2 xs ∧ xs.length ≤ 1000000000 := by
      have hn12 : (if givenF n es q d = 0 then (if owesF q d = true then (15 : Int) else 0) else givenF n es q d) = 0 → n.toNat ≤ 12 := fun h => by
        by_cases h0 : givenF n es q d = 0
        · have k1 := (givenF_ok h0).1
          unfold gcheckF at k1
          split at k1 <;> omega
        · rw [if_neg h0] at h; exact absurd h h0
      generalize (if givenF n es q d = 0 then (if owesF q d = true then (15 : Int) else 0) else givenF n es q d) = er at *
      by_cases h : er = 0
      · obtain ⟨burnt, hB, h1⟩ := c3 h
        have h2 := d3 h burnt hB
        obtain ⟨e1, i1⟩ := h1.ints
        obtain ⟨e2, i2⟩ := h2.ints
        refine ⟨_, e1, e2, i1.keep q7, i2, ?_⟩
        have h5 := setF_length (leftOf burnt) n.toNat
        have h6 := hB.len
        have := hn12 h
        omega
      · obtain ⟨rfl, rfl, rfl⟩ := c2 h
        obtain ⟨rfl, rfl, rfl⟩ := d2 h
        exact ⟨[], rfl, rfl, Ints.nil _ _, Ints.nil _ _, by simp⟩
    obtain ⟨xs, rfl, rfl, i1, i2, hxl⟩ := hlist
    refine ⟨_, _, _, _, rfl, q7.kp (by simp), fun _ => ⟨fun _ => ?_, fun h => absurd rfl h⟩, fun h => absurd hrr h⟩
    refine (equalI_any A1 A2 xs xs _ _ w7 i1 i2 hxl).mono ?_
    rintro _ w8 ⟨rfl, q8⟩
    have q8 : Pure w7 w8 := q8
    exact ⟨_, rfl, q8.kp (by simp), fun _ => ⟨fun _ => haw _ (p7.trans q8), fun h => absurd rfl h⟩, fun h => absurd (by simp [sameF]) h⟩
  · refine (r34_few A es cap n w2 (he.keep p2)).mono ?_
    rintro _ w10 ⟨rfl, p10⟩
    have q10 := p2.trans p10
    refine ⟨_, rfl, p10.kp (by simp), fun h => ⟨fun _ => haw _ q10, fun hd100 => ⟨q10, ?_, by omega⟩⟩, fun _ => haw _ q10⟩
    unfold smallF at h
    rw [decide_eq_true_eq] at h
    exact h.1
end Go.Proofs.Ytnhmeckhlajeaaa
