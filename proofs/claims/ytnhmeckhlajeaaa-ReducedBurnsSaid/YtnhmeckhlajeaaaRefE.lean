/- The references: out, May, Tight, Is, Left; IsReduced, Unburnt. -/
import Derived.Test.YtnhmeckhlajeaaaRefD
namespace Go.Proofs.Ytnhmeckhlajeaaa
open Go Go.RowKit Go.Shelf
set_option linter.unusedVariables false
set_option linter.unusedSectionVars false
set_option linter.unusedSimpArgs false

theorem bit_and (m u : Nat) : ((((m : Int) / 2 ^ (u : Int).toNat).toNat &&& (1 : Int).toNat : Nat) : Int) = if m.testBit u = true then 1 else 0 := by
  have e1 : ((m : Int) / 2 ^ (u : Int).toNat).toNat = m / 2 ^ u := by
    have : ((m : Int) / 2 ^ (u : Int).toNat) = ((m / 2 ^ u : Nat) : Int) := by rw [Int.toNat_natCast]; push_cast; rfl
    rw [this, Int.toNat_natCast]
  have e2 : (1 : Int).toNat = 1 := rfl
  rw [e1, e2, Nat.and_one_is_mod, Nat.testBit_eq_decide_div_mod_eq]
  simp only [decide_eq_true_eq]
  split <;> omega
theorem bit_fit (m u : Nat) (hm : m < 9223372036854775808) : 0 ≤ ((m : Int) / 2 ^ (u : Int).toNat) ∧ ((m : Int) / 2 ^ (u : Int).toNat) < 9223372036854775808 ∧ 0 ≤ (1 : Int) ∧ (1 : Int) < 9223372036854775808 := by
  have : ((m : Int) / 2 ^ (u : Int).toNat) = ((m / 2 ^ u : Nat) : Int) := by rw [Int.toNat_natCast]; push_cast; rfl
  have h2 : m / 2 ^ u ≤ m := Nat.div_le_self _ _
  rw [this]
  generalize m / 2 ^ u = z at h2
  omega
theorem W_le {n : Nat} {es : List E3} (hE : EOk n es) (v u : Nat) : W es v u ≤ 50 * es.length := by
  induction es with
  | nil => rw [W_nil]; simp
  | cons x es ih =>
    have h1 := ih (fun y hy => hE y (by simp [hy]))
    have h2 := hE x (by simp)
    rw [W_cons, List.length_cons]
    unfold w1
    split <;> omega
/-- What leaves a set, at a vertex. -/
def outS (n : Nat) (es : List E3) (S : Nat → Bool) (v : Nat) : Int := sm n (fun u => if S u = true then 0 else W es v u)

theorem r25_out (A : Option Addr) (es : List E3) (c : Nat) (n m v : Nat) (w : World) (he : Edges w A es) (hl : es.length ≤ 1000) (hg : gcheckF n es = 0) (hm : m < 9223372036854775808) :
    Calls Try.prog 157 #[.agg #[.int .i64 (n : Int), .slice A es.length c], .int .i64 (m : Int), .int .i64 (v : Int)] w fun e w' => e = .returned (.int .i64 (outS n es m.testBit v)) ∧ Pure w w' := by
  refine (ok_r25_out (n : Int) A es.length c (m : Int) (v : Int) w (fun r w' => r = outS n es m.testBit v ∧ Pure w w') ?_).mono (by rintro e w' ⟨r, rfl, rfl, p⟩; exact ⟨rfl, p⟩)
  obtain ⟨hE, hn1, hn12⟩ := gcheck_ok hg
  unfold sh_r25_out outS
  intro g w2 hN
  have p2 : Pure w w2 := hN.keeps _
  refine ⟨fun mm t i V => ∃ k : Nat, mm = n - k ∧ i = (k : Int) ∧ k ≤ n ∧ t = sm k (fun u => if m.testBit u = true then 0 else W es v u) ∧ 0 ≤ t ∧ t ≤ 50000 * k ∧ Pure w V, ⟨n, 0, rfl, rfl, by omega, rfl, by omega, by omega, p2⟩, ?_⟩
  rintro mm t i w3 ⟨k, rfl, rfl, hk, rfl, ht0, ht1, p3⟩
  have hW0 := W_nonneg hE v k
  have hW1 := W_le hE v k
  refine ⟨fun hlt => ?_, fun hge => ?_⟩
  · have hz : ∀ {V : World}, Pure w V → (if m.testBit k = true then 0 else W es v k) = 0 → ∃ m2, m2 < n - k ∧ ∃ k' : Nat, m2 = n - k' ∧ (k : Int) + 1 = (k' : Int) ∧ k' ≤ n ∧ sm k (fun u => if m.testBit u = true then 0 else W es v u) = sm k' (fun u => if m.testBit u = true then 0 else W es v u) ∧ 0 ≤ sm k (fun u => if m.testBit u = true then 0 else W es v u) ∧ sm k (fun u => if m.testBit u = true then 0 else W es v u) ≤ 50000 * k' ∧ Pure w V := fun p h =>
      ⟨n - (k + 1), by omega, k + 1, rfl, by omega, by omega, by rw [sm, h]; omega, ht0, by omega, p⟩
    refine ⟨fun V => Pure w V ∧ k ≠ v ∧ ¬ m.testBit k = true, fun w4 hJ => ?_, fun h => ⟨in64 (by omega), hz p3 (by rw [show k = v by omega, W_self]; simp)⟩, fun h => ⟨by omega, ?_, ?_⟩⟩
    · obtain ⟨p4, hkv, hbit⟩ := hJ
      refine (r08_betw A es c n k v w4 (he.keep p4) (by omega) hg hkv).mono ?_
      rintro _ w5 ⟨rfl, p5⟩
      rw [W_symm es k v]
      refine ⟨_, rfl, p5.kp (by simp), in64 (by omega), in64 (by omega), n - (k + 1), by omega, k + 1, rfl, by omega, by omega, by rw [sm, if_neg hbit], by omega, by omega, p4.trans p5⟩
    · exact bit_fit m k hm
    · rw [bit_and]
      refine ⟨fun h0 => ⟨p3, by omega, fun hb => by rw [if_pos hb] at h0; omega⟩, fun h0 => ⟨in64 (by omega), hz p3 ?_⟩⟩
      by_cases hb : m.testBit k = true
      · rw [if_pos hb]
      · rw [if_neg hb] at h0; exact absurd rfl h0
  · have hkn : k = n := by omega
    rw [hkn]
    exact ⟨rfl, p3⟩

/-- A set that can fire. -/
def mayF (n : Nat) (es : List E3) (d : List Int) (S : Nat → Bool) : Prop := ∀ v, v < n → S v = true → outS n es S v ≤ gi d v
theorem r25_may (A D : Option Addr) (es : List E3) (d : List Int) (c cd : Nat) (n m : Nat) (w : World) (he : Edges w A es) (hl : es.length ≤ 1000) (hg : gcheckF n es = 0) (hd : Ints w D d) (hdn : d.length = n) (hm : m < 9223372036854775808) :
    Calls Try.prog 125 #[.agg #[.int .i64 (n : Int), .slice A es.length c], .slice D d.length cd, .int .i64 (m : Int)] w fun e w' => ∃ r, e = .returned (.bool r) ∧ (r = true ↔ mayF n es d m.testBit) ∧ Pure w w' := by
  refine ok_r25_May (n : Int) A es.length c D d.length cd (m : Int) w (fun r w' => (r = true ↔ mayF n es d m.testBit) ∧ Pure w w') ?_
  obtain ⟨hE, hn1, hn12⟩ := gcheck_ok hg
  unfold sh_r25_May
  intro g w2 hN
  have p2 : Pure w w2 := hN.keeps _
  refine ⟨fun mm i V => ∃ k : Nat, mm = n - k ∧ i = (k : Int) ∧ k ≤ n ∧ (∀ v, v < k → m.testBit v = true → outS n es m.testBit v ≤ gi d v) ∧ Pure w V, ⟨n, 0, rfl, rfl, by omega, fun v h => absurd h (by omega), p2⟩, ?_⟩
  rintro mm i w3 ⟨k, rfl, rfl, hk, hinv, p3⟩
  have hnext : (m.testBit k = true → outS n es m.testBit k ≤ gi d k) → ∀ v, v < k + 1 → m.testBit v = true → outS n es m.testBit v ≤ gi d v := fun h v hv hb => by
    by_cases e : v = k
    · subst e; exact h hb
    · exact hinv v (by omega) hb
  refine ⟨fun hlt => ⟨by omega, bit_fit m k hm, ?_, ?_⟩, fun hge => ?_⟩
  · rw [bit_and]
    intro h0
    have hb : m.testBit k = true := by
      by_cases hb : m.testBit k = true
      · exact hb
      · rw [if_neg hb] at h0; omega
    have hdd := hd.keep (p3.drew : Pure w w3.drew)
    have ld := ints_ld hdd (i := (k : Int)) (by omega) (by omega)
    refine ⟨ints_ix hd rfl (by omega) (by omega), _, ld, (r25_out A es c n m k w3.drew (he.keep p3.drew) hl hg hm).mono ?_⟩
    rintro _ w4 ⟨rfl, p4⟩
    have q4 : Pure w w4 := Keeps.trans p3.drew p4
    have ld4 := ints_ld (hd.keep q4) (i := (k : Int)) (by omega) (by omega)
    simp only [Int.toNat_natCast] at ld4 ⊢
    refine ⟨_, rfl, p4.kp (by simp), ld4, fun h => ⟨⟨fun h => (by cases h), fun h2 => ?_⟩, q4⟩, fun h => ⟨in64 (by omega), n - (k + 1), by omega, k + 1, rfl, by omega, by omega, hnext (fun _ => by omega), q4⟩⟩
    have := h2 k (by omega) hb
    omega
  · rw [bit_and]
    intro h0
    refine ⟨in64 (by omega), n - (k + 1), by omega, k + 1, rfl, by omega, by omega, hnext (fun hb => ?_), p3.drew⟩
    rw [if_pos hb] at h0; exact absurd rfl h0
  · have hkn : k = n := by omega
    subst hkn
    exact ⟨⟨fun _ => hinv, fun _ => rfl⟩, p3⟩

theorem two_pow_small {n : Nat} (hn : n ≤ 12) : 2 ^ n ≤ 4096 := Nat.pow_le_pow_right (by omega) (show n ≤ 12 from hn)
theorem pow_cast (n : Nat) : (1 : Int) * 2 ^ (n : Int).toNat = ((2 ^ n : Nat) : Int) := by rw [Int.toNat_natCast, Int.one_mul]; push_cast; rfl
theorem r25_tight (A D : Option Addr) (es : List E3) (d : List Int) (c cd : Nat) (n q : Nat) (w : World) (he : Edges w A es) (hl : es.length ≤ 1000) (hg : gcheckF n es = 0) (hd : Ints w D d) (hdn : d.length = n) (hq : q < n) :
    Calls Try.prog 124 #[.agg #[.int .i64 (n : Int), .slice A es.length c], .int .i64 (q : Int), .slice D d.length cd] w fun e w' => ∃ r, e = .returned (.bool r) ∧ (r = true ↔ ∀ m, 1 ≤ m → m < 2 ^ n → m.testBit q = false → ¬ mayF n es d m.testBit) ∧ Pure w w' := by
  refine ok_r25_Tight (n : Int) A es.length c (q : Int) D d.length cd w (fun r w' => (r = true ↔ ∀ m, 1 ≤ m → m < 2 ^ n → m.testBit q = false → ¬ mayF n es d m.testBit) ∧ Pure w w') ?_
  obtain ⟨hE, hn1, hn12⟩ := gcheck_ok hg
  have h2n := two_pow_small hn12
  unfold sh_r25_Tight
  intro g w2 hN
  have p2 : Pure w w2 := hN.keeps _
  rw [pow_cast]
  generalize hP : 2 ^ n = P at *
  have hP1 : 1 ≤ P := by rw [← hP]; exact Nat.one_le_two_pow
  refine ⟨fun mm i V => ∃ k : Nat, mm = P - k ∧ i = (k : Int) ∧ 1 ≤ k ∧ k ≤ P ∧ (∀ m, 1 ≤ m → m < k → m.testBit q = false → ¬ mayF n es d m.testBit) ∧ Pure w V, ⟨P - 1, 1, rfl, rfl, by omega, by omega, fun m h1 h2 => absurd h2 (by omega), p2⟩, ?_⟩
  rintro mm i w3 ⟨k, rfl, rfl, hk1, hk, hinv, p3⟩
  have hnext : (k.testBit q = false → ¬ mayF n es d k.testBit) → ∀ m, 1 ≤ m → m < k + 1 → m.testBit q = false → ¬ mayF n es d m.testBit := fun h m h1 h2 h3 => by
    by_cases e : m = k
    · subst e; exact h h3
    · exact hinv m h1 (by omega) h3
  refine ⟨by omega, in64 (by omega), fun hlt => ⟨by omega, bit_fit k q (by omega), ?_, ?_⟩, fun hge => ?_⟩
  · rw [bit_and]
    intro h0
    have hb : k.testBit q = false := by
      cases hb : k.testBit q with
      | false => rfl
      | true => rw [hb, if_pos rfl] at h0; omega
    refine (r25_may A D es d c cd n k w3 (he.keep p3) hl hg (hd.keep p3) hdn (by omega)).mono ?_
    rintro _ w4 ⟨r, rfl, hr, p4⟩
    refine ⟨_, rfl, p4.kp (by simp), fun h => ⟨⟨fun h => (by cases h), fun h2 => absurd (hr.1 h) (h2 k hk1 (by omega) hb)⟩, p3.trans p4⟩, fun h => ⟨in64 (by omega), P - (k + 1), by omega, k + 1, rfl, by omega, by omega, by omega, hnext (fun _ h2 => h (hr.2 h2)), p3.trans p4⟩⟩
  · rw [bit_and]
    intro h0
    refine ⟨in64 (by omega), P - (k + 1), by omega, k + 1, rfl, by omega, by omega, by omega, hnext (fun hb => ?_), p3⟩
    rw [hb, if_neg (by simp)] at h0; exact absurd rfl h0
  · have hkn : k = P := by omega
    subst hkn
    exact ⟨⟨fun _ => hinv, fun _ => rfl⟩, p3⟩

/-- A set as bits. -/
def maskF (S : Nat → Bool) : Nat → Nat
  | 0 => 0
  | k + 1 => maskF S k ||| (if S k = true then 2 ^ k else 0)
theorem mask_bit (S : Nat → Bool) : ∀ k i, (maskF S k).testBit i = (decide (i < k) && S i)
  | 0, i => by simp [maskF]
  | k + 1, i => by
    rw [maskF, Nat.testBit_or, mask_bit S k i]
    by_cases hS : S k = true
    · rw [if_pos hS, Nat.testBit_two_pow]
      by_cases e : k = i
      · subst e; simp [hS]
      · have : (i < k + 1) ↔ i < k := by omega
        simp [e, this]
    · rw [if_neg hS]
      by_cases e : k = i
      · subst e; simp [hS]
      · have : (i < k + 1) ↔ i < k := by omega
        simp [this]
theorem mask_lt (S : Nat → Bool) : ∀ k, maskF S k < 2 ^ k
  | 0 => by simp [maskF]
  | k + 1 => by
    rw [maskF]
    have h1 := mask_lt S k
    have h2 : 2 ^ k < 2 ^ (k + 1) := Nat.pow_lt_pow_right (by omega) (by omega)
    refine Nat.or_lt_two_pow (by omega) ?_
    split
    · exact h2
    · exact Nat.lt_trans (Nat.two_pow_pos k) h2
theorem outS_congr {n : Nat} {es : List E3} {S T : Nat → Bool} (h : ∀ v, v < n → S v = T v) (v : Nat) : outS n es S v = outS n es T v := sm_congr fun u hu => by rw [h u hu]
theorem mask_may {n : Nat} {es : List E3} {d : List Int} (S : Nat → Bool) : mayF n es d (maskF S n).testBit ↔ mayF n es d S := by
  have h : ∀ v, v < n → (maskF S n).testBit v = S v := fun v hv => by rw [mask_bit]; simp [hv]
  unfold mayF
  constructor
  · intro h1 v hv hS; rw [← outS_congr h]; exact h1 v hv (by rw [h v hv]; exact hS)
  · intro h1 v hv hS; rw [outS_congr h]; exact h1 v hv (by rw [← h v hv]; exact hS)
theorem tight_red {n : Nat} {es : List E3} {q : Nat} {d : List Int} (hq : q < n) (hpos : ∀ v, v < n → v ≠ q → 0 ≤ gi d v) : (∀ m, 1 ≤ m → m < 2 ^ n → m.testBit q = false → ¬ mayF n es d m.testBit) ↔ Red n es q d := by
  constructor
  · intro h
    refine ⟨hpos, fun S hS ⟨v, hv, hSv⟩ => ?_⟩
    apply Classical.byContradiction
    intro hno
    refine h (maskF S n) ?_ (mask_lt S n) (by rw [mask_bit, hS]; simp) ((mask_may S).2 fun x hx hSx => ?_)
    · apply Nat.one_le_iff_ne_zero.2
      intro e
      have := mask_bit S n v
      rw [e, hSv] at this
      simp [hv] at this
    · apply Int.not_lt.1
      intro hlt
      exact hno ⟨x, hx, hSx, hlt⟩
  · intro hR m h1 h2 h3 hmay
    obtain ⟨i, hi⟩ := Nat.exists_testBit_of_ne_zero (show m ≠ 0 by omega)
    have hin : i < n := by
      apply Nat.lt_of_not_le
      intro hle
      have := Nat.testBit_lt_two_pow (Nat.lt_of_lt_of_le h2 (Nat.pow_le_pow_right (by omega) hle))
      rw [this] at hi; cases hi
    obtain ⟨v, hv, hSv, hlt⟩ := hR.no m.testBit h3 ⟨i, hin, hi⟩
    have := hmay v hv hSv
    unfold outS at this
    omega
end Go.Proofs.Ytnhmeckhlajeaaa
