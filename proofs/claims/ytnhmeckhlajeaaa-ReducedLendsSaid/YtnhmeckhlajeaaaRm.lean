/- Plain facts on graphs that the references need: checks, weights, connectedness, sets as bits. No program in sight. -/
import Derived.Test.YtnhmeckhlajeaaaUnb
import Derived.Test.YtnhmeckhlajeaaaAwake
namespace Go.Proofs.Ytnhmeckhlajeaaa
open Go Go.RowKit Go.Shelf
set_option linter.unusedVariables false
set_option linter.unusedSectionVars false
set_option linter.unusedSimpArgs false

/-- The error of an edge behind another one. -/
def edgeF (n a b : Int) (x : E3) : Int := if (0 ≤ x.1 ∧ x.1 < n) ∧ (0 ≤ x.2.1 ∧ x.2.1 < n) ∧ 1 ≤ x.2.2 ∧ x.2.2 ≤ 50 then (if x.1 ≤ x.2.1 ∧ pcmpF a b x.1 x.2.1 < 0 then 0 else 9) else 2
theorem gchk_cons (n a b : Int) (x : E3) (t : List E3) : gchk n a b (x :: t) = if edgeF n a b x = 0 then gchk n x.1 x.2.1 t else edgeF n a b x := by
  rw [gchk]
  unfold edgeF
  by_cases c : (0 ≤ x.1 ∧ x.1 < n) ∧ (0 ≤ x.2.1 ∧ x.2.1 < n) ∧ 1 ≤ x.2.2 ∧ x.2.2 ≤ 50
  · rw [if_pos c, if_pos c]
    by_cases c2 : x.1 ≤ x.2.1 ∧ pcmpF a b x.1 x.2.1 < 0
    · rw [if_pos c2, if_pos c2, if_pos rfl]
    · rw [if_neg c2, if_neg c2, if_neg (by omega)]
  · rw [if_neg c, if_neg c, if_neg (by omega)]
theorem pcmp_lt (a b c d : Int) : pcmpF a b c d < 0 ↔ a < c ∨ (a = c ∧ b < d) := by
  unfold pcmpF orF cmpF
  by_cases h1 : a < c
  · simp [h1]
  · by_cases h2 : c < a
    · simp [h1, h2]; omega
    · have : a = c := by omega
      subst this
      simp
      by_cases h3 : b < d
      · simp [h3]
      · by_cases h4 : d < b <;> simp [h3, h4]
/-- What lies ahead of edge k. -/
def pre (es : List E3) (k : Nat) : Int × Int := if k = 0 then (-1, -1) else ((ge es (k - 1)).1, (ge es (k - 1)).2.1)
theorem gchk_lt {n : Int} : ∀ (es : List E3) (a b : Int), gchk n a b es = 0 → ∀ x ∈ es, (a < x.1 ∨ (a = x.1 ∧ b < x.2.1)) ∧ x.1 ≤ x.2.1
  | [], _, _, _ => by simp
  | x :: t, a, b, h => by
    rw [gchk_cons] at h
    by_cases h0 : edgeF n a b x = 0
    · rw [if_pos h0] at h
      have hx : x.1 ≤ x.2.1 ∧ (a < x.1 ∨ (a = x.1 ∧ b < x.2.1)) := by
        unfold edgeF at h0
        split at h0
        · split at h0
          · rename_i c; exact ⟨c.1, (pcmp_lt _ _ _ _).1 c.2⟩
          · omega
        · omega
      intro y hy
      rcases List.mem_cons.1 hy with rfl | hy
      · exact ⟨hx.2, hx.1⟩
      · have := gchk_lt t _ _ h y hy
        omega
    · rw [if_neg h0] at h; exact absurd h h0
theorem between_W {n : Int} (u v : Nat) (huv : u ≠ v) : ∀ (es : List E3) (a b : Int), gchk n a b es = 0 → ((es.find? fun x => decide (x.1 = mnF (u : Int) v ∧ x.2.1 = mxF (u : Int) v)).map (·.2.2)).getD 0 = W es u v
  | [], _, _, _ => rfl
  | x :: t, a, b, h => by
    have hlt := gchk_lt (x :: t) a b h
    rw [gchk_cons] at h
    by_cases h0 : edgeF n a b x = 0
    · rw [if_pos h0] at h
      have ih := between_W u v huv t _ _ h
      have ht := gchk_lt t _ _ h
      have hx := (hlt x (by simp)).2
      have hmn : mnF (u : Int) v = if (u : Int) < v then (u : Int) else v := by unfold mnF; split <;> (try split) <;> omega
      have hmx : mxF (u : Int) v = if (u : Int) < v then (v : Int) else u := by unfold mxF; split <;> (try split) <;> omega
      rw [List.find?_cons, W_cons]
      by_cases c : x.1 = mnF (u : Int) v ∧ x.2.1 = mxF (u : Int) v
      · have hnone : t.find? (fun x => decide (x.1 = mnF (u : Int) v ∧ x.2.1 = mxF (u : Int) v)) = none := by
          rw [List.find?_eq_none]
          intro y hy
          have := ht y hy
          simp only [decide_eq_true_eq]
          omega
        rw [hnone] at ih
        have hw : w1 x u v = x.2.2 := by
          unfold w1
          rw [if_pos]
          rw [hmn, hmx] at c
          by_cases q : (u : Int) < v
          · rw [if_pos q, if_pos q] at c; omega
          · rw [if_neg q, if_neg q] at c; omega
        rw [decide_eq_true c, hw, ← ih]
        simp
      · have hw : w1 x u v = 0 := by
          unfold w1
          rw [if_neg]
          intro q
          apply c
          rw [hmn, hmx]
          by_cases q2 : (u : Int) < v
          · rw [if_pos q2, if_pos q2]; omega
          · rw [if_neg q2, if_neg q2]; omega
        rw [decide_eq_false c, hw, ← ih]
        simp
    · rw [if_neg h0] at h; exact absurd h h0
theorem gcheck_gchk {n : Int} {es : List E3} (h : gcheckF n es = 0) : gchk n (-1) (-1) es = 0 := by
  unfold gcheckF at h
  split at h
  · exact h
  · omega
/-- A small graph, or one with an error. -/
def smallF (n : Int) (es : List E3) (a b : Int) : Bool := decide (es.length ≤ 40 ∧ (gcheckF n es = 0 → n ≤ a ∧ (es.map (·.2.2)).sum ≤ b))
theorem gb_rep (n v : Nat) : gb (List.replicate n false) v = false := by
  rcases Nat.lt_or_ge v n with h | h
  · rw [gb_of_lt (by simpa using h)]; simp
  · exact gb_ge (by simpa using h)
theorem set_same {l : List Bool} {v : Nat} (h : gb l v = true) : l.set v true = l := by
  rcases Nat.lt_or_ge v l.length with hv | hv
  · rw [gb_of_lt hv] at h
    rw [← h]; exact List.set_getElem_self hv
  · rw [gb_ge hv] at h; cases h
/-- Closed under edges. -/
def Cl (n : Nat) (es : List E3) (o : List Bool) : Prop := ∀ a b, a < n → b < n → gb o a = true → 0 < W es a b → gb o b = true
theorem root_W {n : Nat} {es : List E3} (hE : EOk n es) (hn : 1 ≤ n) (h12 : n ≤ 12) {a b : Nat} (h : 0 < W es a b) : root (joinedF es) a = root (joinedF es) b := by
  obtain ⟨m, hm⟩ := (W_adj hE).1 h
  obtain ⟨x, hx, q1, q2, q3, q4⟩ := mem_linksF.1 hm
  have h1 := root_edge es (hE.ends hn h12) x hx
  have hbx := hE x hx
  rcases q2 with q2 | q2
  · rwa [show x.1.toNat = a by omega, show x.2.1.toNat = b by omega] at h1
  · rw [show x.1.toNat = b by omega, show x.2.1.toNat = a by omega] at h1; exact h1.symm
theorem conn_root {n : Nat} {es : List E3} (hE : EOk n es) (hn : 1 ≤ n) (h12 : n ≤ 12) : connF n es = true ↔ ∀ v, v < n → root (joinedF es) v = root (joinedF es) 0 := by
  have hF := joinedF_forest es (hE.ends hn h12)
  unfold connF
  rw [beq_iff_eq, Int.toNat_natCast]
  exact nroots_one hF hn h12
theorem cl_root {n : Nat} {es : List E3} (hE : EOk n es) (hn : 1 ≤ n) (h12 : n ≤ 12) {o : List Bool} (hC : Cl n es o) {v : Nat} (hv : v < n) (hvo : gb o v = true) (hs : ∀ u, u < n → gb o u = true → root (joinedF es) u = root (joinedF es) v) :
    ∀ u, u < n → gb o u = decide (root (joinedF es) u = root (joinedF es) v) := by
  have hcl : ∀ x ∈ es, gb o x.1.toNat = gb o x.2.1.toNat := fun x hx => by
    have hb := hE x hx
    by_cases e : x.1 = x.2.1
    · rw [e]
    · have hw := W_edge hE hn h12 hx e
      cases h1 : gb o x.1.toNat <;> cases h2 : gb o x.2.1.toNat
      · rfl
      · rw [hC _ _ (by omega) (by omega) h2 (by rw [W_symm]; exact hw)] at h1; cases h1
      · rw [hC _ _ (by omega) (by omega) h1 hw] at h2; cases h2
      · rfl
  have hside := root_side (n := n) (S := gb o) es (hE.ends hn h12) hcl
  intro u hu
  cases h : gb o u with
  | true => exact (decide_eq_true (hs u hu h)).symm
  | false =>
    symm
    rw [decide_eq_false_iff_not]
    intro e
    have h1 := hside u (by omega)
    have h2 := hside v (by omega)
    rw [e, h2, hvo] at h1
    rw [h] at h1; cases h1
def joinedE (n : Int) (es : List E3) : Int := if gcheckF n es = 0 then (if connF n es = true then 0 else 13) else gcheckF n es
theorem bit_and (m u : Nat) : ((((m : Int) / 2 ^ (u : Int).toNat).toNat &&& (1 : Int).toNat : Nat) : Int) = if m.testBit u = true then 1 else 0 := by
  have e1 : ((m : Int) / 2 ^ (u : Int).toNat).toNat = m / 2 ^ u := by
    have : ((m : Int) / 2 ^ (u : Int).toNat) = ((m / 2 ^ u : Nat) : Int) := by rw [Int.toNat_natCast]; push_cast; rfl
    rw [this, Int.toNat_natCast]
  have e2 : (1 : Int).toNat = 1 := rfl
  rw [e1, e2, Nat.and_one_is_mod, Nat.testBit_eq_decide_div_mod_eq]
  simp only [decide_eq_true_eq]
  split <;> omega
theorem bit_fit (m u : Nat) (hm : m < 9223372036854775808) : 0 ≤ ((m : Int) / 2 ^ (u : Int).toNat) ∧ ((m : Int) / 2 ^ (u : Int).toNat) < 9223372036854775808 ∧ 0 ≤ (1 : Int) ∧ (1 : Int) < 9223372036854775808 := by
  have : ((m : Int) / 2 ^ (u : Int).toNat) = ((m / 2 ^ u : Nat) : Int) := by rw [Int.toNat_natCast]; push_cast; rfl
  have h2 : m / 2 ^ u ≤ m := Nat.div_le_self _ _
  rw [this]
  generalize m / 2 ^ u = z at h2
  omega
theorem W_le {n : Nat} {es : List E3} (hE : EOk n es) (v u : Nat) : W es v u ≤ 50 * es.length := by
  induction es with
  | nil => rw [W_nil]; simp
  | cons x es ih =>
    have h1 := ih (fun y hy => hE y (by simp [hy]))
    have h2 := hE x (by simp)
    rw [W_cons, List.length_cons]
    unfold w1
    split <;> omega
/-- What leaves a set, at a vertex. -/
def outS (n : Nat) (es : List E3) (S : Nat → Bool) (v : Nat) : Int := sm n (fun u => if S u = true then 0 else W es v u)
/-- A set that can fire. -/
def mayF (n : Nat) (es : List E3) (d : List Int) (S : Nat → Bool) : Prop := ∀ v, v < n → S v = true → outS n es S v ≤ gi d v
theorem two_pow_small {n : Nat} (hn : n ≤ 12) : 2 ^ n ≤ 4096 := Nat.pow_le_pow_right (by omega) (show n ≤ 12 from hn)
theorem pow_cast (n : Nat) : (1 : Int) * 2 ^ (n : Int).toNat = ((2 ^ n : Nat) : Int) := by rw [Int.toNat_natCast, Int.one_mul]; push_cast; rfl
/-- A set as bits. -/
def maskF (S : Nat → Bool) : Nat → Nat
  | 0 => 0
  | k + 1 => maskF S k ||| (if S k = true then 2 ^ k else 0)
theorem mask_bit (S : Nat → Bool) : ∀ k i, (maskF S k).testBit i = (decide (i < k) && S i)
  | 0, i => by simp [maskF]
  | k + 1, i => by
    rw [maskF, Nat.testBit_or, mask_bit S k i]
    by_cases hS : S k = true
    · rw [if_pos hS, Nat.testBit_two_pow]
      by_cases e : k = i
      · subst e; simp [hS]
      · have : (i < k + 1) ↔ i < k := by omega
        simp [e, this]
    · rw [if_neg hS]
      by_cases e : k = i
      · subst e; simp [hS]
      · have : (i < k + 1) ↔ i < k := by omega
        simp [this]
theorem mask_lt (S : Nat → Bool) : ∀ k, maskF S k < 2 ^ k
  | 0 => by simp [maskF]
  | k + 1 => by
    rw [maskF]
    have h1 := mask_lt S k
    have h2 : 2 ^ k < 2 ^ (k + 1) := Nat.pow_lt_pow_right (by omega) (by omega)
    refine Nat.or_lt_two_pow (by omega) ?_
    split
    · exact h2
    · exact Nat.lt_trans (Nat.two_pow_pos k) h2
theorem outS_congr {n : Nat} {es : List E3} {S T : Nat → Bool} (h : ∀ v, v < n → S v = T v) (v : Nat) : outS n es S v = outS n es T v := sm_congr fun u hu => by rw [h u hu]
theorem mask_may {n : Nat} {es : List E3} {d : List Int} (S : Nat → Bool) : mayF n es d (maskF S n).testBit ↔ mayF n es d S := by
  have h : ∀ v, v < n → (maskF S n).testBit v = S v := fun v hv => by rw [mask_bit]; simp [hv]
  unfold mayF
  constructor
  · intro h1 v hv hS; rw [← outS_congr h]; exact h1 v hv (by rw [h v hv]; exact hS)
  · intro h1 v hv hS; rw [outS_congr h]; exact h1 v hv (by rw [← h v hv]; exact hS)
theorem tight_red {n : Nat} {es : List E3} {q : Nat} {d : List Int} (hq : q < n) (hpos : ∀ v, v < n → v ≠ q → 0 ≤ gi d v) : (∀ m, 1 ≤ m → m < 2 ^ n → m.testBit q = false → ¬ mayF n es d m.testBit) ↔ Red n es q d := by
  constructor
  · intro h
    refine ⟨hpos, fun S hS ⟨v, hv, hSv⟩ => ?_⟩
    apply Classical.byContradiction
    intro hno
    refine h (maskF S n) ?_ (mask_lt S n) (by rw [mask_bit, hS]; simp) ((mask_may S).2 fun x hx hSx => ?_)
    · apply Nat.one_le_iff_ne_zero.2
      intro e
      have := mask_bit S n v
      rw [e, hSv] at this
      simp [hv] at this
    · apply Int.not_lt.1
      intro hlt
      exact hno ⟨x, hx, hSx, hlt⟩
  · intro hR m h1 h2 h3 hmay
    obtain ⟨i, hi⟩ := Nat.exists_testBit_of_ne_zero (show m ≠ 0 by omega)
    have hin : i < n := by
      apply Nat.lt_of_not_le
      intro hle
      have := Nat.testBit_lt_two_pow (Nat.lt_of_lt_of_le h2 (Nat.pow_le_pow_right (by omega) hle))
      rw [this] at hi; cases hi
    obtain ⟨v, hv, hSv, hlt⟩ := hR.no m.testBit h3 ⟨i, hin, hi⟩
    have := hmay v hv hSv
    unfold outS at this
    omega
/-- A union of sets that can fire can fire. -/
theorem outS_mono {n : Nat} {es : List E3} (hE : EOk n es) {S T : Nat → Bool} (h : ∀ v, v < n → S v = true → T v = true) (v : Nat) : outS n es T v ≤ outS n es S v := sm_le fun u hu => by
  have hw := W_nonneg hE v u
  show ite _ _ _ ≤ ite _ _ _
  by_cases hT : T u = true
  · rw [if_pos hT]; split <;> omega
  · rw [if_neg hT, if_neg (fun hS => hT (h u hu hS))]; exact Int.le_refl _
theorem setF_congr {l l' : List Bool} : ∀ k, (∀ v, v < k → gb l v = gb l' v) → setF l k = setF l' k
  | 0, _ => rfl
  | k + 1, h => by rw [setF, setF, setF_congr k (fun v hv => h v (by omega)), h k (by omega)]
/-- The bits of a number, in order. -/
def bitsF (a : Nat) : Nat → List Int
  | 0 => []
  | k + 1 => if a.testBit k = true then bitsF a k ++ [(k : Int)] else bitsF a k
theorem bits_set {a : Nat} {l : List Bool} : ∀ k, (∀ v, v < k → gb l v = a.testBit v) → bitsF a k = setF l k
  | 0, _ => rfl
  | k + 1, h => by rw [setF, bitsF, bits_set k (fun v hv => h v (by omega)), h k (by omega)]
theorem bitsF_length (a : Nat) : ∀ k, (bitsF a k).length ≤ k
  | 0 => by simp [bitsF]
  | k + 1 => by have := bitsF_length a k; rw [bitsF]; split <;> simp <;> omega
end Go.Proofs.Ytnhmeckhlajeaaa
