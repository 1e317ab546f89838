/- Words for proofs from pure forms: loops that count up, lists that are filled from the left. No program in sight. -/
import Derived.Test.YtnhmeckhlajeaaaPf
import Derived.Test.YtnhmeckhlajeaaaSum
namespace Go.Proofs.Ytnhmeckhlajeaaa
open Go
set_option linter.unusedVariables false

/-- A loop that counts up to N: P holds at each count. -/
def Cnt (N : Nat) (P : Nat → Prop) (m : Nat) (v : Int) : Prop := ∃ k : Nat, m = N - k ∧ v = (k : Int) ∧ k ≤ N ∧ P k
theorem Cnt.start {N : Nat} {P : Nat → Prop} (h : P 0) : ∃ m0, Cnt N P m0 0 := ⟨N, 0, rfl, rfl, Nat.zero_le _, h⟩
theorem Cnt.next {N : Nat} {P : Nat → Prop} {k : Nat} (hk : k < N) (hN : N ≤ 1000000000000) (h : P (k + 1)) : In64 ((k : Int) + 1) ∧ ∃ m', m' < N - k ∧ Cnt N P m' ((k : Int) + 1) :=
  ⟨⟨by omega, by omega⟩, N - (k + 1), by omega, k + 1, rfl, by omega, by omega, h⟩
theorem Cnt.next' {N : Nat} {P : Nat → Prop} {k : Nat} (hk : k < N) (h : P (k + 1)) : ∃ m', m' < N - k ∧ Cnt N P m' ((k : Int) + 1) :=
  ⟨N - (k + 1), by omega, k + 1, rfl, by omega, by omega, h⟩
theorem Cnt.in {N k : Nat} (hk : k < N) (hN : N ≤ 1000000000000) : In64 ((k : Int) + 1) := ⟨by omega, by omega⟩

theorem i64 {a : Int} (h : -9000000000000000000 ≤ a ∧ a ≤ 9000000000000000000) : In64 a := ⟨by omega, by omega⟩
theorem rep_len {τ : Type} (n : Nat) (x : τ) : (List.replicate n x).length = n := List.length_replicate

/-- The list of f's values whose first k places are filled. -/
def upto (f : Nat → Int) (k n : Nat) : List Int := (List.range n).map fun i => if i < k then f i else 0
theorem upto_length (f : Nat → Int) (k n : Nat) : (upto f k n).length = n := by simp [upto]
theorem gi_upto (f : Nat → Int) (k n i : Nat) (hi : i < n) : gi (upto f k n) i = if i < k then f i else 0 := by
  rw [gi_of_lt (by rw [upto_length]; exact hi)]; simp [upto]
theorem upto_zero (f : Nat → Int) (n : Nat) : upto f 0 n = List.replicate n 0 := by
  refine List.ext_getElem (by simp [upto_length]) fun i h1 h2 => ?_
  simp [upto]
theorem upto_set (f : Nat → Int) {k n : Nat} (hk : k < n) : (upto f k n).set k (f k) = upto f (k + 1) n := by
  refine gi_ext (by simp [upto_length]) fun i hi => ?_
  rw [List.length_set, upto_length] at hi
  rw [gi_set (by rw [upto_length]; exact hk), gi_upto _ _ _ _ hi, gi_upto _ _ _ _ hi]
  by_cases e : i = k
  · subst e; simp
  · rw [if_neg e]
    by_cases h : i < k
    · rw [if_pos h, if_pos (by omega)]
    · rw [if_neg h, if_neg (by omega)]
/-- The list of f's first n values. -/
def tab (f : Nat → Int) (n : Nat) : List Int := (List.range n).map f
theorem tab_length (f : Nat → Int) (n : Nat) : (tab f n).length = n := by simp [tab]
theorem gi_tab (f : Nat → Int) {n i : Nat} (hi : i < n) : gi (tab f n) i = f i := by rw [gi_of_lt (by rw [tab_length]; exact hi)]; simp [tab]
theorem upto_all (f : Nat → Int) (n : Nat) : upto f n n = tab f n := by
  refine gi_ext (by simp [upto_length, tab_length]) fun i hi => ?_
  rw [upto_length] at hi
  rw [gi_upto _ _ _ _ hi, if_pos hi, gi_tab _ hi]
theorem tab_congr {f g : Nat → Int} {n : Nat} (h : ∀ i, i < n → f i = g i) : tab f n = tab g n := by
  refine gi_ext (by simp [tab_length]) fun i hi => ?_
  rw [tab_length] at hi
  rw [gi_tab _ hi, gi_tab _ hi, h i hi]
theorem tab_self {l : List Int} : tab (gi l) l.length = l := by
  refine gi_ext (by simp [tab_length]) fun i hi => ?_
  rw [tab_length] at hi
  rw [gi_tab _ hi]
theorem eq_tab {l : List Int} {n : Nat} (hl : l.length = n) (f : Nat → Int) (h : ∀ i, i < n → gi l i = f i) : l = tab f n := by
  subst hl
  refine gi_ext (by simp [tab_length]) fun i hi => ?_
  rw [h i hi, gi_tab _ hi]

theorem sm_bound {f : Nat → Int} {B : Int} (hB : 0 ≤ B) : ∀ {n : Nat}, (∀ i, i < n → -B ≤ f i ∧ f i ≤ B) → -(n * B) ≤ sm n f ∧ sm n f ≤ n * B
  | 0, _ => by simp [sm]
  | n + 1, h => by
    have ih := sm_bound hB (n := n) fun i hi => h i (by omega)
    have := h n (by omega)
    rw [sm, show ((n + 1 : Nat) : Int) * B = n * B + B by rw [Int.natCast_add, Int.add_mul]; simp]
    omega
/-- The degree. -/
def dg (d : List Int) : Int := sm d.length (gi d)
end Go.Proofs.Ytnhmeckhlajeaaa
