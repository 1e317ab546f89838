/- Texts laid together: Cnt, Next. -/
import Derived.Test.YtncilechkclmbaaGreatK3
/- Words for proofs from pure forms: loops that count up, lists that are filled from the left. No program in sight. -/
namespace Go.Proofs.YtncilechkclmbaaGreat
open Go Go.Proofs.Tryz
set_option linter.unusedVariables false
def Cnt (N : Nat) (P : Nat → Prop) (m : Nat) (v : Int) : Prop := ∃ k : Nat, m = N - k ∧ v = (k : Int) ∧ k ≤ N ∧ P k
theorem Cnt.start {N : Nat} {P : Nat → Prop} (h : P 0) : ∃ m0, Cnt N P m0 0 := ⟨N, 0, rfl, rfl, Nat.zero_le _, h⟩
theorem Cnt.next {N : Nat} {P : Nat → Prop} {k : Nat} (hk : k < N) (hN : N ≤ 1000000000000) (h : P (k + 1)) : In64 ((k : Int) + 1) ∧ ∃ m', m' < N - k ∧ Cnt N P m' ((k : Int) + 1) :=
  ⟨⟨by omega, by omega⟩, N - (k + 1), by omega, k + 1, rfl, by omega, by omega, h⟩
theorem Cnt.next' {N : Nat} {P : Nat → Prop} {k : Nat} (hk : k < N) (h : P (k + 1)) : ∃ m', m' < N - k ∧ Cnt N P m' ((k : Int) + 1) :=
  ⟨N - (k + 1), by omega, k + 1, rfl, by omega, by omega, h⟩
theorem i64 {a : Int} (h : -9000000000000000000 ≤ a ∧ a ≤ 9000000000000000000) : In64 a := ⟨by omega, by omega⟩
def tab (f : Nat → Int) (n : Nat) : List Int := (List.range n).map f
theorem ydW (f : Nat → Int) (n : Nat) : (tab f n).length = n := by simp [tab]
theorem yf5 (f : Nat → Int) {n i : Nat} (hi : i < n) : gi (tab f n) i = f i := by rw [yaY (by rw [ydW]; exact hi)]; simp [tab]
theorem eq_tab {l : List Int} {n : Nat} (hl : l.length = n) (f : Nat → Int) (h : ∀ i, i < n → gi l i = f i) : l = tab f n := by
  subst hl
  refine yfe (by simp [ydW]) fun i hi => ?_
  rw [h i hi, yf5 _ hi]
theorem yhw {f : Nat → Int} {B : Int} (hB : 0 ≤ B) : ∀ {n : Nat}, (∀ i, i < n → -B ≤ f i ∧ f i ≤ B) → -(n * B) ≤ sm n f ∧ sm n f ≤ n * B
  | 0, _ => by simp [sm]
  | n + 1, h => by
    have ih := yhw hB (n := n) fun i hi => h i (by omega)
    have := h n (by omega)
    rw [sm, show ((n + 1 : Nat) : Int) * B = n * B + B by rw [Int.natCast_add, Int.add_mul]; simp]
    omega
def dg (d : List Int) : Int := sm d.length (gi d)
end Go.Proofs.YtncilechkclmbaaGreat

/- Effective divisors of a degree in lexicographic order: the next one, all of them. No program in sight. -/
namespace Go.Proofs.YtncilechkclmbaaGreat
open Go Go.Proofs.Tryz
set_option linter.unusedVariables false
set_option linter.unusedSimpArgs false
def ydw (n : Nat) (k : Int) : List Int := List.replicate (n - 1) 0 ++ [k]
def yfg : List Int → Option (List Int)
  | [] => none
  | k :: t => match yfg t with
    | some t' => some (k :: t')
    | none => if t.sum = 0 then none else some ((k + 1) :: ydw t.length (t.sum - 1))
theorem yeD {k : Int} {t t' : List Int} (h : yfg t = some t') : yfg (k :: t) = some (k :: t') := by simp [yfg, h]
theorem ydz {k : Int} {t : List Int} (h : yfg t = none) : yfg (k :: t) = if t.sum = 0 then none else some ((k + 1) :: ydw t.length (t.sum - 1)) := by simp [yfg, h]
def yju : List (List Int) → Option (List Int) → Prop
  | [], _ => False
  | [x], o => yfg x = o
  | x :: y :: t, o => yfg x = some y ∧ yju (y :: t) o
theorem yju.map {s : Int} {m : Nat} (k : Int) : ∀ {L : List (List Int)}, yju L none → (∀ t ∈ L, t.sum = s ∧ t.length = m) → yju (L.map (k :: ·)) (if s = 0 then none else some ((k + 1) :: ydw m (s - 1)))
  | [], h, _ => h.elim
  | [x], h, hs => by
    have hx := hs x (by simp)
    show yfg (k :: x) = _
    rw [ydz h, hx.1, hx.2]
  | x :: y :: t, h, hs => ⟨yeD h.1, yju.map (L := y :: t) k h.2 fun u hu => hs u (by simp [hu])⟩
def ydb : Nat → Nat → List (List Int)
  | 0, _ => []
  | 1, k => [[(k : Int)]]
  | n + 2, k => (List.range (k + 1)).flatMap fun i => (ydb (n + 1) (k - i)).map ((i : Int) :: ·)
theorem ydq : ∀ (n k : Nat) (x : List Int), x ∈ ydb (n + 1) k ↔ x.length = n + 1 ∧ (∀ a ∈ x, 0 ≤ a) ∧ x.sum = k
  | 0, k, x => by
    show x ∈ [[(k : Int)]] ↔ _
    rw [List.mem_singleton]
    constructor
    · rintro rfl; simp
    · rintro ⟨h1, h2, h3⟩
      obtain ⟨a, rfl⟩ := List.length_eq_one_iff.1 h1
      simpa using h3
  | n + 1, k, x => by
    show x ∈ (List.range (k + 1)).flatMap (fun i => (ydb (n + 1) (k - i)).map ((i : Int) :: ·)) ↔ _
    rw [List.mem_flatMap]
    constructor
    · rintro ⟨i, hi, hx⟩
      rw [List.mem_range] at hi
      obtain ⟨t, ht, rfl⟩ := List.mem_map.1 hx
      obtain ⟨h1, h2, h3⟩ := (ydq n (k - i) t).1 ht
      refine ⟨by simp [h1], fun a ha => ?_, ?_⟩
      · rcases List.mem_cons.1 ha with rfl | ha
        · omega
        · exact h2 a ha
      · rw [List.sum_cons, h3]; omega
    · rintro ⟨h1, h2, h3⟩
      cases x with
      | nil => simp at h1
      | cons a t =>
        have ha := h2 a (by simp)
        have hts : 0 ≤ t.sum := by
          have : ∀ l : List Int, (∀ a ∈ l, 0 ≤ a) → 0 ≤ l.sum := fun l => by
            induction l with
            | nil => simp
            | cons b l ih => intro h; rw [List.sum_cons]; have := h b (by simp); have := ih fun c hc => h c (by simp [hc]); omega
          exact this t fun b hb => h2 b (by simp [hb])
        rw [List.sum_cons] at h3
        refine ⟨a.toNat, by rw [List.mem_range]; omega, List.mem_map.2 ⟨t, (ydq n (k - a.toNat) t).2 ⟨by simpa using h1, fun b hb => h2 b (by simp [hb]), by omega⟩, ?_⟩⟩
        rw [Int.toNat_of_nonneg ha]
end Go.Proofs.YtncilechkclmbaaGreat
