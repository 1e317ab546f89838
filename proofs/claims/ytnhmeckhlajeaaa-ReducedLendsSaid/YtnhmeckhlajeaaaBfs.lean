/- Distances by a search in breadth: what its two lists say at each step. No program in sight. -/
import Derived.Test.YtnhmeckhlajeaaaLinks
namespace Go.Proofs.Ytnhmeckhlajeaaa
open Go
set_option linter.unusedVariables false
set_option linter.unusedSimpArgs false
set_option linter.unusedSectionVars false

/-- v and u are joined. -/
def Adj (es : List E3) (v u : Nat) : Prop := ∃ m, ((u : Int), m) ∈ linksF es (v : Int)
theorem mem_linksF {es : List E3} {v u m : Int} : (u, m) ∈ linksF es v ↔ ∃ x ∈ es, x.1 ≠ x.2.1 ∧ (x.1 = v ∨ x.2.1 = v) ∧ u = x.1 + x.2.1 - v ∧ m = x.2.2 := by
  unfold linksF
  rw [List.mem_filterMap]
  constructor
  · rintro ⟨x, hx, hl⟩
    unfold link at hl
    split at hl
    · rename_i h
      simp only [Option.some.injEq, Prod.mk.injEq] at hl
      exact ⟨x, hx, h.1, h.2, hl.1.symm, hl.2.symm⟩
    · cases hl
  · rintro ⟨x, hx, h1, h2, rfl, rfl⟩
    exact ⟨x, hx, by unfold link; rw [if_pos ⟨h1, h2⟩]⟩
theorem Adj.symm {es : List E3} {v u : Nat} (h : Adj es v u) : Adj es u v := by
  obtain ⟨m, h⟩ := h
  obtain ⟨x, hx, h1, h2, h3, h4⟩ := mem_linksF.1 h
  exact ⟨m, mem_linksF.2 ⟨x, hx, h1, by omega, by omega, h4⟩⟩

/-- How many are not known. -/
def cu (o : List Int) : Nat := (o.filter fun x => decide (x < 0)).length
theorem cu_set {o : List Int} {v : Nat} {x : Int} (h : v < o.length) (hv : gi o v < 0) (hx : 0 ≤ x) : cu (o.set v x) + 1 = cu o := by
  unfold cu
  induction o generalizing v with
  | nil => simp at h
  | cons y o ih =>
    cases v with
    | zero =>
      simp [gi] at hv
      simp [List.filter_cons, hv, Int.not_lt.2 hx]
    | succ v =>
      have := ih (v := v) (by simpa using h) (by simpa [gi] using hv)
      simp only [List.set_cons_succ, List.filter_cons]
      split
      · simp only [List.length_cons]; omega
      · omega

structure BIn (n : Nat) (es : List E3) (q v : Nat) (pre : List (Int × Int)) (o : List Int) (Q : List Nat) : Prop where
  len : o.length = n
  vn : v < n
  v0 : 0 ≤ gi o v
  rng : ∀ a ∈ Q, a < n ∧ 0 ≤ gi o a
  q0 : gi o q = 0
  low : ∀ b, -1 ≤ gi o b
  val : ∀ b, gi o b + cu o ≤ (n : Int) - 1
  par : ∀ b, b < n → 0 < gi o b → ∃ u, u < n ∧ Adj es b u ∧ gi o u = gi o b - 1
  top : ∀ b, b < n → gi o b ≤ gi o v + 1
  bot : ∀ a ∈ Q, gi o v ≤ gi o a
  mono : Q.Pairwise fun a b => gi o a ≤ gi o b
  done : ∀ x, x < n → 0 ≤ gi o x → x ∉ Q → x ≠ v → gi o x ≤ gi o v ∧ ∀ u, Adj es x u → 0 ≤ gi o u ∧ gi o u ≤ gi o x + 1
  now : ∀ p ∈ pre, 0 ≤ gi o p.1.toNat ∧ gi o p.1.toNat ≤ gi o v + 1
  zero : ∀ b, b < n → gi o b = 0 → b = q

structure BInv (n : Nat) (es : List E3) (q : Nat) (o : List Int) (Q : List Nat) : Prop where
  len : o.length = n
  rng : ∀ a ∈ Q, a < n ∧ 0 ≤ gi o a
  q0 : gi o q = 0
  low : ∀ b, -1 ≤ gi o b
  val : ∀ b, gi o b + cu o ≤ (n : Int) - 1
  par : ∀ b, b < n → 0 < gi o b → ∃ u, u < n ∧ Adj es b u ∧ gi o u = gi o b - 1
  top : ∀ a ∈ Q, ∀ b, b < n → gi o b ≤ gi o a + 1
  mono : Q.Pairwise fun a b => gi o a ≤ gi o b
  done : ∀ x, x < n → 0 ≤ gi o x → x ∉ Q → (∀ a ∈ Q, gi o x ≤ gi o a) ∧ ∀ u, Adj es x u → 0 ≤ gi o u ∧ gi o u ≤ gi o x + 1
  zero : ∀ b, b < n → gi o b = 0 → b = q

theorem BInv.pop {n : Nat} {es : List E3} {q v : Nat} {o : List Int} {Q : List Nat} (h : BInv n es q o (v :: Q)) : BIn n es q v [] o Q := by
  have hp := List.pairwise_cons.1 h.mono
  refine ⟨h.len, (h.rng v (by simp)).1, (h.rng v (by simp)).2, fun a ha => h.rng a (by simp [ha]), h.q0, h.low, h.val, h.par, h.top v (by simp), hp.1, hp.2, fun x hx h0 hn hne => ?_, by simp, h.zero⟩
  have := h.done x hx h0 (by simp [hn, hne])
  exact ⟨this.1 v (by simp), this.2⟩

theorem BIn.push {n : Nat} {es : List E3} {q v : Nat} {pre : List (Int × Int)} {o : List Int} {Q : List Nat} (h : BIn n es q v pre o Q) {u : Nat} {m : Int} (hu : u < n) (ha : Adj es v u) (hneg : gi o u < 0) :
    BIn n es q v (pre ++ [((u : Int), m)]) (o.set u (gi o v + 1)) (Q ++ [u]) := by
  have hul : u < o.length := by rw [h.len]; exact hu
  have hs : ∀ b, gi (o.set u (gi o v + 1)) b = if b = u then gi o v + 1 else gi o b := fun b => gi_set hul
  have hv0 := h.v0
  have hvu : v ≠ u := by rintro rfl; omega
  have hc := cu_set hul hneg (x := gi o v + 1) (by omega)
  have hkn : ∀ b, 0 ≤ gi o b → gi (o.set u (gi o v + 1)) b = gi o b := fun b hb => by
    rw [hs, if_neg (by rintro rfl; omega)]
  refine ⟨by simpa using h.len, h.vn, by rw [hkn v hv0]; exact hv0, ?_, by rw [hkn q (by rw [h.q0]; omega)]; exact h.q0, ?_, ?_, ?_, ?_, ?_, ?_, ?_, ?_, fun b hb h0 => by
    rw [hs] at h0
    split at h0
    · omega
    · exact h.zero b hb h0⟩
  · intro a ha'
    rcases List.mem_append.1 ha' with h1 | h1
    · have := h.rng a h1; exact ⟨this.1, by rw [hkn a this.2]; exact this.2⟩
    · simp only [List.mem_singleton] at h1; subst h1; exact ⟨hu, by rw [hs, if_pos rfl]; omega⟩
  · intro b; rw [hs]; split
    · omega
    · exact h.low b
  · intro b; rw [hs]
    have := h.val b
    have := h.val v
    split <;> omega
  · intro b hb h0
    rw [hs] at h0
    by_cases e : b = u
    · subst e
      refine ⟨v, h.vn, ha.symm, ?_⟩
      rw [hkn v hv0, hs, if_pos rfl]; omega
    · rw [if_neg e] at h0
      obtain ⟨y, hy, hay, hoy⟩ := h.par b hb h0
      refine ⟨y, hy, hay, ?_⟩
      rw [hkn y (by omega), hs, if_neg e]; exact hoy
  · intro b hb
    rw [hkn v hv0, hs]
    have := h.top b hb
    split <;> omega
  · intro a ha'
    rw [hkn v hv0]
    rcases List.mem_append.1 ha' with h1 | h1
    · have h2 := h.rng a h1; rw [hkn a h2.2]; exact h.bot a h1
    · simp only [List.mem_singleton] at h1; subst h1; rw [hs, if_pos rfl]; omega
  · refine List.pairwise_append.2 ⟨h.mono.imp_of_mem (fun {a b} ha hb hab => by rw [hkn a (h.rng a ha).2, hkn b (h.rng b hb).2]; exact hab), by simp, fun a ha' b hb => ?_⟩
    simp only [List.mem_singleton] at hb; subst hb
    have h2 := h.rng a ha'
    rw [hkn a h2.2, hs, if_pos rfl]
    exact h.top a h2.1
  · intro x hx h0 hn hne
    have hxu : x ≠ u := fun e => hn (by simp [e])
    rw [hs, if_neg hxu] at h0
    have := h.done x hx h0 (fun h => hn (by simp [h])) hne
    rw [hkn v hv0, hs x, if_neg hxu]
    refine ⟨this.1, fun y hy => ?_⟩
    have h2 := this.2 y hy
    rw [hkn y h2.1]; exact h2
  · intro p hp
    rw [hkn v hv0]
    rcases List.mem_append.1 hp with h1 | h1
    · have h2 := h.now p h1; rw [hkn _ h2.1]; exact h2
    · simp only [List.mem_singleton] at h1; subst h1
      simp only [Int.toNat_natCast]
      rw [hs, if_pos rfl]; omega
theorem BIn.pass {n : Nat} {es : List E3} {q v : Nat} {pre : List (Int × Int)} {o : List Int} {Q : List Nat} (h : BIn n es q v pre o Q) {u : Nat} {m : Int} (hu : u < n) (h0 : 0 ≤ gi o u) :
    BIn n es q v (pre ++ [((u : Int), m)]) o Q := by
  refine ⟨h.len, h.vn, h.v0, h.rng, h.q0, h.low, h.val, h.par, h.top, h.bot, h.mono, h.done, fun p hp => ?_, h.zero⟩
  rcases List.mem_append.1 hp with h1 | h1
  · exact h.now p h1
  · simp only [List.mem_singleton] at h1; subst h1
    exact ⟨by simpa using h0, by simpa using h.top u hu⟩
theorem BIn.fin {n : Nat} {es : List E3} {q v : Nat} {o : List Int} {Q : List Nat} (h : BIn n es q v (linksF es (v : Int)) o Q) : BInv n es q o Q := by
  refine ⟨h.len, h.rng, h.q0, h.low, h.val, h.par, fun a ha b hb => ?_, h.mono, fun x hx h0 hn => ?_, h.zero⟩
  · have := h.top b hb; have := h.bot a ha; omega
  · by_cases e : x = v
    · subst e
      refine ⟨fun a ha => h.bot a ha, fun u hu => ?_⟩
      obtain ⟨m, hm⟩ := hu
      have := h.now _ hm
      simpa using this
    · have := h.done x hx h0 hn e
      exact ⟨fun a ha => by have := h.bot a ha; omega, this.2⟩
theorem BInv.start {n : Nat} {es : List E3} {q : Nat} (hq : q < n) : BInv n es q ((List.replicate n (-1)).set q 0) [q] := by
  have hl : q < (List.replicate n (-1 : Int)).length := by simpa using hq
  have hs : ∀ b, gi ((List.replicate n (-1)).set q 0) b = if b = q then 0 else gi (List.replicate n (-1)) b := fun b => gi_set hl
  have hr : ∀ b, b < n → gi (List.replicate n (-1)) b = -1 := fun b hb => by rw [gi_of_lt (by simpa using hb)]; simp
  have hr2 : ∀ b, gi (List.replicate n (-1)) b = -1 ∨ gi (List.replicate n (-1)) b = 0 := fun b => by
    rcases Nat.lt_or_ge b n with h | h
    · exact .inl (hr b h)
    · exact .inr (gi_ge (by simpa using h))
  have hc0 : ∀ n : Nat, cu (List.replicate n (-1)) = n := by
    intro n
    unfold cu
    rw [List.filter_eq_self.2 (fun x hx => by rw [(List.mem_replicate.1 hx).2]; rfl)]
    simp
  have hc := cu_set hl (by rw [hr q hq]; omega) (x := 0) (by omega)
  rw [hc0] at hc
  refine ⟨by simp, fun a ha => ?_, by rw [hs, if_pos rfl], fun b => ?_, fun b => ?_, fun b hb h0 => ?_, fun a ha b hb => ?_, by simp, fun x hx h0 hn => ?_, fun b hb h0 => by
    rw [hs, hr b hb] at h0
    split at h0
    · assumption
    · omega⟩
  · simp only [List.mem_singleton] at ha; subst ha; exact ⟨hq, by rw [hs, if_pos rfl]; omega⟩
  · rw [hs]; rcases hr2 b with h | h <;> split <;> omega
  · rw [hs]
    rcases hr2 b with h | h
    · split <;> omega
    · split <;> omega
  · rw [hs] at h0; rw [hr b hb] at h0; split at h0 <;> omega
  · simp only [List.mem_singleton] at ha; subst ha; rw [hs, hs a, if_pos rfl, hr b hb]; split <;> omega
  · exfalso
    rw [hs, hr x hx] at h0
    split at h0
    · rename_i e; exact hn (by simp [e])
    · omega

/-- What the search ends with. -/
structure Dist (n : Nat) (es : List E3) (q : Nat) (o : List Int) : Prop where
  len : o.length = n
  q0 : gi o q = 0
  low : ∀ b, -1 ≤ gi o b
  high : ∀ b, gi o b ≤ (n : Int) - 1
  par : ∀ b, b < n → 0 < gi o b → ∃ u, u < n ∧ Adj es b u ∧ gi o u = gi o b - 1
  step : ∀ x, x < n → 0 ≤ gi o x → ∀ u, Adj es x u → 0 ≤ gi o u ∧ gi o u ≤ gi o x + 1
  zero : ∀ b, b < n → gi o b = 0 → b = q
theorem BInv.dist {n : Nat} {es : List E3} {q : Nat} {o : List Int} (h : BInv n es q o []) : Dist n es q o :=
  ⟨h.len, h.q0, h.low, fun b => by have := h.val b; omega, h.par, fun x hx h0 => (h.done x hx h0 (by simp)).2, h.zero⟩
end Go.Proofs.Ytnhmeckhlajeaaa
