/- Memory kept out of sight: what a walk reads and owns, each thing by its number; one fact about the world says that all of them are there, apart from each other. No program in sight. -/
import Derived.Test.YtnhmeckhlajeaaaMo
namespace Go.Proofs.Ytnhmeckhlajeaaa
open Go Go.RowKit Go.Shelf
set_option linter.unusedVariables false
set_option linter.unusedSimpArgs false

/-- Nothing. -/
def no : Nat → Prop := fun _ => False
theorem no_lt (n : Nat) : ∀ k, no k → k < n := fun _ h => h.elim

/-- What an element of a slice is: how its cells read. O: blocks that it does not reach. -/
structure Cod (τ : Type) where
  sz : Nat
  R : (Nat → Prop) → World → List Value → τ → Prop
  len : ∀ {O w vs x}, R O w vs x → vs.length = sz
  one : ∀ {O w vs x}, R O w vs x → ∀ u ∈ vs, u.oneCell' = true
  keep : ∀ {O w w' vs x}, R O w vs x → Keeps O w w' → R O w' vs x
  sub : ∀ {O O' w vs x}, R O w vs x → (∀ k, k < w.heap.size → O' k → O k) → R O' w vs x

/-- Flat elements: their cells are a function of what they are. -/
structure Fl (τ : Type) where
  sz : Nat
  enc : τ → List Value
  len : ∀ x, (enc x).length = sz
  one : ∀ x, ∀ u ∈ enc x, u.oneCell' = true
def Fl.cod {τ : Type} (f : Fl τ) : Cod τ where
  sz := f.sz
  R := fun _ _ vs x => vs = f.enc x
  len := fun h => by rw [h, f.len]
  one := fun h => by rw [h]; exact f.one _
  keep := fun h _ => h
  sub := fun h _ => h
def fI (k : IntKind) : Fl Int := ⟨1, fun x => [.int k x], fun _ => rfl, fun x u hu => by rw [List.mem_singleton] at hu; subst hu; rfl⟩
def fB : Fl Bool := ⟨1, fun x => [.bool x], fun _ => rfl, fun x u hu => by rw [List.mem_singleton] at hu; subst hu; rfl⟩
def fP {α β : Type} (a : Fl α) (b : Fl β) : Fl (α × β) := ⟨a.sz + b.sz, fun x => a.enc x.1 ++ b.enc x.2, fun x => by rw [List.length_append, a.len, b.len], fun x u hu => by
  rcases List.mem_append.1 hu with h | h
  · exact a.one _ u h
  · exact b.one _ u h⟩
/-- Numbers, bools. -/
def cI : Cod Int := (fI .i64).cod
def cB : Cod Bool := fB.cod
def c2 : Cod (Int × Int) := (fP (fI .i64) (fI .i64)).cod
def c3 : Cod (Int × Int × Int) := (fP (fI .i64) (fP (fI .i64) (fI .i64))).cod

/-- Behind the address A the cells read as xs. -/
def Sl {τ : Type} (c : Cod τ) (O : Nat → Prop) (w : World) (A : Option Addr) (xs : List τ) : Prop :=
  0 < xs.length → ∃ b off, A = some ⟨b, off, none⟩ ∧ b < w.heap.size ∧ ¬ O b ∧ ∀ (k : Nat) x, xs[k]? = some x → ∃ vs, c.R O w vs x ∧ ∀ (j : Nat) u, vs[j]? = some u → w.cell? ⟨b, off + k * c.sz + j, none⟩ = some u
section
variable {τ : Type} {c : Cod τ} {O O' : Nat → Prop} {w w' : World} {A : Option Addr} {xs : List τ}
theorem Sl.nil (c : Cod τ) (O : Nat → Prop) (w : World) (A : Option Addr) : Sl c O w A [] := fun h => absurd h (by simp)
theorem Sl.keep (h : Sl c O w A xs) (hk : Keeps O w w') : Sl c O w' A xs := fun hl => by
  obtain ⟨b, off, e, hb, ho, hc⟩ := h hl
  refine ⟨b, off, e, Nat.lt_of_lt_of_le hb hk.size, ho, fun k x hx => ?_⟩
  obtain ⟨vs, h1, h2⟩ := hc k x hx
  exact ⟨vs, c.keep h1 hk, fun j u hj => hk.cell ho (h2 j u hj)⟩
theorem Sl.sub (h : Sl c O w A xs) (hs : ∀ k, k < w.heap.size → O' k → O k) : Sl c O' w A xs := fun hl => by
  obtain ⟨b, off, e, hb, ho, hc⟩ := h hl
  refine ⟨b, off, e, hb, fun hb' => ho (hs b hb hb'), fun k x hx => ?_⟩
  obtain ⟨vs, h1, h2⟩ := hc k x hx
  exact ⟨vs, c.sub h1 hs, h2⟩
end
/-- A list as an element. -/
def cL {τ : Type} (c : Cod τ) : Cod (List τ) where
  sz := 1
  R := fun O w vs xs => ∃ A l cap, vs = [.slice A l cap] ∧ l = xs.length ∧ l ≤ cap ∧ Sl c O w A xs
  len := fun ⟨_, _, _, h, _⟩ => by rw [h]; rfl
  one := fun ⟨_, _, _, h, _⟩ u hu => by rw [h, List.mem_singleton] at hu; subst hu; rfl
  keep := fun ⟨A, l, cap, h, h1, h2, h3⟩ hk => ⟨A, l, cap, h, h1, h2, h3.keep hk⟩
  sub := fun ⟨A, l, cap, h, h1, h2, h3⟩ hs => ⟨A, l, cap, h, h1, h2, h3.sub hs⟩

/-- A fact that reaches some blocks. -/
structure FP where
  P : (Nat → Prop) → World → Prop
  keep : ∀ {O w w'}, P O w → Keeps O w w' → P O w'
  sub : ∀ {O O' w}, P O w → (∀ k, k < w.heap.size → O' k → O k) → P O' w
def FP.sl {τ : Type} (c : Cod τ) (A : Option Addr) (l cap : Nat) (xs : List τ) : FP :=
  ⟨fun O w => l = xs.length ∧ l ≤ cap ∧ Sl c O w A xs, fun ⟨h1, h2, h3⟩ hk => ⟨h1, h2, h3.keep hk⟩, fun ⟨h1, h2, h3⟩ hs => ⟨h1, h2, h3.sub hs⟩⟩
def FP.bx (e : TypeId) (g : Nat) (cells : List Value) : FP :=
  ⟨fun O w => ¬ O g ∧ Row w g e cells.length cells, fun ⟨h1, h2⟩ hk => ⟨h1, h2.keep (hk.block _ h2.lt h1)⟩, fun ⟨h1, h2⟩ hs => ⟨fun h => h1 (hs _ h2.lt h), h2⟩⟩
def FP.cl (p : Addr) (v : Value) : FP :=
  ⟨fun O w => ¬ O p.block ∧ w.cell? p = some v, fun ⟨h1, h2⟩ hk => ⟨h1, hk.cell h1 h2⟩, fun ⟨h1, h2⟩ hs => ⟨fun h => h1 (hs _ (by
    rcases Nat.lt_or_ge p.block _ with h1 | h1
    · exact h1
    · rw [World.cell?, Array.getElem?_eq_none h1] at h2; cases h2) h), h2⟩⟩

/-- A slice of one's own. -/
def OwnC {τ : Type} (c : Cod τ) (B : Nat) (O : Nat → Prop) (w : World) (e : TypeId) (A : Option Addr) (l cap : Nat) (xs : List τ) : Prop :=
  l = xs.length ∧ ∃ cells, OwnS w B e c.sz A l cap cells ∧ ∀ (k : Nat) x, xs[k]? = some x → ∃ vs, c.R O w vs x ∧ ∀ (j : Nat) u, vs[j]? = some u → cells[k * c.sz + j]? = some u
theorem OwnS.cellAt {w : World} {B : Nat} {e : TypeId} {sz : Nat} {A : Option Addr} {l c : Nat} {xs : List Value} (h : OwnS w B e sz A l c xs) {i : Nat} {u : Value} (hu : xs[i]? = some u) : ∃ g o, A = some ⟨g, o, none⟩ ∧ g < w.heap.size ∧ w.cell? ⟨g, o + i, none⟩ = some u ∧ w.frozen? ⟨g, o + i, none⟩ = false := by
  rcases h.2 with ⟨rfl, rfl, rfl⟩ | ⟨g, o, cur, rfl, hb, hg, h1, h2, h3, h4⟩
  · have := h.1
    simp at this
    subst this
    simp at hu
  · refine ⟨g, o, rfl, (Array.getElem?_eq_some_iff.1 hg).1, ?_, by simp [World.frozen?, hg]⟩
    have hi : i < l * sz := by
      rcases Nat.lt_or_ge i xs.length with q | q
      · rw [← h.1]; exact q
      · rw [List.getElem?_eq_none q] at hu; cases hu
    rw [← h4, List.getElem?_take, if_pos hi, List.getElem?_drop] at hu
    rw [cell_of_row w g (o + i) cur e (0, 0) hg]
    simpa using hu
theorem OwnS.set1 {w : World} {B : Nat} {e : TypeId} {sz : Nat} {A : Option Addr} {l c : Nat} {xs : List Value} (h : OwnS w B e sz A l c xs) {i : Nat} (hi : i < xs.length) (v : Value) {g o : Nat} (hA : A = some ⟨g, o, none⟩) : OwnS (w.setCell ⟨g, o + i, none⟩ v) B e sz A l c (xs.set i v) := by
  refine ⟨by rw [List.length_set]; exact h.1, ?_⟩
  rcases h.2 with ⟨rfl, rfl, rfl⟩ | ⟨g', o', cur, rfl, hb, hg, h1, h2, h3, h4⟩
  · cases hA
  · cases hA
    refine .inr ⟨g, o, cur.setIfInBounds (o + i) v, rfl, hb, ?_, h1, h2, by simpa using h3, ?_⟩
    · simp [World.setCell, Array.getElem?_modify, hg]
    · have hi' : i < l * sz := by rw [← h.1]; exact hi
      rw [Array.toList_setIfInBounds, ← h4, List.drop_set, if_neg (by omega), Nat.add_sub_cancel_left, List.take_set]
theorem OwnS.at_ {w : World} {B : Nat} {e : TypeId} {sz : Nat} {A : Option Addr} {l c : Nat} {xs : List Value} (h : OwnS w B e sz A l c xs) {k : Nat} (hk : A.map (·.block) = some k) : B ≤ k ∧ k < w.heap.size := by
  rcases h.2 with ⟨rfl, rfl, rfl⟩ | ⟨g, o, cur, rfl, hb, hg, _⟩
  · cases hk
  · simp at hk; subst hk; exact ⟨hb, (Array.getElem?_eq_some_iff.1 hg).1⟩
theorem OwnS.keep_ {w w' : World} {B : Nat} {e : TypeId} {sz : Nat} {A : Option Addr} {l c : Nat} {xs : List Value} (h : OwnS w B e sz A l c xs) (hk : ∀ k, A.map (·.block) = some k → w'.heap[k]? = w.heap[k]?) : OwnS w' B e sz A l c xs := by
  refine ⟨h.1, ?_⟩
  rcases h.2 with q | ⟨g, o, cur, rfl, hb, hg, q⟩
  · exact .inl q
  · exact .inr ⟨g, o, cur, rfl, hb, (hk g rfl).trans hg, q⟩
theorem OwnS.base {w : World} {B B' : Nat} {e : TypeId} {sz : Nat} {A : Option Addr} {l c : Nat} {xs : List Value} (h : OwnS w B e sz A l c xs) (hB : B' ≤ B) : OwnS w B' e sz A l c xs := by
  refine ⟨h.1, ?_⟩
  rcases h.2 with q | ⟨g, o, cur, rfl, hb, hg, q⟩
  · exact .inl q
  · exact .inr ⟨g, o, cur, rfl, Nat.le_trans hB hb, hg, q⟩
theorem OwnS.caps {w : World} {B : Nat} {e : TypeId} {sz : Nat} {A : Option Addr} {l c : Nat} {xs : List Value} (h : OwnS w B e sz A l c xs) : l ≤ c := by
  rcases h.2 with ⟨rfl, rfl, rfl⟩ | ⟨g, o, cur, rfl, hb, hg, q, _⟩
  · exact Nat.le_refl _
  · exact q
section
variable {τ : Type} {c : Cod τ} {B : Nat} {O O' : Nat → Prop} {w w' : World} {e : TypeId} {A : Option Addr} {l cap : Nat} {xs : List τ}
theorem OwnC.nil (c : Cod τ) (B : Nat) (O : Nat → Prop) (w : World) (e : TypeId) : OwnC c B O w e none 0 0 [] := ⟨rfl, [], OwnS.nil w B e c.sz, fun k x h => by simp at h⟩
/-- Who owns can read. -/
theorem OwnC.rd (h : OwnC c B O w e A l cap xs) (hs : ∀ k, k < w.heap.size → O' k → O k) (hA : ∀ k, A.map (·.block) = some k → ¬ O' k) : (FP.sl c A l cap xs).P O' w := by
  obtain ⟨hl, cells, ho, hc⟩ := h
  refine ⟨hl, ho.caps, fun h0 => ?_⟩
  rcases ho.2 with ⟨rfl, rfl, rfl⟩ | ⟨g, o, cur, rfl, hb, hg, q⟩
  · omega
  · refine ⟨g, o, rfl, (Array.getElem?_eq_some_iff.1 hg).1, hA g rfl, fun k x hx => ?_⟩
    obtain ⟨vs, h1, h2⟩ := hc k x hx
    refine ⟨vs, c.sub h1 hs, fun j u hj => ?_⟩
    obtain ⟨g', o', e', _, hcell, _⟩ := ho.cellAt (h2 j u hj)
    cases e'
    rw [Nat.add_assoc]; exact hcell
end

/-- A thing that a walk has: a slice of its own, a variable in memory, a fact. -/
inductive Res : Type 1
  | own {τ : Type} (c : Cod τ) (e : TypeId) (A : Option Addr) (l cap : Nat) (xs : List τ)
  | box (e : TypeId) (g : Nat) (cells : List Value)
  | ro (Φ : FP)
  | gone
def Res.blk : Res → Option Nat
  | .own _ _ A _ _ _ => A.map (·.block)
  | .box _ g _ => some g
  | _ => none
def Res.ok (B : Nat) (O : Nat → Prop) (w : World) : Res → Prop
  | .own c e A l cap xs => OwnC c B O w e A l cap xs
  | .box e g cells => B ≤ g ∧ Row w g e cells.length cells
  | .ro Φ => Φ.P O w
  | .gone => True
abbrev Hold := Nat → Res
/-- The blocks of what is owned, and O. -/
def Bl (O : Nat → Prop) (L : Hold) (k : Nat) : Prop := O k ∨ ∃ i, (L i).blk = some k
def stl (L : Hold) (i : Nat) (r : Res) : Hold := fun j => bif Nat.beq j i then r else L j
def rl : List Res → Hold
  | [], _ => .gone
  | r :: _, 0 => r
  | _ :: t, n + 1 => rl t n
theorem stl_same (L : Hold) (i : Nat) (r : Res) : stl L i r i = r := by simp [stl]
theorem stl_other (L : Hold) {i j : Nat} (r : Res) (h : j ≠ i) : stl L i r j = L j := by
  unfold stl
  cases hq : Nat.beq j i with
  | false => rfl
  | true => exact absurd (Nat.eq_of_beq_eq_true hq) h

theorem Res.ok.lt {B : Nat} {O : Nat → Prop} {w : World} {r : Res} (h : r.ok B O w) {k : Nat} (hk : r.blk = some k) : B ≤ k ∧ k < w.heap.size := by
  cases r with
  | own c e A l cap xs => obtain ⟨_, cells, ho, _⟩ := h; exact ho.at_ hk
  | box e g cells => cases hk; exact ⟨h.1, h.2.lt⟩
  | ro Φ => cases hk
  | gone => cases hk
theorem Res.ok.base {B B' : Nat} {O : Nat → Prop} {w : World} {r : Res} (h : r.ok B O w) (hB : B' ≤ B) : r.ok B' O w := by
  cases r with
  | own c e A l cap xs => obtain ⟨hl, cells, ho, hc⟩ := h; exact ⟨hl, cells, ho.base hB, hc⟩
  | box e g cells => exact ⟨Nat.le_trans hB h.1, h.2⟩
  | ro Φ => exact h
  | gone => trivial
theorem Res.ok.keep {B : Nat} {O O' S : Nat → Prop} {w w' : World} {r : Res} (h : r.ok B O w) (hK : Keeps S w w') (hb : ∀ k, r.blk = some k → ¬ S k) (hS : ∀ k, k < w.heap.size → S k → O k) (hO : ∀ k, k < w.heap.size → O' k → O k) : r.ok B O' w' := by
  have hK2 : Keeps (fun k => O' k ∨ S k) w w' := hK.mono fun k _ h => .inr h
  have hsub : ∀ k, k < w.heap.size → (O' k ∨ S k) → O k := fun k hk h => h.elim (hO k hk) (hS k hk)
  cases r with
  | own c e A l cap xs =>
    obtain ⟨hl, cells, ho, hc⟩ := h
    refine ⟨hl, cells, ho.keep_ fun k hk => hK.block k (ho.at_ hk).2 (hb k hk), fun k x hx => ?_⟩
    obtain ⟨vs, h1, h2⟩ := hc k x hx
    exact ⟨vs, c.sub (c.keep (c.sub h1 hsub) hK2) fun k _ h => .inl h, h2⟩
  | box e g cells => exact ⟨h.1, h.2.keep (hK.block g h.2.lt (hb g rfl))⟩
  | ro Φ => exact Φ.sub (Φ.keep (Φ.sub h hsub) hK2) fun k _ h => .inl h
  | gone => trivial

/-- All that a walk has is there; nothing that was there before has changed but S, which was lent. -/
structure Sep (w0 : World) (S O : Nat → Prop) (w : World) (L : Hold) : Prop where
  pure : Keeps S w0 w
  lt : ∀ k, O k → k < w0.heap.size ∧ ¬ S k
  ok : ∀ i, (L i).ok 0 (Bl O L) w
  bd : ∀ i k, (L i).blk = some k → w0.heap.size ≤ k ∨ S k
  nd : ∀ i j k, (L i).blk = some k → (L j).blk = some k → i = j

section
variable {w0 w w' : World} {S O : Nat → Prop} {L L' : Hold}
theorem Sep.start (w : World) (hO : ∀ k, O k → k < w.heap.size) : Sep w no O w (rl []) := ⟨Keeps.refl _ _, fun k hk => ⟨hO k hk, id⟩, fun i => by cases i <;> trivial, fun i k h => (by cases i <;> cases h), fun i j k h => by cases i <;> cases h⟩
theorem Sep.blt (h : Sep w0 S O w L) : ∀ k, Bl O L k → k < w.heap.size := fun k hk => by
  rcases hk with hk | ⟨i, hi⟩
  · exact Nat.lt_of_lt_of_le (h.lt k hk).1 h.pure.size
  · exact ((h.ok i).lt hi).2
theorem Sep.step (h : Sep w0 S O w L) {T : Nat → Prop} (hK : Keeps T w w') (hS : ∀ k, k < w.heap.size → T k → ∃ i, (L i).blk = some k)
    (hb : ∀ j k, (L' j).blk = some k → (∃ i, (L i).blk = some k) ∨ w.heap.size ≤ k) (hok : ∀ j, (∃ i, L' j = L i ∧ ∀ k, (L i).blk = some k → ¬ T k) ∨ (L' j).ok 0 (Bl O L') w')
    (nd : ∀ i j k, (L' i).blk = some k → (L' j).blk = some k → i = j) : Sep w0 S O w' L' := by
  refine ⟨⟨hK.os.trans h.pure.os, hK.tape.trans h.pure.tape, hK.output.trans h.pure.output, Nat.le_trans h.pure.size hK.size, fun k hk hn => ?_⟩, h.lt, fun j => ?_, fun j k hk => ?_, nd⟩
  · have hk2 := Nat.lt_of_lt_of_le hk h.pure.size
    refine (hK.block k hk2 fun hs => ?_).trans (h.pure.block k hk hn)
    obtain ⟨i, hi⟩ := hS k hk2 hs
    rcases h.bd i k hi with q | q
    · omega
    · exact hn q
  · rcases hok j with ⟨i, e, hi⟩ | hj
    · rw [e]
      refine (h.ok i).keep hK hi (fun k hk hs => .inr (hS k hk hs)) fun k hk hO => ?_
      rcases hO with hO | ⟨j', hj'⟩
      · exact .inl hO
      · rcases hb j' k hj' with q | q
        · exact .inr q
        · omega
    · exact hj
  · rcases hb j k hk with ⟨i, q⟩ | q
    · exact h.bd i k q
    · exact .inl (Nat.le_trans h.pure.size q)
/-- Nothing that was there has changed. -/
theorem Sep.pur (h : Sep w0 S O w L) (hK : Pure w w') : Sep w0 S O w' L :=
  h.step (T := no) hK (fun _ _ h => h.elim) (fun j k hk => .inl ⟨j, hk⟩) (fun j => .inl ⟨j, rfl, fun _ _ => id⟩) h.nd
theorem Sep.drew (h : Sep w0 S O w L) : Sep w0 S O w.drew L := h.pur (Keeps.refl _ _).drew
/-- One thing changes. -/
theorem Sep.upd (h : Sep w0 S O w L) (i : Nat) (r' : Res) {T : Nat → Prop} (hK : Keeps T w w') (hS : ∀ k, k < w.heap.size → T k → (L i).blk = some k) (hb : ∀ k, r'.blk = some k → (L i).blk = some k ∨ w.heap.size ≤ k)
    (hok : r'.ok 0 (Bl O (stl L i r')) w') : Sep w0 S O w' (stl L i r') := by
  refine h.step hK (fun k hk hs => ⟨i, hS k hk hs⟩) (fun j k hk => ?_) (fun j => ?_) (fun a b k ha hb' => ?_)
  · by_cases e : j = i
    · subst e
      rw [stl_same] at hk
      rcases hb k hk with q | q
      · exact .inl ⟨j, q⟩
      · exact .inr q
    · rw [stl_other _ _ e] at hk; exact .inl ⟨j, hk⟩
  · by_cases e : j = i
    · subst e; rw [stl_same]; exact .inr hok
    · rw [stl_other _ _ e]
      refine .inl ⟨j, rfl, fun k hk hs => ?_⟩
      have := hS k ((h.ok j).lt hk).2 hs
      exact e (h.nd j i k hk this)
  · have key : ∀ a b, a ≠ i → b = i → (stl L i r' a).blk = some k → (stl L i r' b).blk = some k → False := fun a b h1 h2 ha hb' => by
      subst h2
      rw [stl_other _ _ h1] at ha
      rw [stl_same] at hb'
      rcases hb k hb' with q | q
      · exact h1 (h.nd _ _ k ha q)
      · have := ((h.ok a).lt ha).2; omega
    by_cases e1 : a = i
    · by_cases e2 : b = i
      · omega
      · exact (key b a e2 e1 hb' ha).elim
    · by_cases e2 : b = i
      · exact (key a b e1 e2 ha hb').elim
      · rw [stl_other _ _ e1] at ha; rw [stl_other _ _ e2] at hb'; exact h.nd _ _ k ha hb'
/-- One thing more. -/
theorem Sep.add (h : Sep w0 S O w L) (i : Nat) (hi : L i = .gone) (r' : Res) (hK : Pure w w') (hb : ∀ k, r'.blk = some k → w.heap.size ≤ k) (hok : r'.ok 0 (Bl O (stl L i r')) w') : Sep w0 S O w' (stl L i r') :=
  h.upd i r' (T := no) hK (fun _ _ h => h.elim) (fun k hk => .inr (hb k hk)) hok
theorem Bl.add_ro {i : Nat} (hi : L i = .gone) {r : Res} (hr : r.blk = none) : ∀ k, Bl O (stl L i r) k → Bl O L k := by
  rintro k (h | ⟨j, hj⟩)
  · exact .inl h
  · by_cases e : j = i
    · subst e; rw [stl_same, hr] at hj; cases hj
    · rw [stl_other _ _ e] at hj; exact .inr ⟨j, hj⟩
theorem Bl.sub_ro {i : Nat} {r : Res} (hr : ∀ k, r.blk = some k → (L i).blk = some k) : ∀ k, Bl O (stl L i r) k → Bl O L k := by
  rintro k (h | ⟨j, hj⟩)
  · exact .inl h
  · by_cases e : j = i
    · subst e; rw [stl_same] at hj; exact .inr ⟨j, hr k hj⟩
    · rw [stl_other _ _ e] at hj; exact .inr ⟨j, hj⟩
theorem Sep.addro (h : Sep w0 S O w L) (i : Nat) (hi : L i = .gone) (Φ : FP) (hp : Φ.P (Bl O L) w) : Sep w0 S O w (stl L i (.ro Φ)) :=
  h.add i hi _ (Keeps.refl _ _) (fun k hk => by cases hk) (Φ.sub hp fun k _ hk => Bl.add_ro hi rfl k hk)
/-- Some of the things, in another order. -/
theorem Sep.sel (h : Sep w0 S O w L) (js : List Nat) (hj : js.Nodup) : Sep w0 S O w (rl (js.map L)) := by
  have hrl : ∀ (js : List Nat) (i : Nat), rl (js.map L) i = match js[i]? with | some j => L j | none => .gone := by
    intro js
    induction js with
    | nil => intro i; cases i <;> rfl
    | cons a t ih => intro i; cases i with
                     | zero => rfl
                     | succ i => rw [List.map_cons, rl, ih i]; simp
  refine h.step (T := no) (Keeps.refl _ _) (fun _ _ h => h.elim) (fun i k hk => ?_) (fun i => ?_) (fun a b k ha hb => ?_)
  · rw [hrl] at hk
    cases hq : js[i]? with
    | none => rw [hq] at hk; cases hk
    | some j => rw [hq] at hk; exact .inl ⟨j, hk⟩
  · rw [hrl]
    cases hq : js[i]? with
    | none => exact .inr trivial
    | some j => exact .inl ⟨j, rfl, fun _ _ => id⟩
  · rw [hrl] at ha hb
    cases hq : js[a]? with
    | none => rw [hq] at ha; cases ha
    | some x =>
      cases hq2 : js[b]? with
      | none => rw [hq2] at hb; cases hb
      | some y =>
        rw [hq] at ha; rw [hq2] at hb
        have e := h.nd x y k ha hb
        subst e
        have h1 := List.getElem?_eq_some_iff.1 hq
        have h2 := List.getElem?_eq_some_iff.1 hq2
        obtain ⟨l1, e1⟩ := h1
        obtain ⟨l2, e2⟩ := h2
        exact (List.getElem_inj hj).1 (e1.trans e2.symm)
/-- One's own slice is only read from now on. -/
theorem Sep.frz {τ : Type} (h : Sep w0 S O w L) (i : Nat) {c : Cod τ} {e : TypeId} {A : Option Addr} {l cap : Nat} {xs : List τ} (hi : L i = .own c e A l cap xs) : Sep w0 S O w (stl L i (.ro (FP.sl c A l cap xs))) := by
  have ho : OwnC c 0 (Bl O L) w e A l cap xs := by have := h.ok i; rw [hi] at this; exact this
  have hs := Bl.sub_ro (L := L) (O := O) (i := i) (r := .ro (FP.sl c A l cap xs)) (fun k hk => by cases hk)
  refine h.upd i _ (T := no) (Keeps.refl _ _) (fun _ _ h => h.elim) (fun k hk => by cases hk) (ho.rd (fun k _ hk => hs k hk) fun k hk hk2 => ?_)
  rcases hk2 with q | ⟨j, q⟩
  · have h1 := h.lt k q
    rcases h.bd i k (by rw [hi]; exact hk) with h2 | h2
    · omega
    · exact h1.2 h2
  · by_cases e : j = i
    · subst e; rw [stl_same] at q; cases q
    · rw [stl_other _ _ e] at q
      exact e (h.nd j i k q (by rw [hi]; exact hk))
/-- A variable is only read from now on. -/
theorem Sep.frzb (h : Sep w0 S O w L) (i : Nat) {e : TypeId} {g : Nat} {cells : List Value} (hi : L i = .box e g cells) : Sep w0 S O w (stl L i (.ro (FP.bx e g cells))) := by
  have ho : 0 ≤ g ∧ Row w g e cells.length cells := by have := h.ok i; rw [hi] at this; exact this
  have hs := Bl.sub_ro (L := L) (O := O) (i := i) (r := .ro (FP.bx e g cells)) (fun k hk => by cases hk)
  refine h.upd i _ (T := no) (Keeps.refl _ _) (fun _ _ h => h.elim) (fun k hk => by cases hk) ⟨fun hk2 => ?_, ho.2⟩
  rcases hk2 with q | ⟨j, q⟩
  · have h1 := h.lt g q
    rcases h.bd i g (by rw [hi]; rfl) with h2 | h2
    · omega
    · exact h1.2 h2
  · by_cases e : j = i
    · subst e; rw [stl_same] at q; cases q
    · rw [stl_other _ _ e] at q
      exact e (h.nd j i g q (by rw [hi]; rfl))
theorem Sep.own {τ : Type} (h : Sep w0 S O w L) (i : Nat) {c : Cod τ} {e : TypeId} {A : Option Addr} {l cap : Nat} {xs : List τ} (hi : L i = .own c e A l cap xs) : OwnC c 0 (Bl O L) w e A l cap xs := by
  have := h.ok i; rw [hi] at this; exact this
theorem Sep.ro (h : Sep w0 S O w L) (i : Nat) {Φ : FP} (hi : L i = .ro Φ) : Φ.P (Bl O L) w := by
  have := h.ok i; rw [hi] at this; exact this
theorem Sep.bx (h : Sep w0 S O w L) (i : Nat) {e : TypeId} {g : Nat} {cells : List Value} (hi : L i = .box e g cells) : Row w g e cells.length cells := by
  have := h.ok i; rw [hi] at this; exact this.2
theorem Sep.bxr (h : Sep w0 S O w L) (i : Nat) {e : TypeId} {g : Nat} {cells : List Value} (hi : L i = .ro (FP.bx e g cells)) : Row w g e cells.length cells := (h.ro i hi).2
/-- What is owned, and what is only read, as reading. -/
theorem Sep.rdo {τ : Type} (h : Sep w0 S O w L) (i : Nat) {c : Cod τ} {e : TypeId} {A : Option Addr} {l cap : Nat} {xs : List τ} (hi : L i = .own c e A l cap xs) : (FP.sl c A l cap xs).P no w :=
  (h.own i hi).rd (fun _ _ h => h.elim) fun _ _ => id
theorem Sep.rdr {τ : Type} (h : Sep w0 S O w L) (i : Nat) {c : Cod τ} {A : Option Addr} {l cap : Nat} {xs : List τ} (hi : L i = .ro (FP.sl c A l cap xs)) : (FP.sl c A l cap xs).P no w :=
  (FP.sl c A l cap xs).sub (h.ro i hi) fun _ _ h => h.elim
end

section
variable {τ : Type} {c : Cod τ} {O : Nat → Prop} {w : World} {A : Option Addr} {l cap : Nat} {xs : List τ}
theorem rd_len (h : (FP.sl c A l cap xs).P O w) : l = xs.length := h.1
theorem rd_ix (h : (FP.sl c A l cap xs).P O w) {i : Int} (hx : 0 ≤ i ∧ i < (xs.length : Int)) : Ix A l i := by
  obtain ⟨h1, h2, h3⟩ := h
  obtain ⟨b, off, rfl, _⟩ := h3 (by omega)
  exact ⟨rfl, hx.1, by omega⟩
theorem ixA_off_ (g o : Nat) (i : Int) (sz : Nat) : ixA (some ⟨g, o, none⟩) i sz = ⟨g, o + i.toNat * sz, none⟩ := by simp [ixA, Addr.add_mid]
theorem rd_cell (h : (FP.sl c A l cap xs).P O w) {i : Int} (hx : 0 ≤ i ∧ i < (xs.length : Int)) {x : τ} (he : i.toNat < xs.length → xs[i.toNat]? = some x) : ∃ vs, c.R O w vs x ∧ ¬ O (ixA A i c.sz).block ∧ ∀ (j : Nat) u, vs[j]? = some u → w.cell? ((ixA A i c.sz).add j) = some u := by
  obtain ⟨h1, h2, h3⟩ := h
  obtain ⟨b, off, rfl, hb, ho, hc⟩ := h3 (by omega)
  obtain ⟨vs, hv, hu⟩ := hc _ _ (he (by omega))
  rw [ixA_off_]
  exact ⟨vs, hv, ho, fun j u hj => by rw [Addr.add_mid]; exact hu j u hj⟩
/-- A cell of a flat element. -/
theorem rd_f {f : Fl τ} (h : (FP.sl f.cod A l cap xs).P O w) {i : Int} (hx : 0 ≤ i ∧ i < (xs.length : Int)) {x : τ} (he : i.toNat < xs.length → xs[i.toNat]? = some x) (j : Nat) {u : Value} (hj : (f.enc x)[j]? = some u) : w.cell? ((ixA A i f.sz).add j) = some u := by
  obtain ⟨vs, hv, ho, hu⟩ := rd_cell h hx he
  have hv : vs = f.enc x := hv
  subst hv
  exact hu j u hj
theorem rd_1 {f : Fl τ} (h : (FP.sl f.cod A l cap xs).P O w) {i : Int} (hx : 0 ≤ i ∧ i < (xs.length : Int)) {x : τ} (he : i.toNat < xs.length → xs[i.toNat]? = some x) {u : Value} (hj : (f.enc x)[0]? = some u) : w.cell? (ixA A i f.sz) = some u := rd_f h hx he 0 hj
theorem rd_fs {f : Fl τ} (h : (FP.sl f.cod A l cap xs).P O w) {i : Int} (hx : 0 ≤ i ∧ i < (xs.length : Int)) {x : τ} (he : i.toNat < xs.length → xs[i.toNat]? = some x) : Cells w (ixA A i f.sz) 0 (f.enc x) := by
  have H : ∀ (vs pre : List Value), f.enc x = pre ++ vs → Cells w (ixA A i f.sz) pre.length vs := by
    intro vs
    induction vs with
    | nil => intro pre _; trivial
    | cons v t ih =>
      intro pre hp
      refine ⟨rd_f h hx he _ (by rw [hp]; simp), ?_⟩
      have := ih (pre ++ [v]) (by rw [hp]; simp)
      simpa using this
  exact H _ [] rfl
/-- An element that is a slice. -/
theorem rd_l {c : Cod τ} {xs : List (List τ)} (h : (FP.sl (cL c) A l cap xs).P O w) {i : Int} (hx : 0 ≤ i ∧ i < (xs.length : Int)) {x : List τ} (he : i.toNat < xs.length → xs[i.toNat]? = some x) :
    ∃ A' l' cap', w.cell? (ixA A i 1) = some (.slice A' l' cap') ∧ (FP.sl c A' l' cap' x).P O w ∧ ¬ O (ixA A i 1).block := by
  obtain ⟨vs, ⟨A', l', cap', rfl, h1, h2, h3⟩, ho, hu⟩ := rd_cell h hx he
  exact ⟨A', l', cap', hu 0 _ rfl, ⟨h1, h2, h3⟩, ho⟩
end
theorem gi_some {l : List Int} {k : Nat} (h : k < l.length) : l[k]? = some (gi l k) := by rw [gi_of_lt h]; exact List.getElem?_eq_getElem h
theorem gb_some {l : List Bool} {k : Nat} (h : k < l.length) : l[k]? = some (gb l k) := by rw [gb_of_lt h]; exact List.getElem?_eq_getElem h
theorem ge_some {l : List E3} {k : Nat} (h : k < l.length) : l[k]? = some (ge l k) := by rw [ge_of_lt h]; exact List.getElem?_eq_getElem h
/-- The k-th element. -/
def gx {τ : Type} [Inhabited τ] (l : List τ) (k : Nat) : τ := l.getD k default
theorem gx_of_lt {τ : Type} [Inhabited τ] {l : List τ} {k : Nat} (h : k < l.length) : gx l k = l[k] := by simp [gx, h]
theorem gx_some {τ : Type} [Inhabited τ] {l : List τ} {k : Nat} (h : k < l.length) : l[k]? = some (gx l k) := by rw [gx_of_lt h]; exact List.getElem?_eq_getElem h

/-! ### Steps -/
section
variable {w0 w w' : World} {S O : Nat → Prop} {L : Hold}
theorem Sep.new (h : Sep w0 S O w L) (i : Nat) (hi : L i = .gone) {g : Nat} {cs : Array Value} {e : TypeId} (hN : New w g w' cs e) : Sep w0 S O w' (stl L i (.box e g cs.toList)) :=
  h.add i hi _ (hN.keeps _) (fun k hk => by cases hk; rw [hN.at_]; exact Nat.le_refl _) ⟨Nat.zero_le _, by simpa using hN.row⟩
theorem New.ownS {g : Nat} {cs : Array Value} {e : TypeId} (hN : New w g w' cs e) {B n sz : Nat} (hB : B ≤ w.heap.size) (hs : cs.size = n * sz) (hn : n ≤ maxLen) : OwnS w' B e sz (some ⟨g, 0, none⟩) n n cs.toList := by
  obtain ⟨rfl, rfl⟩ := hN
  refine ⟨by simpa using hs, .inr ⟨_, 0, cs, rfl, hB, heap_alloc_new w _, Nat.le_refl _, hn, by omega, ?_⟩⟩
  rw [List.drop_zero, List.take_of_length_le (by simp [hs])]
/-- Elements one behind the other. -/
def El {τ : Type} (c : Cod τ) (O : Nat → Prop) (w : World) : List Value → List τ → Prop
  | cells, [] => cells = []
  | cells, x :: t => ∃ vs rest, cells = vs ++ rest ∧ c.R O w vs x ∧ El c O w rest t
theorem El.len {τ : Type} {c : Cod τ} {O : Nat → Prop} {w : World} : ∀ {xs : List τ} {cells : List Value}, El c O w cells xs → cells.length = xs.length * c.sz
  | [], _, h => by rw [h]; simp
  | x :: t, _, ⟨vs, rest, e, hR, ht⟩ => by rw [e, List.length_append, c.len hR, ht.len, List.length_cons, Nat.add_mul]; omega
theorem El.at_ {τ : Type} {c : Cod τ} {O : Nat → Prop} {w : World} : ∀ {xs : List τ} {cells : List Value}, El c O w cells xs → ∀ (k : Nat) x, xs[k]? = some x → ∃ vs, c.R O w vs x ∧ ∀ (j : Nat) u, vs[j]? = some u → cells[k * c.sz + j]? = some u
  | [], _, _, k, x, hx => by simp at hx
  | y :: t, _, ⟨vs, rest, e, hR, ht⟩, 0, x, hx => by
    simp at hx; subst hx
    refine ⟨vs, hR, fun j u hj => ?_⟩
    rw [e, Nat.zero_mul, Nat.zero_add, List.getElem?_append_left (List.getElem?_eq_some_iff.1 hj).1]; exact hj
  | y :: t, _, ⟨vs, rest, e, hR, ht⟩, k + 1, x, hx => by
    obtain ⟨vs', h1, h2⟩ := ht.at_ k x (by simpa using hx)
    refine ⟨vs', h1, fun j u hj => ?_⟩
    have := h2 j u hj
    have hl := c.len hR
    rw [e, List.getElem?_append_right (by rw [hl, Nat.add_mul]; omega), hl, Nat.add_mul]
    rw [show k * c.sz + 1 * c.sz + j - c.sz = k * c.sz + j by omega]; exact this
theorem El.keep {τ : Type} {c : Cod τ} {O O' : Nat → Prop} {w w' : World} (hK : ∀ vs x, c.R O w vs x → c.R O' w' vs x) : ∀ {xs : List τ} {cells : List Value}, El c O w cells xs → El c O' w' cells xs
  | [], _, h => h
  | x :: t, _, ⟨vs, rest, e, hR, ht⟩ => ⟨vs, rest, e, hK _ _ hR, El.keep hK ht⟩
theorem El.flat {τ : Type} (f : Fl τ) (O : Nat → Prop) (w : World) : ∀ (xs : List τ), El f.cod O w (xs.flatMap f.enc) xs
  | [] => rfl
  | x :: t => ⟨f.enc x, t.flatMap f.enc, rfl, rfl, El.flat f O w t⟩
/-- A new slice of one's own, all of whose elements are named. -/
theorem Sep.lit {τ : Type} (h : Sep w0 S O w L) (i : Nat) (hi : L i = .gone) {c : Cod τ} {g : Nat} {cs : Array Value} {e : TypeId} (hN : New w g w' cs e) (xs : List τ) {n : Nat} (hn : n = xs.length) (hm : n ≤ 1000000) (hE : El c (Bl O L) w cs.toList xs) : Sep w0 S O w' (stl L i (.own c e (some ⟨g, 0, none⟩) n n xs)) := by
  have ht : ∀ k, Bl O (stl L i (.own c e (some ⟨g, 0, none⟩) n n xs)) k → k < w.heap.size → Bl O L k := by
    rintro k (q | ⟨j, hj⟩) hk
    · exact .inl q
    · by_cases e : j = i
      · subst e; rw [stl_same] at hj; cases hj; rw [hN.at_] at hk; exact absurd hk (Nat.lt_irrefl _)
      · rw [stl_other _ _ e] at hj; exact .inr ⟨j, hj⟩
  refine h.add i hi _ (hN.keeps _) (fun k hk => by cases hk; rw [hN.at_]; exact Nat.le_refl _) ⟨hn, cs.toList, hN.ownS (Nat.zero_le _) ?_ (by unfold maxLen; omega), ?_⟩
  · have := hE.len; rw [hn]; simpa using this
  · refine (El.keep (fun vs x hR => ?_) hE).at_
    exact c.keep (c.sub hR fun k hk hb => ht k hb hk) (hN.keeps _)
theorem Sep.litf {τ : Type} (h : Sep w0 S O w L) (i : Nat) (hi : L i = .gone) (f : Fl τ) {g : Nat} {cs : Array Value} {e : TypeId} (hN : New w g w' cs e) (xs : List τ) {n : Nat} (hn : n = xs.length) (hm : n ≤ 1000000) (hE : cs.toList = xs.flatMap f.enc) : Sep w0 S O w' (stl L i (.own f.cod e (some ⟨g, 0, none⟩) n n xs)) :=
  h.lit i hi hN xs hn hm (by rw [hE]; exact El.flat f _ _ _)
/-- A slice that is made. -/
theorem Sep.made {τ : Type} (h : Sep w0 S O w L) (i : Nat) (hi : L i = .gone) (c : Cod τ) (z : Value) (x : τ) (hz : ∀ O w, c.R O w [z] x) {g n : Nat} {e : TypeId} (hN : New w g w' (Array.replicate n z) e) (hm : n ≤ 1000000) : Sep w0 S O w' (stl L i (.own c e (some ⟨g, 0, none⟩) n n (List.replicate n x))) := by
  refine h.lit i hi hN _ (by simp) hm ?_
  have H : ∀ n, El c (Bl O L) w (List.replicate n z) (List.replicate n x) := fun n => by
    induction n with
    | zero => rfl
    | succ n ih => exact ⟨[z], List.replicate n z, rfl, hz _ _, ih⟩
  simpa using H n
/-- A slice that is none yet. -/
theorem Sep.nil {τ : Type} (h : Sep w0 S O w L) (i : Nat) (hi : L i = .gone) (c : Cod τ) (e : TypeId) : Sep w0 S O w (stl L i (.own c e none 0 0 [])) :=
  h.add i hi _ (Keeps.refl _ _) (fun k hk => by cases hk) (OwnC.nil c _ _ _ e)
theorem Sep.wr {τ : Type} (h : Sep w0 S O w L) (i : Nat) {c : Cod τ} {e : TypeId} {A : Option Addr} {l cap : Nat} {xs : List τ} (hi : L i = .own c e A l cap xs) (hc : c.sz = 1) {k : Int} (hx : 0 ≤ k ∧ k < (xs.length : Int)) : Wr w (ixA A k 1) := by
  obtain ⟨hl, cells, ho, hE⟩ := h.own i hi
  obtain ⟨vs, hR, hu⟩ := hE k.toNat xs[k.toNat] (List.getElem?_eq_getElem (by omega))
  have hv := c.len hR
  obtain ⟨v, rfl⟩ := List.length_eq_one_iff.1 (hv.trans hc)
  obtain ⟨g, o, rfl, _, h1, h2⟩ := ho.cellAt (hu 0 v rfl)
  rw [ixA_off_]
  rw [hc, Nat.add_zero] at h1 h2
  exact ⟨by rw [h1]; rfl, h2⟩
theorem Sep.st {τ : Type} (h : Sep w0 S O w L) (i : Nat) {c : Cod τ} {e : TypeId} {A : Option Addr} {l cap : Nat} {xs : List τ} (hi : L i = .own c e A l cap xs) (hc : c.sz = 1) {k : Int} (hx : 0 ≤ k ∧ k < (xs.length : Int)) {v : Value} {x : τ} (hR : c.R (Bl O L) w [v] x) (e1 : w' = w.setCell (ixA A k 1) v) : Sep w0 S O w' (stl L i (.own c e A l cap (xs.set k.toNat x))) := by
  obtain ⟨hl, cells, ho, hE⟩ := h.own i hi
  have hk : k.toNat < xs.length := by omega
  have hcl : cells.length = xs.length := by rw [ho.1, hc, hl]; omega
  obtain ⟨g, o, rfl, hg, h1, h2⟩ := ho.cellAt (i := k.toNat) (List.getElem?_eq_getElem (by omega))
  rw [ixA_off_, Nat.mul_one] at e1
  have hblk : (L i).blk = some g := by rw [hi]; rfl
  have hK : Keeps (fun j => j = g) w w' := by rw [e1]; exact (Keeps.refl (fun j => j = g) w).setCell (p := ⟨g, o + k.toNat, none⟩) (fun _ => rfl) v
  have hbl : ∀ j, Bl O (stl L i (.own c e (some ⟨g, o, none⟩) l cap (xs.set k.toNat x))) j → Bl O L j := Bl.sub_ro fun j hj => by rw [hi]; exact hj
  have hKB : Keeps (Bl O L) w w' := hK.mono fun j _ hj => .inr ⟨i, by rw [hj]; exact hblk⟩
  refine h.upd i _ hK (fun j _ hj => by rw [hj]; exact hblk) (fun j hj => .inl (by rw [hi]; exact hj)) ⟨by rw [List.length_set]; exact hl, cells.set k.toNat v, by rw [e1]; exact ho.set1 (by omega) v rfl, fun j y hy => ?_⟩
  rw [List.getElem?_set] at hy
  by_cases q : k.toNat = j
  · subst q
    rw [if_pos rfl, if_pos hk] at hy
    cases hy
    refine ⟨[v], c.sub (c.keep hR hKB) fun j _ hj => hbl j hj, fun t u ht => ?_⟩
    have ht0 : t = 0 := by
      have := (List.getElem?_eq_some_iff.1 ht).1
      simp at this; exact this
    subst ht0
    simp at ht
    subst ht
    rw [hc, Nat.mul_one, Nat.add_zero, List.getElem?_set, if_pos rfl, if_pos (by omega)]
  · rw [if_neg q] at hy
    obtain ⟨vs, hR', hu⟩ := hE j y hy
    refine ⟨vs, c.sub (c.keep hR' hKB) fun j _ hj => hbl j hj, fun t u ht => ?_⟩
    have ht0 : t = 0 := by
      have := (List.getElem?_eq_some_iff.1 ht).1
      rw [c.len hR', hc] at this; omega
    have := hu t u ht
    rw [List.getElem?_set, if_neg (by rw [hc, ht0]; omega)]
    exact this
theorem Sep.bwr (h : Sep w0 S O w L) (i : Nat) {e : TypeId} {g : Nat} {cells : List Value} (hi : L i = .box e g cells) {j : Nat} {v : Value} (hv : cells[j]? = some v) : Wr w ((⟨g, 0, none⟩ : Addr).add j) := wr_row (h.bx i hi) hv
theorem Sep.bst (h : Sep w0 S O w L) (i : Nat) {e : TypeId} {g : Nat} {cells : List Value} (hi : L i = .box e g cells) (j : Nat) (v : Value) (e1 : w' = w.setCell ((⟨g, 0, none⟩ : Addr).add j) v) : Sep w0 S O w' (stl L i (.box e g (cells.set j v))) := by
  have hr := h.bx i hi
  have hb := (h.ok i).lt (k := g) (by rw [hi]; rfl)
  have e2 : (⟨g, 0, none⟩ : Addr).add j = ⟨g, j, none⟩ := by rw [Addr.add_mid, Nat.zero_add]
  refine h.upd i _ (T := fun k => k = g) (by rw [e1, e2]; exact (Keeps.refl (fun j => j = g) w).setCell (p := ⟨g, j, none⟩) (fun _ => rfl) v) (fun k _ hk => by rw [hi, hk]; rfl) (fun k hk => .inl (by rw [hi]; exact hk)) ⟨hb.1, ?_⟩
  rw [List.length_set, e1, e2]; exact hr.set_ j v
theorem Sep.bstn (h : Sep w0 S O w L) (i : Nat) {e : TypeId} {g : Nat} {cells : List Value} (hi : L i = .box e g cells) (j : Nat) (vs : List Value) (e1 : w' = w.setCells g j vs) : Sep w0 S O w' (stl L i (.box e g (setL cells j vs))) := by
  have hr := h.bx i hi
  have hb := (h.ok i).lt (k := g) (by rw [hi]; rfl)
  have hK : ∀ (vs : List Value) (o : Nat) {a w : World}, Keeps (fun k => k = g) a w → Keeps (fun k => k = g) a (w.setCells g o vs) := by
    intro vs
    induction vs with
    | nil => intro o a w h; exact h
    | cons v t ih => intro o a w h; exact ih (o + 1) (h.setCell (p := ⟨g, o, none⟩) (fun _ => rfl) v)
  refine h.upd i _ (T := fun k => k = g) (by rw [e1]; exact hK _ _ (Keeps.refl _ _)) (fun k _ hk => by rw [hi, hk]; rfl) (fun k hk => .inl (by rw [hi]; exact hk)) ⟨hb.1, ?_⟩
  rw [setL_length_, e1]; exact row_setn vs j hr
where setL_length_ : ∀ {vs : List Value} {o : Nat} {xs : List Value}, (setL xs o vs).length = xs.length := by
        intro vs
        induction vs with
        | nil => intro o xs; rfl
        | cons v t ih => intro o xs; rw [setL, ih, List.length_set]
end
end Go.Proofs.Ytnhmeckhlajeaaa
