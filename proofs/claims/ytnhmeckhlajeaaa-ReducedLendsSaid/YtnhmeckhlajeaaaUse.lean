/- Words for contracts that are proved from shallow forms: rows of numbers and bools read and written by index, states, the links' iterator. -/
import Derived.Test.YtnhmeckhlajeaaaTy
import Derived.Test.YtnhmeckhlajeaaaBurn
namespace Go.Proofs.Ytnhmeckhlajeaaa
open Go Go.RowKit Go.Shelf
set_option linter.unusedVariables false
set_option maxRecDepth 100000

theorem in64 {a : Int} (h : -1000000000000000000 ≤ a ∧ a ≤ 1000000000000000000) : In64 a := ⟨by omega, by omega⟩
theorem ix_some {p : Addr} {l : Nat} {i : Int} (h0 : 0 ≤ i) (h1 : i < (l : Int)) : Ix (some p) l i := ⟨rfl, h0, h1⟩
theorem ix_of {A : Option Addr} {l : Nat} {i : Int} (hA : ∃ p, A = some p) (h0 : 0 ≤ i) (h1 : i < (l : Int)) : Ix A l i := by obtain ⟨p, rfl⟩ := hA; exact ⟨rfl, h0, h1⟩
theorem ixA_zero (g : Nat) (i : Int) (sz : Nat) : ixA (some ⟨g, 0, none⟩) i sz = ⟨g, i.toNat * sz, none⟩ := by simp [ixA, Addr.add_mid]
theorem ixA_one (g : Nat) (i : Int) : ixA (some ⟨g, 0, none⟩) i 1 = ⟨g, i.toNat, none⟩ := by simp [ixA_zero]
theorem ixA_off (g o : Nat) (i : Int) (sz : Nat) : ixA (some ⟨g, o, none⟩) i sz = ⟨g, o + i.toNat * sz, none⟩ := by simp [ixA, Addr.add_mid]
theorem add_zero_ (g k : Nat) : (⟨g, 0, none⟩ : Addr).add k = ⟨g, k, none⟩ := by simp [Addr.add_mid]
theorem add_zero0 (a : Addr) : a.add 0 = a := rfl
section
variable {w w' : World} {g : Nat} {e : TypeId} {size : Nat}
/-- A field of a block. -/
theorem Row.at_ {xs : List Value} (h : Row w g e size xs) (k : Nat) {v : Value} (hv : xs[k]? = some v) : w.cell? ((⟨g, 0, none⟩ : Addr).add k) = some v := by rw [add_zero_]; exact h.cell hv
theorem Row.wr_ {xs : List Value} (h : Row w g e size xs) (k : Nat) (hk : k < xs.length) : Wr w ((⟨g, 0, none⟩ : Addr).add k) := by
  rw [add_zero_]; exact ⟨by rw [h.cell (List.getElem?_eq_getElem hk)]; rfl, h.frozen k⟩
theorem ild {xs : List Int} (h : IRow w g e size xs) {i : Int} (h0 : 0 ≤ i) (h1 : i < (xs.length : Int)) : w.cell? (ixA (some ⟨g, 0, none⟩) i 1) = some (.int .i64 (gi xs i.toNat)) := by
  rw [ixA_one]; exact icell h (by omega)
theorem bld {xs : List Bool} (h : BRow w g e size xs) {i : Int} (h0 : 0 ≤ i) (h1 : i < (xs.length : Int)) : w.cell? (ixA (some ⟨g, 0, none⟩) i 1) = some (.bool (gb xs i.toNat)) := by
  rw [ixA_one]; exact bcell h (by omega)
theorem iwr {xs : List Int} (h : IRow w g e size xs) {i : Int} (h0 : 0 ≤ i) (h1 : i < (xs.length : Int)) : Wr w (ixA (some ⟨g, 0, none⟩) i 1) := by
  rw [ixA_one]; exact ⟨by rw [icell h (by omega)]; rfl, Row.frozen h _⟩
theorem bwr {xs : List Bool} (h : BRow w g e size xs) {i : Int} (h0 : 0 ≤ i) (h1 : i < (xs.length : Int)) : Wr w (ixA (some ⟨g, 0, none⟩) i 1) := by
  rw [ixA_one]; exact ⟨by rw [bcell h (by omega)]; rfl, Row.frozen h _⟩
theorem ist {xs : List Int} (h : IRow w g e size xs) (i : Int) (v : Int) : IRow (w.setCell (ixA (some ⟨g, 0, none⟩) i 1) (.int .i64 v)) g e size (xs.set i.toNat v) := by
  rw [ixA_one]; exact iset h _ _
theorem bst {xs : List Bool} (h : BRow w g e size xs) (i : Int) (v : Bool) : BRow (w.setCell (ixA (some ⟨g, 0, none⟩) i 1) (.bool v)) g e size (xs.set i.toNat v) := by
  rw [ixA_one]; exact bset h _ _
theorem Row.far_ {xs : List Value} (h : Row w g e size xs) {k : Nat} (hk : g ≠ k) (i : Int) (v : Value) : Row (w.setCell (ixA (some ⟨k, 0, none⟩) i 1) v) g e size xs := by
  rw [ixA_one]; exact h.far hk v
theorem Keeps.set_ {S : Nat → Prop} {a : World} (h : Keeps S a w) {k : Nat} (hk : S k) (i : Int) (v : Value) : Keeps S a (w.setCell (ixA (some ⟨k, 0, none⟩) i 1) v) := by
  rw [ixA_one]; exact h.setCell (fun _ => hk) v
theorem New.cell_ {cs : Array Value} {T : TypeId} (h : New w g w' cs T) (k : Nat) {v : Value} (hv : cs.toList[k]? = some v) : w'.cell? ((⟨g, 0, none⟩ : Addr).add k) = some v := h.row.at_ k hv
theorem New.row_ {cs : Array Value} {T : TypeId} (h : New w g w' cs T) {k : Nat} {e : TypeId} {size : Nat} {xs : List Value} (hr : Row w k e size xs) : Row w' k e size xs := hr.kp (h.kp k)
end
theorem ints_ld {w : World} {A : Option Addr} {xs : List Int} (h : Ints w A xs) {i : Int} (h0 : 0 ≤ i) (h1 : i < (xs.length : Int)) : w.cell? (ixA A i 1) = some (.int .i64 (gi xs i.toNat)) := by
  obtain ⟨b, off, rfl, _, hc⟩ := h (by omega)
  rw [ixA_off, Nat.mul_one]; exact hc _ (by omega)
theorem ints_ix {w : World} {A : Option Addr} {xs : List Int} (h : Ints w A xs) {l : Nat} (hl : l = xs.length) {i : Int} (h0 : 0 ≤ i) (h1 : i < (xs.length : Int)) : Ix A l i := by
  obtain ⟨b, off, rfl, _, hc⟩ := h (by omega)
  exact ⟨rfl, h0, by omega⟩
theorem edges_ld {w : World} {A : Option Addr} {es : List E3} (h : Edges w A es) {i : Int} (h0 : 0 ≤ i) (h1 : i < (es.length : Int)) : Cells w (ixA A i 3) 0 [.int .i64 (ge es i.toNat).1, .int .i64 (ge es i.toNat).2.1, .int .i64 (ge es i.toNat).2.2] := by
  obtain ⟨b, off, rfl, _, hc⟩ := h (by omega)
  obtain ⟨c1, c2, c3⟩ := hc i.toNat (by omega)
  rw [ixA_off]
  exact ⟨by rw [Addr.add_mid]; exact c1, by rw [Addr.add_mid]; exact c2, by rw [Addr.add_mid]; exact c3, trivial⟩
theorem edges_ix {w : World} {A : Option Addr} {es : List E3} (h : Edges w A es) {l : Nat} (hl : l = es.length) {i : Int} (h0 : 0 ≤ i) (h1 : i < (es.length : Int)) : Ix A l i := by
  obtain ⟨b, off, rfl, _, hc⟩ := h (by omega)
  exact ⟨rfl, h0, by omega⟩

theorem Row.cells_ {w : World} {g : Nat} {e : TypeId} {size : Nat} {xs : List Value} (h : Row w g e size xs) : ∀ o : Obj, w.heap[g]? = some o → o.isCells = true := by
  intro o ho
  obtain ⟨cur, h1, _⟩ := h
  rw [h1] at ho
  cases ho
  rfl
theorem Row.ne_ {w : World} {g g' : Nat} {e e' : TypeId} {size size' : Nat} {xs xs' : List Value} (h : Row w g e size xs) (h' : Row w g' e' size' xs') (he : e ≠ e') : g ≠ g' := by
  rintro rfl
  obtain ⟨cur, h1, _⟩ := h
  obtain ⟨cur', h1', _⟩ := h'
  rw [h1] at h1'
  cases h1'
  exact he rfl
/-- The blocks that the links' iterator reads. -/
def LinkK (A : Option Addr) (es : List E3) (bv : Nat) (k : Nat) : Prop := k = bv ∨ (0 < es.length ∧ ∃ a, A = some a ∧ k = a.block)
theorem links_iter (X : Nat) (A : Option Addr) (es : List E3) (cap : Nat) (v : Int) (bx bv : Nat) (w : World) (hx : Row w bx 93 1 [.pointer (some ⟨X, 0, none⟩)]) (hb : Row w bv 3 1 [.int .i64 v])
    (hX : w.cell? ⟨X, 1, none⟩ = some (.slice A es.length cap)) (hes : Edges w A es) (hE : Ends12 es) (hv0 : 0 ≤ v) (hv : v < 12) (hlen : es.length ≤ 1000000000) :
    IterOf Try.prog (.func (.func 165) #[] #[.pointer (some ⟨bx, 0, none⟩), .pointer (some ⟨bv, 0, none⟩)]) (encL es v) (fun xs => xs.map (·.1) = linksF es v) (KB (LinkK A es bv)) es.length w := by
  obtain ⟨b, off, hA, hbl, hcs⟩ : ∃ b off, (0 < es.length → A = some ⟨b, off, none⟩) ∧ (0 < es.length → b < w.heap.size) ∧ ∀ k, k < es.length → w.cell? ⟨b, off + k * 3, none⟩ = some (.int .i64 (ge es k).1) ∧ w.cell? ⟨b, off + k * 3 + 1, none⟩ = some (.int .i64 (ge es k).2.1) ∧ w.cell? ⟨b, off + k * 3 + 2, none⟩ = some (.int .i64 (ge es k).2.2) := by
    rcases Nat.eq_zero_or_pos es.length with h0 | h0
    · exact ⟨0, 0, fun h => absurd h (by omega), fun h => absurd h (by omega), fun k hk => absurd hk (by omega)⟩
    · obtain ⟨b, off, e, hb, hc⟩ := hes h0
      exact ⟨b, off, fun _ => e, fun _ => hb, hc⟩
  have hlt : ∀ k, LinkK A es bv k → k < w.heap.size := by
    rintro k (rfl | ⟨h0, a, ha, rfl⟩)
    · exact hb.lt
    · rw [hA h0] at ha; cases ha; exact hbl h0
  refine ⟨_, _, rfl, enters_of Try.func165 (by kernel_rfl) rfl, ?_, fun h k => h.trans k, fun W l o o' h1 h2 h3 h4 => KB.put hlt W l o o' h1 h2 h3 h4⟩
  intro l J Jx W hW hJ hJx hY h0
  have hc : ∀ (p : Addr) (u : Value), p.block < w.heap.size → w.cell? p = some u → W.cell? p = some u := fun p u hp h => (hW.cell (p := p) hp).trans h
  have hXl : X < w.heap.size := by
    rcases Nat.lt_or_ge X w.heap.size with h | h
    · exact h
    · rw [World.cell?, Array.getElem?_eq_none h] at hX; cases hX
  exact links_in 2 (by omega) l bx bv b off X W es cap v A hA _ (.inl rfl) (fun h => .inr ⟨h, _, hA h, rfl⟩) (fun k hk => Nat.lt_of_lt_of_le (hlt k hk) hW.size) hE hv0 hv hlen J Jx hJ hY h0
    (hc _ _ hx.lt (Row.cell hx (i := 0) rfl)) (hc _ _ hb.lt (Row.cell hb (i := 0) rfl)) (hc _ _ hXl hX)
    (fun k hk => ⟨hc _ _ (hbl (by omega)) (hcs k hk).1, hc _ _ (hbl (by omega)) (hcs k hk).2.1, hc _ _ (hbl (by omega)) (hcs k hk).2.2⟩)

/-- Relations of the form "these rows, and nothing else turned" stay. -/
theorem stays_of {α : Type} {B : Nat} {I : List α → World → Prop} (h : ∀ s W W' row, I s W → W.grownBy W' row → (∀ r, row = some r → B ≤ r ∧ ∃ o : Obj, W.heap[r]? = some o ∧ o.isCells = false) → I s W') : Stays B I := h
end Go.Proofs.Ytnhmeckhlajeaaa
