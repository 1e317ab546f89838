/- Words for memory that all walks of this seat share: rows of cells known from their first cell on, worlds that keep all but some blocks. No program in sight. -/
import Derived.WalkKit
import Derived.WalkSpells
import Derived.WalkLawsBesides
import Derived.Lib.Hide
namespace Go.Proofs.Ytnhmeckhlajeaaa
open Go.RowKit

theorem ret_eq {a b : Value} (h : a = b) : Ending.returned a = .returned b := by rw [h]
theorem int_eq {k : IntKind} {a b : Int} (h : a = b) : Value.int k a = Value.int k b := by rw [h]

/-- Two worlds are one (kept from the walk's rewriting). -/
def Same (w w' : World) : Prop := w = w'
theorem Same.refl (w : World) : Same w w := rfl
theorem Same.out {w w' : World} (h : Same w w') : w = w' := h
theorem neF {a b : Int} (h : a = b) : (a != b) = false := by simp [h]
theorem neT {a b : Int} (h : ¬ a = b) : (a != b) = true := by simp [h]
theorem eqF {a b : Int} (h : ¬ a = b) : (a == b) = false := by simp [h]
theorem eqT {a b : Int} (h : a = b) : (a == b) = true := by simp [h]

/-- The k-th number of a list; 0 beyond its end. -/
def gi (l : List Int) (k : Nat) : Int := l.getD k 0
/-- The k-th bool of a list; false beyond its end. -/
def gb (l : List Bool) (k : Nat) : Bool := l.getD k false

theorem gi_of_lt {l : List Int} {k : Nat} (h : k < l.length) : gi l k = l[k] := by simp [gi, h]
theorem gi_ge {l : List Int} {k : Nat} (h : l.length ≤ k) : gi l k = 0 := by simp [gi, h]
theorem gi_set {l : List Int} {k j : Nat} {x : Int} (h : k < l.length) : gi (l.set k x) j = if j = k then x else gi l j := by
  unfold gi
  simp only [List.getD_eq_getElem?_getD, List.getElem?_set]
  by_cases e : j = k
  · subst e; simp [h]
  · rw [if_neg (by omega), if_neg e]
theorem gi_mem {l : List Int} {k : Nat} (h : k < l.length) : gi l k ∈ l := by rw [gi_of_lt h]; exact List.getElem_mem h
theorem gi_ext {l m : List Int} (h : l.length = m.length) (h2 : ∀ k, k < l.length → gi l k = gi m k) : l = m := by
  refine List.ext_getElem h fun i h1 h3 => ?_
  have := h2 i h1
  rwa [gi_of_lt h1, gi_of_lt h3] at this
theorem gb_of_lt {l : List Bool} {k : Nat} (h : k < l.length) : gb l k = l[k] := by simp [gb, h]
theorem gb_ge {l : List Bool} {k : Nat} (h : l.length ≤ k) : gb l k = false := by simp [gb, h]
theorem gb_set {l : List Bool} {k j : Nat} {x : Bool} (h : k < l.length) : gb (l.set k x) j = if j = k then x else gb l j := by
  unfold gb
  simp only [List.getD_eq_getElem?_getD, List.getElem?_set]
  by_cases e : j = k
  · subst e; simp [h]
  · rw [if_neg (by omega), if_neg e]
theorem gb_ext {l m : List Bool} (h : l.length = m.length) (h2 : ∀ k, k < l.length → gb l k = gb m k) : l = m := by
  refine List.ext_getElem h fun i h1 h3 => ?_
  have := h2 i h1
  rwa [gb_of_lt h1, gb_of_lt h3] at this

/-- Block g is a row of 'size' cells of the element type e, none of them frozen, whose first cells are xs. -/
def Row (w : World) (g : Nat) (e : TypeId) (size : Nat) (xs : List Value) : Prop :=
  ∃ cur : Array Value, w.heap[g]? = some (.cells cur e (0, 0)) ∧ cur.size = size ∧ cur.toList.take xs.length = xs

section
variable {w w' : World} {g : Nat} {e : TypeId} {size : Nat} {xs : List Value}
theorem Row.lt (h : Row w g e size xs) : g < w.heap.size := by
  obtain ⟨cur, h, _⟩ := h
  exact (Array.getElem?_eq_some_iff.1 h).1
theorem Row.le (h : Row w g e size xs) : xs.length ≤ size := by
  obtain ⟨cur, _, h2, h3⟩ := h
  have := congrArg List.length h3
  simp at this
  omega
theorem Row.keep (h : Row w g e size xs) (k : w'.heap[g]? = w.heap[g]?) : Row w' g e size xs := by
  obtain ⟨cur, h1, h2⟩ := h
  exact ⟨cur, k.trans h1, h2⟩
theorem Row.cell (h : Row w g e size xs) {i : Nat} {v : Value} (hv : xs[i]? = some v) : w.cell? ⟨g, i, none⟩ = some v := by
  obtain ⟨cur, h1, h2, h3⟩ := h
  have hi : i < xs.length := (List.getElem?_eq_some_iff.1 hv).1
  rw [← h3, List.getElem?_take, if_pos hi] at hv
  simp only [World.cell?, h1]
  simpa using hv
theorem Row.frozen (h : Row w g e size xs) (i : Nat) : w.frozen? ⟨g, i, none⟩ = false := by
  obtain ⟨cur, h1, h2, h3⟩ := h
  simp [World.frozen?, h1]
theorem Row.set_ (h : Row w g e size xs) (i : Nat) (v : Value) : Row (w.setCell ⟨g, i, none⟩ v) g e size (xs.set i v) := by
  obtain ⟨cur, h1, h2, h3⟩ := h
  refine ⟨cur.setIfInBounds i v, ?_, by simpa using h2, ?_⟩
  · simp [World.setCell, Array.getElem?_modify, h1]
  · simp only [List.length_set, Array.toList_setIfInBounds]
    conv => rhs; rw [← h3]
    rw [List.take_set]
theorem Row.far (h : Row w g e size xs) {p : Addr} (hp : g ≠ p.block) (v : Value) : Row (w.setCell p v) g e size xs :=
  h.keep (Below.heap_setCell w p v g hp)
theorem Row.alloc (h : Row w g e size xs) (o : Obj) : Row (w.alloc o) g e size xs := h.keep (Below.heap_alloc w o g h.lt)
theorem Row.drew (h : Row w g e size xs) : Row w.drew g e size xs := h
theorem Row.drewN (h : Row w g e size xs) (n : Nat) : Row (w.drewN n) g e size xs := h
theorem Row.below {B : Nat} (h : Row w g e size xs) (hb : Below B w w') (hg : g < B) : Row w' g e size xs := h.keep (hb.block g hg)
theorem Row.new (w : World) (cs : Array Value) (e : TypeId) : Row (w.alloc (.cells cs e)) w.heap.size e cs.size cs.toList :=
  ⟨cs, heap_alloc_new w _, rfl, by rw [List.take_of_length_le (by simp)]⟩
theorem Row.take (h : Row w g e size xs) (n : Nat) : Row w g e size (xs.take n) := by
  obtain ⟨cur, h1, h2, h3⟩ := h
  refine ⟨cur, h1, h2, ?_⟩
  have hl : (cur.toList.take xs.length).length = xs.length := by rw [h3]
  rw [List.length_take] at hl
  conv => rhs; rw [← h3, List.take_take]
  rw [List.length_take]
theorem Row.own {n cap : Nat} (h : Row w g e (cap * 1) xs) (hn : xs.length = n) (hc : cap ≤ maxLen) {base : Nat} (hb : base ≤ g) : w.ownsRow base e 1 (.slice (some ⟨g, 0, none⟩) n cap) n xs := by
  have hle := h.le
  obtain ⟨cur, h1, h2, h3⟩ := h
  refine ⟨by omega, .inr ⟨g, cap, cur, rfl, hb, h1, by omega, hc, h2, ?_⟩⟩
  rw [Nat.mul_one, ← hn]; exact h3
end

/-- All blocks of w but those of S are in w' what they were; no block is lost; the streams are what they were. -/
structure Keeps (S : Nat → Prop) (w w' : World) : Prop where
  os : w'.os = w.os
  tape : w'.tape = w.tape
  output : w'.output = w.output
  size : w.heap.size ≤ w'.heap.size
  block : ∀ k, k < w.heap.size → ¬ S k → w'.heap[k]? = w.heap[k]?

section
variable {S : Nat → Prop} {a w w' : World}
theorem Keeps.refl (S : Nat → Prop) (w : World) : Keeps S w w := ⟨rfl, rfl, rfl, Nat.le_refl _, fun _ _ _ => rfl⟩
theorem Keeps.trans {b c : World} (h : Keeps S a b) (k : Keeps S b c) : Keeps S a c :=
  ⟨k.os.trans h.os, k.tape.trans h.tape, k.output.trans h.output, Nat.le_trans h.size k.size, fun i hi hs => (k.block i (Nat.lt_of_lt_of_le hi h.size) hs).trans (h.block i hi hs)⟩
theorem Keeps.mono {S' : Nat → Prop} (h : Keeps S a w) (hs : ∀ k, k < a.heap.size → S k → S' k) : Keeps S' a w :=
  ⟨h.os, h.tape, h.output, h.size, fun k hk hn => h.block k hk fun hS => hn (hs k hk hS)⟩
theorem Keeps.drew (h : Keeps S a w) : Keeps S a w.drew := ⟨h.os, h.tape, h.output, h.size, h.block⟩
theorem Keeps.drewN (h : Keeps S a w) (n : Nat) : Keeps S a (w.drewN n) := ⟨h.os, h.tape, h.output, h.size, h.block⟩
theorem Keeps.alloc (h : Keeps S a w) (o : Obj) : Keeps S a (w.alloc o) :=
  h.trans ⟨rfl, rfl, rfl, by simp, fun k hk _ => Below.heap_alloc _ _ _ hk⟩
theorem Keeps.setCell (h : Keeps S a w) {p : Addr} (hp : p.block < a.heap.size → S p.block) (u : Value) : Keeps S a (w.setCell p u) :=
  ⟨h.os, h.tape, h.output, Nat.le_trans h.size (by simp [World.setCell]), fun k hk hn => (Below.heap_setCell _ _ _ _ (fun e => by subst e; exact hn (hp hk))).trans (h.block k hk hn)⟩
theorem Keeps.grown (h : Keeps S a w) {row : Option Nat} (hg : w.grownBy w' row) (hr : ∀ k, row = some k → k < a.heap.size → S k) : Keeps S a w' :=
  ⟨hg.os.trans h.os, hg.tape.trans h.tape, hg.output.trans h.output, Nat.le_trans h.size hg.size, fun k hk hn => (hg.block k (Nat.lt_of_lt_of_le hk h.size) (fun e => hn (hr k e.symm hk))).trans (h.block k hk hn)⟩
theorem Keeps.of_below {B : Nat} (h : Below B w w') (hB : w.heap.size ≤ B) : Keeps S w w' := ⟨h.os, h.tape, h.output, h.size, fun k hk _ => h.block k (by omega)⟩
theorem Keeps.below (h : Keeps S w w') {B : Nat} (hB : ∀ k, k < B → ¬ S k) (hw : B ≤ w.heap.size) : Below B w w' := ⟨h.os, h.tape, h.output, h.size, fun k hk => h.block k (by omega) (hB k hk)⟩
theorem Keeps.then (h : Keeps S a w) {S' : Nat → Prop} (k : Keeps S' w w') (hs : ∀ k, k < a.heap.size → S' k → S k) : Keeps S a w' :=
  ⟨k.os.trans h.os, k.tape.trans h.tape, k.output.trans h.output, Nat.le_trans h.size k.size, fun i hi hn => (k.block i (Nat.lt_of_lt_of_le hi h.size) (fun e => hn (hs i hi e))).trans (h.block i hi hn)⟩
theorem Keeps.row (h : Keeps S w w') {g : Nat} {e : TypeId} {size : Nat} {xs : List Value} (hr : Row w g e size xs) (hs : ¬ S g) : Row w' g e size xs := hr.keep (h.block g hr.lt hs)
theorem Keeps.cell (h : Keeps S w w') {p : Addr} {v : Value} (hs : ¬ S p.block) (hc : w.cell? p = some v) : w'.cell? p = some v := by
  have hlt : p.block < w.heap.size := by
    rcases Nat.lt_or_ge p.block w.heap.size with h1 | h1
    · exact h1
    · rw [World.cell?, Array.getElem?_eq_none h1] at hc; cases hc
  rw [World.cell?_of_block (w := w) (h.block p.block hlt hs)]; exact hc
end

/-- Nothing that was there has changed. -/
abbrev Pure (w w' : World) : Prop := Keeps (fun _ => False) w w'
theorem Pure.toBelow {w w' : World} (h : Pure w w') : Below w.heap.size w w' := h.below (fun _ _ => id) (Nat.le_refl _)
theorem Pure.to {S : Nat → Prop} {w w' : World} (h : Pure w w') : Keeps S w w' := h.mono fun _ _ => False.elim
theorem Pure.after {S : Nat → Prop} {a w w' : World} (h : Keeps S a w) (k : Pure w w') : Keeps S a w' := h.trans (Pure.to k)

/-- Behind the address A the cells read as the numbers xs (A is asked for only where there is one). -/
def Ints (w : World) (A : Option Addr) (xs : List Int) : Prop :=
  0 < xs.length → ∃ b off, A = some ⟨b, off, none⟩ ∧ b < w.heap.size ∧ ∀ k, k < xs.length → w.cell? ⟨b, off + k, none⟩ = some (.int .i64 (gi xs k))

theorem Ints.keep {w w' : World} {A : Option Addr} {xs : List Int} (h : Ints w A xs) (hk : Pure w w') : Ints w' A xs := fun hl => by
  obtain ⟨b, off, e, hb, hc⟩ := h hl
  exact ⟨b, off, e, Nat.lt_of_lt_of_le hb hk.size, fun k h1 => hk.cell id (hc k h1)⟩
theorem Ints.keepS {S : Nat → Prop} {w w' : World} {A : Option Addr} {xs : List Int} (h : Ints w A xs) (hk : Keeps S w w') (hs : ∀ b off, A = some ⟨b, off, none⟩ → ¬ S b) : Ints w' A xs := fun hl => by
  obtain ⟨b, off, e, hb, hc⟩ := h hl
  exact ⟨b, off, e, Nat.lt_of_lt_of_le hb hk.size, fun k h1 => hk.cell (hs b off e) (hc k h1)⟩
theorem Ints.nil (w : World) (A : Option Addr) : Ints w A [] := fun h => absurd h (by simp)

/-- An edge: two ends, and how often they are joined. -/
abbrev E3 := Int × Int × Int
/-- The k-th edge. -/
def ge (es : List E3) (k : Nat) : E3 := es.getD k (0, 0, 0)
theorem ge_of_lt {l : List E3} {k : Nat} (h : k < l.length) : ge l k = l[k] := by simp [ge, h]
theorem ge_drop {l : List E3} {k : Nat} (h : k < l.length) : l.drop k = ge l k :: l.drop (k + 1) := by rw [ge_of_lt h]; exact List.drop_eq_getElem_cons h
theorem ge_mem {l : List E3} {k : Nat} (h : k < l.length) : ge l k ∈ l := by rw [ge_of_lt h]; exact List.getElem_mem h

/-- Behind the address A the cells read as edges of three numbers each. -/
def Edges (w : World) (A : Option Addr) (es : List E3) : Prop :=
  0 < es.length → ∃ b off, A = some ⟨b, off, none⟩ ∧ b < w.heap.size ∧ ∀ k, k < es.length →
    w.cell? ⟨b, off + k * 3, none⟩ = some (.int .i64 (ge es k).1) ∧ w.cell? ⟨b, off + k * 3 + 1, none⟩ = some (.int .i64 (ge es k).2.1) ∧ w.cell? ⟨b, off + k * 3 + 2, none⟩ = some (.int .i64 (ge es k).2.2)
theorem Edges.keep {w w' : World} {A : Option Addr} {es : List E3} (h : Edges w A es) (hk : Pure w w') : Edges w' A es := fun hl => by
  obtain ⟨b, off, e, hb, hc⟩ := h hl
  exact ⟨b, off, e, Nat.lt_of_lt_of_le hb hk.size, fun k h1 => ⟨hk.cell id (hc k h1).1, hk.cell id (hc k h1).2.1, hk.cell id (hc k h1).2.2⟩⟩
theorem Edges.keepS {S : Nat → Prop} {w w' : World} {A : Option Addr} {es : List E3} (h : Edges w A es) (hk : Keeps S w w') (hs : ∀ b off, A = some ⟨b, off, none⟩ → ¬ S b) : Edges w' A es := fun hl => by
  obtain ⟨b, off, e, hb, hc⟩ := h hl
  exact ⟨b, off, e, Nat.lt_of_lt_of_le hb hk.size, fun k h1 => ⟨hk.cell (hs b off e) (hc k h1).1, hk.cell (hs b off e) (hc k h1).2.1, hk.cell (hs b off e) (hc k h1).2.2⟩⟩

/-- A row of numbers. -/
abbrev IRow (w : World) (g : Nat) (e : TypeId) (size : Nat) (xs : List Int) : Prop := Row w g e size (xs.map (Value.int .i64))
abbrev BRow (w : World) (g : Nat) (e : TypeId) (size : Nat) (xs : List Bool) : Prop := Row w g e size (xs.map Value.bool)

section
variable {w : World} {g : Nat} {e : TypeId} {size : Nat}
theorem icell {xs : List Int} (h : IRow w g e size xs) {k : Nat} (hk : k < xs.length) : w.cell? ⟨g, k, none⟩ = some (.int .i64 (gi xs k)) :=
  Row.cell h (by rw [List.getElem?_map, List.getElem?_eq_getElem hk, gi_of_lt hk]; rfl)
theorem bcell {xs : List Bool} (h : BRow w g e size xs) {k : Nat} (hk : k < xs.length) : w.cell? ⟨g, k, none⟩ = some (.bool (gb xs k)) :=
  Row.cell h (by rw [List.getElem?_map, List.getElem?_eq_getElem hk, gb_of_lt hk]; rfl)
theorem iset {xs : List Int} (h : IRow w g e size xs) (k : Nat) (v : Int) : IRow (w.setCell ⟨g, k, none⟩ (.int .i64 v)) g e size (xs.set k v) := by
  have := Row.set_ h k (.int .i64 v)
  unfold IRow; rwa [List.map_set]
theorem bset {xs : List Bool} (h : BRow w g e size xs) (k : Nat) (v : Bool) : BRow (w.setCell ⟨g, k, none⟩ (.bool v)) g e size (xs.set k v) := by
  have := Row.set_ h k (.bool v)
  unfold BRow; rwa [List.map_set]
theorem IRow.ints {xs : List Int} (h : IRow w g e size xs) : Ints w (some ⟨g, 0, none⟩) xs := fun _ => ⟨g, 0, rfl, Row.lt h, fun k hk => by rw [Nat.zero_add]; exact icell h hk⟩
theorem IRow.le {xs : List Int} (h : IRow w g e size xs) : xs.length ≤ size := by simpa using Row.le h
end

theorem madeCells_one (z : Value) (hz : z.cells = #[z]) (n : Nat) : madeCells z.cells n = Array.replicate n z := by
  rw [hz]
  apply Array.ext
  · simp [madeCells]
  · intro i h1 h2
    simp [madeCells, Nat.mod_one]

/-- make([]T, n) for an element of one cell. -/
theorem run_make_one {P : Program} (t e : TypeId) (i : TypeInfo) (z : Value) (ht : P.underlying t = some (.slice e)) (hi : P.info? e = some i) (hz : i.zero = some z) (hsz : i.size = 1) (hb : i.bytes ≤ 64) (hzc : z.cells = #[z])
    (n : Nat) (hn : n ≤ 1000000) (w : World) :
    (Instr.makeSlice t (.int .i64 (n : Int)) (.int .i64 (n : Int))).run P w = .ok (.slice (some ⟨w.heap.size, 0, none⟩) n n) (w.alloc (.cells (Array.replicate n z) e)) := by
  have hm : i.bytes * n ≤ 64 * 1000000 := Nat.mul_le_mul hb hn
  have := run_make (P := P) w t e i z ht hi hz .i64 .i64 n n (by omega) (by omega) (by rw [← Int.natCast_mul]; omega) (by omega)
  rw [this, Int.toNat_natCast, hsz, Nat.mul_one, madeCells_one z hzc]

theorem irow_made (w : World) (n : Nat) (e : TypeId) : IRow (w.alloc (.cells (Array.replicate n (.int .i64 0)) e)) w.heap.size e n (List.replicate n 0) := by
  have := Row.new w (Array.replicate n (.int .i64 0)) e
  simpa [IRow] using this
theorem brow_made (w : World) (n : Nat) (e : TypeId) : BRow (w.alloc (.cells (Array.replicate n (.bool false)) e)) w.heap.size e n (List.replicate n false) := by
  have := Row.new w (Array.replicate n (.bool false)) e
  simpa [BRow] using this

/-! A whole variable of several cells is loaded or stored at once: its block is known, cell by cell. -/
theorem Row.full {w : World} {g : Nat} {e : TypeId} {xs : List Value} (h : Row w g e xs.length xs) : w.heap[g]? = some (.cells xs.toArray e (0, 0)) := by
  obtain ⟨cur, h1, h2, h3⟩ := h
  rw [h1]
  congr 2
  rw [← h3, List.take_of_length_le (by simp [h2])]
theorem Row.of_heap {w : World} {g : Nat} {e : TypeId} {cs : Array Value} (h : w.heap[g]? = some (.cells cs e (0, 0))) : Row w g e cs.size cs.toList :=
  ⟨cs, h, rfl, by rw [List.take_of_length_le (by simp)]⟩

theorem wpList_store_row {P : Program} {ops : Array Oper} {rest : List Oper} {o : Oper} {a : Act} {w : World} {Q : Exit → Act → World → Prop} (hgd : o.guard = none) (ty : TypeId) (x y : Operand) (ho : o.op = .store ty x y)
    (g : Nat) (hx : a.eval x = .pointer (some ⟨g, 0, none⟩)) (cs : Array Value) (hy : a.eval y = .agg cs) (t : TypeId) (old : Array Value) (hg : w.heap[g]? = some (.cells old t (0, 0))) (hsz : old.size = cs.size)
    (hi : (P.info? ty).map (·.size) = some cs.size) (h1 : ∀ v ∈ cs.toList, v.oneCell' = true)
    (h : wpList P ops Q rest (a.put o.dst undef) (w.setRow g cs)) : wpList P ops Q (o :: rest) a w := by
  refine wpList_plain hgd fun K hK => ?_
  have hst := run_storeCells_at P g 0 t cs.toList 0 old w hg (by simp [hsz]) h1
  have e : (old.toList.take 0 ++ cs.toList ++ old.toList.drop (0 + cs.toList.length)).toArray = cs := by
    rw [List.drop_of_length_le (by simp [hsz])]
    simp
  simp only [Nat.add_zero, Nat.zero_add] at hst e
  rw [e] at hst
  cases hq : P.info? ty with
  | none => simp [hq] at hi
  | some i =>
    have hs : i.size = cs.size := by simpa [hq] using hi
    unfold Oper.wp execOp
    simp only [ho, hx, hy, Instr.storeAt, Instr.sureAddr, storeVar, Value.cells, Sem.run_bind, Sem.run_pure, Result.andThen_ok]
    simp [sizeOf, typeInfo, hq, hs, hst]
    exact hK _ _ h

theorem Keeps.setRow {S : Nat → Prop} {a w : World} (h : Keeps S a w) {g : Nat} (hp : g < a.heap.size → S g) (cs : Array Value) : Keeps S a (w.setRow g cs) :=
  ⟨h.os, h.tape, h.output, Nat.le_trans h.size (by simp), fun k hk hn => (setRow_other w g k cs (fun e => by subst e; exact hn (hp hk))).trans (h.block k hk hn)⟩
theorem Row.farRow {w : World} {g : Nat} {e : TypeId} {size : Nat} {xs : List Value} (h : Row w g e size xs) {k : Nat} (hk : g ≠ k) (cs : Array Value) : Row (w.setRow k cs) g e size xs := h.keep (setRow_other w k g cs (by omega))
theorem Row.setRow {w : World} {g : Nat} {e : TypeId} {size : Nat} {xs : List Value} (h : Row w g e size xs) (ys : List Value) (hl : ys.length = size) : Row (w.setRow g ys.toArray) g e size ys := by
  obtain ⟨cur, h1, h2, h3⟩ := h
  refine ⟨ys.toArray, setRow_heap w g cur _ e _ h1, by simpa using hl, by simp⟩

end Go.Proofs.Ytnhmeckhlajeaaa
