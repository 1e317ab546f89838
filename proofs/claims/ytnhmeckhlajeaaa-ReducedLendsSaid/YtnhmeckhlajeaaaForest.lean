/- Forests that join vertices, in plain Lean: each vertex has one of its part that is not greater. -/
import Derived.Test.YtnhmeckhlajeaaaMem
namespace Go.Proofs.Ytnhmeckhlajeaaa
open Go.RowKit

def gn (l : List Nat) (k : Nat) : Nat := l.getD k 0
theorem gn_of_lt {l : List Nat} {k : Nat} (h : k < l.length) : gn l k = l[k] := by simp [gn, h]
theorem gn_set {l : List Nat} {k j : Nat} {x : Nat} (h : k < l.length) : gn (l.set k x) j = if j = k then x else gn l j := by
  unfold gn
  simp only [List.getD_eq_getElem?_getD, List.getElem?_set]
  by_cases e : j = k
  · subst e; simp [h]
  · rw [if_neg (by omega), if_neg e]

/-- A row of natural numbers, as ints. -/
abbrev NRow (w : World) (g : Nat) (e : TypeId) (size : Nat) (xs : List Nat) : Prop := Row w g e size (xs.map fun (n : Nat) => Value.int .i64 (Int.ofNat n))
section
variable {w : World} {g : Nat} {e : TypeId} {size : Nat}
theorem ncell {xs : List Nat} (h : NRow w g e size xs) {k : Nat} (hk : k < xs.length) : w.cell? ⟨g, k, none⟩ = some (.int .i64 (Int.ofNat (gn xs k))) :=
  Row.cell h (by rw [List.getElem?_map, List.getElem?_eq_getElem hk, gn_of_lt hk]; rfl)
theorem nset {xs : List Nat} (h : NRow w g e size xs) (k : Nat) (v : Nat) : NRow (w.setCell ⟨g, k, none⟩ (.int .i64 (Int.ofNat v))) g e size (xs.set k v) := by
  have := Row.set_ h k (.int .i64 (Int.ofNat v))
  unfold NRow; rwa [List.map_set]
end

/-- The cells of numbers. -/
def nvals (xs : List Nat) : List Value := xs.map fun (n : Nat) => Value.int .i64 (Int.ofNat n)
theorem nvals_length (xs : List Nat) : (nvals xs).length = xs.length := by simp [nvals]
theorem nvals_one (xs : List Nat) : ∀ v ∈ (nvals xs).toArray.toList, v.oneCell' = true := by
  intro v hv
  simp [nvals] at hv
  obtain ⟨a, _, rfl⟩ := hv
  rfl
theorem NRow.full {w : World} {g : Nat} {e : TypeId} {xs : List Nat} (h : NRow w g e xs.length xs) : w.heap[g]? = some (.cells (nvals xs).toArray e (0, 0)) := by
  have h' : Row w g e (nvals xs).length (nvals xs) := by rw [nvals_length]; exact h
  exact Row.full h'

def Forest (F : List Nat) : Prop := F.length = 12 ∧ ∀ v, v < 12 → gn F v ≤ v

def rootFuel (F : List Nat) : Nat → Nat → Nat
  | 0, v => v
  | k + 1, v => if gn F v = v then v else rootFuel F k (gn F v)
/-- The vertex that stands for the part of v. -/
def root (F : List Nat) (v : Nat) : Nat := rootFuel F v v

theorem rootFuel_more {F : List Nat} (h : Forest F) : ∀ (k v j : Nat), v < 12 → v ≤ k → v ≤ j → rootFuel F k v = rootFuel F j v := by
  intro k
  induction k using Nat.strongRecOn with
  | _ k ih =>
    intro v j hv hk hj
    have hle := h.2 v hv
    cases k with
    | zero =>
      obtain rfl : v = 0 := by omega
      have h0 : gn F 0 = 0 := by omega
      cases j with
      | zero => rfl
      | succ j => simp [rootFuel, h0]
    | succ k =>
      cases j with
      | zero =>
        obtain rfl : v = 0 := by omega
        have h0 : gn F 0 = 0 := by omega
        simp [rootFuel, h0]
      | succ j =>
        simp only [rootFuel]
        split
        · rfl
        · exact ih k (by omega) _ j (by omega) (by omega) (by omega)
theorem root_self {F : List Nat} {v : Nat} (h : gn F v = v) : root F v = v := by
  unfold root
  cases v with
  | zero => rfl
  | succ v => simp [rootFuel, h]
theorem root_step {F : List Nat} (h : Forest F) {v : Nat} (hv : v < 12) (hne : gn F v ≠ v) : root F v = root F (gn F v) := by
  have hle := h.2 v hv
  unfold root
  cases v with
  | zero => omega
  | succ v =>
    simp only [rootFuel]
    rw [if_neg hne]
    exact rootFuel_more h _ _ _ (by omega) (by omega) (Nat.le_refl _)
theorem root_le {F : List Nat} (h : Forest F) : ∀ v, v < 12 → root F v ≤ v ∧ gn F (root F v) = root F v := by
  intro v
  induction v using Nat.strongRecOn with
  | _ v ih =>
    intro hv
    by_cases he : gn F v = v
    · rw [root_self he]; exact ⟨Nat.le_refl _, he⟩
    · have hle := h.2 v hv
      rw [root_step h hv he]
      have := ih (gn F v) (by omega) (by omega)
      exact ⟨by omega, this.2⟩
theorem root_root {F : List Nat} (h : Forest F) {v : Nat} (hv : v < 12) : root F (root F v) = root F v := root_self (root_le h v hv).2

/-- Two parts are joined: the lesser vertex stands for both. -/
def joinN (F : List Nat) (a b : Nat) : List Nat := F.set (max (root F a) (root F b)) (min (root F a) (root F b))
theorem joinN_forest {F : List Nat} (h : Forest F) {a b : Nat} (ha : a < 12) (hb : b < 12) : Forest (joinN F a b) := by
  have h1 := root_le h a ha
  have h2 := root_le h b hb
  refine ⟨by simp [joinN, h.1], fun v hv => ?_⟩
  unfold joinN
  rw [gn_set (by rw [h.1]; omega)]
  split
  · omega
  · exact h.2 v hv
/-- After a join the root of a vertex is what it was, but for those of the greater root: they have the lesser. -/
theorem root_joinN {F : List Nat} (h : Forest F) {a b : Nat} (ha : a < 12) (hb : b < 12) : ∀ v, v < 12 →
    root (joinN F a b) v = if root F v = max (root F a) (root F b) then min (root F a) (root F b) else root F v := by
  have h1 := root_le h a ha
  have h2 := root_le h b hb
  have hJ := joinN_forest h ha hb
  have hg : ∀ j, gn (joinN F a b) j = if j = max (root F a) (root F b) then min (root F a) (root F b) else gn F j := fun j => by
    unfold joinN; exact gn_set (by rw [h.1]; omega)
  have hmin : root (joinN F a b) (min (root F a) (root F b)) = min (root F a) (root F b) := by
    apply root_self
    rw [hg]
    split
    · rfl
    · rcases Nat.le_total (root F a) (root F b) with hl | hl
      · rw [Nat.min_eq_left hl]; exact h1.2
      · rw [Nat.min_eq_right hl]; exact h2.2
  intro v
  induction v using Nat.strongRecOn with
  | _ v ih =>
    intro hv
    by_cases hM : v = max (root F a) (root F b)
    · have hrv : root F v = v := by
        apply root_self
        rw [hM]
        rcases Nat.le_total (root F a) (root F b) with hl | hl
        · rw [Nat.max_eq_right hl]; exact h2.2
        · rw [Nat.max_eq_left hl]; exact h1.2
      rw [hrv, if_pos hM]
      by_cases he : gn (joinN F a b) v = v
      · rw [root_self he]
        rw [hg, if_pos hM] at he
        exact he.symm
      · rw [root_step hJ hv he, hg, if_pos hM, hmin]
    · by_cases he : gn F v = v
      · have he' : gn (joinN F a b) v = v := by rw [hg, if_neg hM]; exact he
        rw [root_self he', root_self he, if_neg hM]
      · have he' : gn (joinN F a b) v ≠ v := by rw [hg, if_neg hM]; exact he
        have hle := h.2 v hv
        rw [root_step hJ hv he', root_step h hv he, hg, if_neg hM]
        exact ih _ (by omega) (by omega)

/-- The forest in which every vertex is by itself. -/
def grownF : List Nat := List.range 12
theorem grownF_forest : Forest grownF := ⟨rfl, fun v hv => by rw [gn_of_lt (by simpa [grownF] using hv)]; simp [grownF]⟩
/-- The forest of some edges. -/
def joinedF (es : List E3) : List Nat := es.foldl (fun F x => joinN F x.1.toNat x.2.1.toNat) grownF
/-- How many of n vertices stand for a part. -/
def nroots (F : List Nat) : Nat → Nat
  | 0 => 0
  | n + 1 => nroots F n + if root F n = n then 1 else 0

/-- All ends lie below 12. -/
def Ends12 (es : List E3) : Prop := ∀ x, x ∈ es → 0 ≤ x.1 ∧ x.1 < 12 ∧ 0 ≤ x.2.1 ∧ x.2.1 < 12
theorem joinedF_forest (es : List E3) (h : Ends12 es) : Forest (joinedF es) := by
  unfold joinedF
  suffices H : ∀ (l : List E3) (F : List Nat), (∀ x, x ∈ l → 0 ≤ x.1 ∧ x.1 < 12 ∧ 0 ≤ x.2.1 ∧ x.2.1 < 12) → Forest F → Forest (l.foldl (fun F x => joinN F x.1.toNat x.2.1.toNat) F) from H es _ h grownF_forest
  intro l
  induction l with
  | nil => exact fun F _ h => h
  | cons x l ih =>
    intro F hl hF
    have hx := hl x (by simp)
    exact ih _ (fun y hy => hl y (by simp [hy])) (joinN_forest hF (by omega) (by omega))
theorem joinedF_take (es : List E3) {k : Nat} (hk : k < es.length) : joinedF (es.take (k + 1)) = joinN (joinedF (es.take k)) (ge es k).1.toNat (ge es k).2.1.toNat := by
  unfold joinedF
  rw [List.take_add_one, List.getElem?_eq_getElem hk, List.foldl_append, ge_of_lt hk]
  rfl
theorem Ends12.take {es : List E3} (h : Ends12 es) (k : Nat) : Ends12 (es.take k) := fun x hx => h x (List.mem_of_mem_take hx)
end Go.Proofs.Ytnhmeckhlajeaaa
