/- The package's own functions: IsReduced, Unburnt. -/
import Derived.Test.YtnhmeckhlajeaaaReduce
namespace Go.Proofs.Ytnhmeckhlajeaaa
open Go Go.RowKit
set_option linter.unusedVariables false
set_option linter.unusedSectionVars false

/-- A slice of numbers, wholly owned above B. -/
def OInts (w : World) (B : Nat) (A : Option Addr) (l c : Nat) (xs : List Int) : Prop := OwnS w B 3 1 A l c (xs.map (Value.int .i64))
theorem OInts.ints {w : World} {B : Nat} {A : Option Addr} {l c : Nat} {xs : List Int} (h : OInts w B A l c xs) : l = xs.length ∧ Ints w A xs := by
  refine ⟨by have := h.1; simpa using this.symm, fun hl => ?_⟩
  rcases h.2 with ⟨h1, h2, h3⟩ | ⟨g, o, cur, rfl, hB, hg, hlc, hcm, hcs, ht⟩
  · have := h.1; simp at this; omega
  · refine ⟨g, o, rfl, (Array.getElem?_eq_some_iff.1 hg).1, fun k hk => ?_⟩
    rw [cell_of_row w g _ cur _ (0, 0) hg]
    have h1 : (xs.map (Value.int .i64))[k]? = some (.int .i64 (gi xs k)) := by rw [List.getElem?_map, List.getElem?_eq_getElem hk, gi_of_lt hk]; rfl
    rw [← ht, List.getElem?_take] at h1
    split at h1
    · rw [List.getElem?_drop] at h1; simpa using h1
    · cases h1
theorem OInts.nil (w : World) (B : Nat) : OInts w B none 0 0 [] := OwnS.nil w B _ 1
/-- One more number. -/
theorem OInts.push {w w1 : World} {B : Nat} {A : Option Addr} {l c : Nat} {xs : List Int} (h : OInts w B A l c xs) {g : Nat} {x : Int} (hN : New w g w1 #[.int .i64 x] 3) (hB : B ≤ w.heap.size) (hl : l + 1 ≤ 1000000000)
    {K : Option Addr → Nat → World → Prop}
    (hK : ∀ A' c' w2, OInts w2 B A' (l + 1) c' (xs ++ [x]) → w1.grownBy w2 (A.map (·.block)) → K A' c' w2) :
    ∃ (B : Nat) (xs nw : List Value) (ad : Addr), OwnS w1 B 3 1 A l c xs ∧ (some (⟨g, 0, none⟩ : Addr)) = some ad ∧ nw.length = 1 * 1 ∧ (∀ j u, nw[j]? = some u → w1.cell? (ad.add j) = some u) ∧ (∀ u ∈ nw, u.oneCell' = true) ∧ l + 1 ≤ maxLen ∧ (l + 1) * 8 ≤ 140737488355328 ∧ B ≤ w1.heap.size ∧
      ∀ A' c' w2, OwnS w2 B 3 1 A' (l + 1) c' (xs ++ nw) → w1.grownBy w2 (A.map (·.block)) → (A'.map (·.block) = A.map (·.block) ∨ A'.map (·.block) = some w1.heap.size) → K A' c' w2 := by
  have s := hN.size
  have at' := hN.at_
  have b : ∀ k, k < w.heap.size → w1.heap[k]? = w.heap[k]? := fun k hk => by rw [hN.to_]; exact Below.heap_alloc _ _ _ hk
  refine ⟨B, xs.map (Value.int .i64), [.int .i64 x], ⟨g, 0, none⟩, OwnS.keep h (fun a ha => b _ (OwnS.lt h ha).2), rfl, rfl, fun j u hj => ?_, by simp [Value.oneCell'], by unfold maxLen; omega, by omega, by omega, fun A' c' w2 h1 h2 _ => hK A' c' w2 ?_ h2⟩
  · cases j with
    | zero => simp only [List.getElem?_cons_zero, Option.some.injEq] at hj; subst hj; exact Row.cell hN.row (i := 0) rfl
    | succ j => simp at hj
  · unfold OInts; rw [List.map_append]; exact h1
theorem OInts.grown {w w1 w2 : World} {B : Nat} {A : Option Addr} {l c : Nat} {xs : List Int} (h : OInts w B A l c xs) {a : World} (hB : a.heap.size ≤ B) (p : Pure a w) {g : Nat} {cs : Array Value} {e : TypeId} (hN : New w g w1 cs e) (hg : w1.grownBy w2 (A.map (·.block))) : Pure a w2 := by
  refine (p.trans (hN.keeps _)).grown hg (fun k hk hlt => ?_)
  cases A with
  | none => cases hk
  | some ad =>
    have := (OwnS.lt h rfl).1
    simp at hk
    omega

/-- The vertices below k in a list of marks. -/
def setF (left : List Bool) : Nat → List Int
  | 0 => []
  | k + 1 => if gb left k = true then setF left k ++ [(k : Int)] else setF left k
theorem setF_length (left : List Bool) : ∀ k, (setF left k).length ≤ k
  | 0 => by simp [setF]
  | k + 1 => by have := setF_length left k; rw [setF]; split <;> simp <;> omega
theorem mem_setF {left : List Bool} {x : Int} : ∀ {k}, x ∈ setF left k ↔ ∃ v : Nat, v < k ∧ x = v ∧ gb left v = true
  | 0 => by simp [setF]
  | k + 1 => by
    rw [setF]
    split
    · rename_i h
      rw [List.mem_append, mem_setF]
      constructor
      · rintro (⟨v, h1, h2, h3⟩ | h1)
        · exact ⟨v, by omega, h2, h3⟩
        · simp at h1; exact ⟨k, by omega, h1, h⟩
      · rintro ⟨v, h1, h2, h3⟩
        by_cases e : v = k
        · subst e; right; simp [h2]
        · left; exact ⟨v, by omega, h2, h3⟩
    · rename_i h
      rw [mem_setF]
      constructor
      · rintro ⟨v, h1, h2, h3⟩; exact ⟨v, by omega, h2, h3⟩
      · rintro ⟨v, h1, h2, h3⟩
        refine ⟨v, ?_, h2, h3⟩
        by_cases e : v = k
        · subst e; exact absurd h3 h
        · omega

theorem red_iff {n : Nat} {es : List E3} {q : Nat} {d : List Int} {burnt : List Bool} (hE : EOk n es) (hq : q < n) (hB : Burns n es q d burnt) (hpos : ∀ v, v < n → v ≠ q → 0 ≤ gi d v) : Red n es q d ↔ (leftOf burnt).any id = false := by
  constructor
  · intro hR
    cases hany : (leftOf burnt).any id with
    | false => rfl
    | true =>
      exfalso
      obtain ⟨x, hx, hxt⟩ := List.any_eq_true.1 hany
      obtain ⟨i, hi, hxi⟩ := List.mem_iff_getElem.1 hx
      have hin : i < n := by simpa [leftOf, hB.len] using hi
      obtain ⟨v, hv, hSv, hlt⟩ := hR.no (gb (leftOf burnt)) (by rw [gb_left hB.len hq, hB.at_q]; rfl) ⟨i, hin, by rw [gb_of_lt hi, hxi]; simpa using hxt⟩
      have h1 := hB.closed v hv (by rw [gb_left hB.len hv] at hSv; simpa using hSv)
      rw [joins_sum hE] at h1
      have h2 : sm n (fun u => if gb (leftOf burnt) u = true then 0 else W es v u) = sm n (fun u => if gb burnt (u : Int).toNat = true then W es v u else 0) := sm_congr fun u hu => by
        rw [gb_left hB.len hu, Int.toNat_natCast]
        by_cases c : gb burnt u = true
        · simp [c]
        · simp [c]
      omega
  · intro hany
    refine ⟨hpos, fun S hS ⟨v, hv, hSv⟩ => ?_⟩
    apply Classical.byContradiction
    intro hno
    have h1 := hB.forced S hS (fun x hx hSx => by
      apply Int.not_lt.1
      intro hlt
      rw [joins_sum hE] at hlt
      refine hno ⟨x, hx, hSx, Int.lt_of_lt_of_le hlt (Int.le_of_eq (sm_congr fun u hu => ?_))⟩
      simp only [Int.toNat_natCast]
      by_cases hs : S u = true
      · simp [hs]
      · simp [hs]) v hv hSv
    have h2 : gb (leftOf burnt) v = true := by rw [gb_left hB.len hv, h1]; rfl
    have hvl : v < (leftOf burnt).length := by simp [leftOf, hB.len, hv]
    rw [gb_of_lt hvl] at h2
    have h3 : (leftOf burnt).any id = true := List.any_eq_true.2 ⟨_, List.getElem_mem hvl, h2⟩
    rw [hany] at h3; cases h3
theorem owes_iff {q : Nat} {d : List Int} {n : Nat} (hl : d.length = n) : owesF q d = true ↔ ¬ ∀ v, v < n → v ≠ q → 0 ≤ gi d v := by
  unfold owesF
  rw [List.any_eq_true]
  constructor
  · rintro ⟨v, hv, h⟩ h2
    simp only [List.mem_range, decide_eq_true_eq] at hv h
    have := h2 v (by omega) (by omega)
    omega
  · intro h
    apply Classical.byContradiction
    intro h2
    refine h fun v hv hq => ?_
    apply Int.not_lt.1
    intro h3
    exact h2 ⟨v, by simp; omega, by simp; omega⟩

def IsPost (n : Int) (es : List E3) (q : Int) (d : List Int) (w : World) (r : Bool) (er : Int) (w' : World) : Prop :=
  Pure w w' ∧ er = givenF n es q d ∧ (er ≠ 0 → r = false) ∧ (er = 0 → (r = true ↔ Red n.toNat es q.toNat d))
theorem isreduced_any (A D : Option Addr) (es : List E3) (d : List Int) (cap cd : Nat) (n q : Int) (w : World) (he : Edges w A es) (hd : Ints w D d) (hdl : d.length ≤ 1000000000) (hel : es.length ≤ 1000) :
    Calls Try.prog 29 #[.agg #[.int .i64 n, .slice A es.length cap], .int .i64 q, .slice D d.length cd] w fun e w' => ∃ r er, e = .returned (.tuple #[.bool r, .int .i64 er]) ∧ IsPost n es q d w r er w' := by
  refine ok_reduced_IsReduced n A es.length cap q D d.length cd w (IsPost n es q d w) ?_
  unfold sh_reduced_IsReduced
  intro g2 w2 hN
  have pN : Pure w w2 := hN.keeps _
  refine (given_any A D es d cap cd n q w2 (he.keep pN) (by omega) (hd.keep pN) hdl).mono ?_
  rintro _ w3 ⟨rfl, p3⟩
  have p03 := pN.trans p3
  refine ⟨_, rfl, p3.kp (by simp), fun h0 => ?_, fun h0 => ⟨p03, rfl, fun _ => rfl, fun h => absurd h h0⟩⟩
  obtain ⟨k1, k2, k3, k4, k5⟩ := givenF_ok h0
  obtain ⟨n, rfl⟩ : ∃ n' : Nat, n = (n' : Int) := ⟨n.toNat, by omega⟩
  obtain ⟨q, rfl⟩ : ∃ q' : Nat, q = (q' : Int) := ⟨q.toNat, by omega⟩
  obtain ⟨hE, hn1, hn12⟩ := gcheck_ok k1
  obtain ⟨hdn, -, -, -⟩ := checkF_ok k5
  refine (owes_any D d cd q w3 (hd.keep p03) hdl).mono ?_
  rintro _ w4 ⟨rfl, p4⟩
  have p4 : Pure w3 w4 := p4
  have p04 := p03.trans p4
  refine ⟨_, rfl, p4.kp (by simp), fun ho => ⟨p04, h0.symm, fun _ => rfl, fun _ => ⟨fun h => (by cases h), fun h => absurd h.pos ((owes_iff hdn).1 ho)⟩⟩, fun ho => ?_⟩
  have hpos : ∀ v, v < n → v ≠ q → 0 ≤ gi d v := Classical.byContradiction fun h => ho ((owes_iff hdn).2 h)
  have hes4 := he.keep p04
  refine (begin_any A D es d cap cd n q w4 (hd.keep p04) hdn hn1 hn12).mono ?_
  rintro _ w5 ⟨X, gd, gs, cd', rfl, hX, hgd, hgs, hS, p5, -⟩
  refine ⟨_, rfl, p5.kp (by simp), ?_⟩
  refine (unburnt_any X gd gs n A es cap cd' n q d _ 0 w5 hS (hes4.keep p5) (by omega) hn12 hE.range hel).mono ?_
  rintro _ w6 ⟨gl, left, rfl, hgl, hl6, hll, p6, burnt, b1, b2, b3, b4, b5⟩
  have hB : Burns n es q d burnt := ⟨b1, b3, b4, b5⟩
  have hlo : left = leftOf burnt := b2
  refine ⟨_, _, _, _, rfl, p6.kp (by simp), (p04.trans p5).trans p6, h0.symm, fun h => absurd rfl h, fun _ => ?_⟩
  have := red_iff hE (by omega) hB hpos
  simp only [Int.toNat_natCast]
  rw [this, hlo]
  simp

def UnbPost (n : Int) (es : List E3) (q : Int) (d : List Int) (w : World) (A : Option Addr) (l c : Nat) (er : Int) (w' : World) : Prop :=
  Pure w w' ∧ er = (if givenF n es q d = 0 then (if owesF q d = true then 15 else 0) else givenF n es q d) ∧ (er ≠ 0 → A = none ∧ l = 0 ∧ c = 0) ∧
    (er = 0 → ∃ burnt, Burns n.toNat es q.toNat d burnt ∧ OInts w' w.heap.size A l c (setF (leftOf burnt) n.toNat))
theorem unburntp_any (A D : Option Addr) (es : List E3) (d : List Int) (cap cd : Nat) (n q : Int) (w : World) (he : Edges w A es) (hd : Ints w D d) (hdl : d.length ≤ 1000000000) (hel : es.length ≤ 1000) :
    Calls Try.prog 31 #[.agg #[.int .i64 n, .slice A es.length cap], .int .i64 q, .slice D d.length cd] w fun e w' => ∃ A1 l1 c1 er, e = .returned (.tuple #[.slice A1 l1 c1, .int .i64 er]) ∧ UnbPost n es q d w A1 l1 c1 er w' := by
  refine ok_reduced_Unburnt n A es.length cap q D d.length cd w (UnbPost n es q d w) ?_
  unfold sh_reduced_Unburnt
  intro g2 w2 hN
  have pN : Pure w w2 := hN.keeps _
  refine (given_any A D es d cap cd n q w2 (he.keep pN) (by omega) (hd.keep pN) hdl).mono ?_
  rintro _ w3 ⟨rfl, p3⟩
  have p03 := pN.trans p3
  refine ⟨_, rfl, p3.kp (by simp), fun h0 => ?_, fun h0 => ⟨p03, by rw [if_neg h0], fun _ => ⟨rfl, rfl, rfl⟩, fun h => absurd h h0⟩⟩
  obtain ⟨k1, k2, k3, k4, k5⟩ := givenF_ok h0
  obtain ⟨n, rfl⟩ : ∃ n' : Nat, n = (n' : Int) := ⟨n.toNat, by omega⟩
  obtain ⟨q, rfl⟩ : ∃ q' : Nat, q = (q' : Int) := ⟨q.toNat, by omega⟩
  obtain ⟨hE, hn1, hn12⟩ := gcheck_ok k1
  obtain ⟨hdn, -, -, -⟩ := checkF_ok k5
  refine (owes_any D d cd q w3 (hd.keep p03) hdl).mono ?_
  rintro _ w4 ⟨rfl, p4⟩
  have p4 : Pure w3 w4 := p4
  have p04 := p03.trans p4
  refine ⟨_, rfl, p4.kp (by simp), fun ho => ⟨p04, by rw [if_pos h0, if_pos ho], fun _ => ⟨rfl, rfl, rfl⟩, fun h => absurd h (by decide)⟩, fun ho => ?_⟩
  have hes4 := he.keep p04
  refine (begin_any A D es d cap cd n q w4 (hd.keep p04) hdn hn1 hn12).mono ?_
  rintro _ w5 ⟨X, gd, gs, cd', rfl, hX, hgd, hgs, hS, p5, -⟩
  refine ⟨_, rfl, p5.kp (by simp), ?_⟩
  refine (unburnt_any X gd gs n A es cap cd' n q d _ 0 w5 hS (hes4.keep p5) (by omega) hn12 hE.range hel).mono ?_
  rintro _ w6 ⟨gl, left, rfl, hgl, hl6, hll, p6, burnt, b1, b2, b3, b4, b5⟩
  have hB : Burns n es q d burnt := ⟨b1, b3, b4, b5⟩
  have hlo : left = leftOf burnt := b2
  have p06 := (p04.trans p5).trans p6
  have s06 := p06.size
  refine ⟨_, _, _, _, rfl, p6.kp (by simp), fun m Ao lo co i w7 => ∃ k, m = n - k ∧ i = (k : Int) ∧ k ≤ n ∧ OInts w7 w6.heap.size Ao lo co (setF left k) ∧ Pure w6 w7, ⟨n, 0, by omega, rfl, by omega, OInts.nil w6 _, Keeps.refl _ _⟩, ?_⟩
  rintro m Ao lo co i w7 ⟨k, rfl, rfl, hk, ho7, p7⟩
  have hl7 := p7.row hl6 id
  have s7 := p7.size
  have hll7 := ho7.ints.1
  have hsl := setF_length left k
  have g2lt : g2 < w6.heap.size := by have := hN.at_; have := hN.size; have := p3.size; have := p4.size; have := p5.size; have := p6.size; omega
  refine ⟨fun hlt => ?_, fun hge => ?_⟩
  · have hb := bld hl7 (i := (k : Int)) (by omega) (by omega)
    simp only [Int.toNat_natCast] at hb
    refine ⟨ix_some (by omega) (by omega), gb left k, hb, fun hx g3 w8 hN8 => ?_, fun hx => ⟨in64 (by omega), n - (k + 1), by omega, k + 1, rfl, by omega, by omega, ?_, p7⟩⟩
    · refine ho7.push hN8 s7 (by omega) fun A' c' w9 ho9 hgr => ?_
      have p9 : Pure w6 w9 := ho7.grown (Nat.le_refl _) p7 hN8 hgr
      refine ⟨fun hl => ?_, in64 (by omega), n - (k + 1), by omega, k + 1, rfl, by omega, by omega, ?_, p9⟩
      · have e1 := p9.block g2 g2lt id
        have e2 := p7.block g2 g2lt id
        have e3 : w8.heap[g2]? = w7.heap[g2]? := by rw [hN8.to_]; exact Below.heap_alloc _ _ _ (by omega)
        rw [e1, e3, e2]
      · rw [setF, if_pos hx]; exact ho9
    · rw [setF, if_neg hx]; exact ho7
  · have hk2 : k = n := by omega
    subst hk2
    refine ⟨p06.trans p7, by rw [if_pos h0, if_neg ho], fun h => absurd rfl h, fun _ => ⟨burnt, by simpa using hB, ?_⟩⟩
    have : OInts w7 w.heap.size Ao lo co (setF left k) := by
      refine ⟨ho7.1, ?_⟩
      rcases ho7.2 with h | ⟨g, o, cur, h1, h2, h3⟩
      · exact .inl h
      · exact .inr ⟨g, o, cur, h1, by omega, h3⟩
    rw [← hlo]; simpa using this
end Go.Proofs.Ytnhmeckhlajeaaa
