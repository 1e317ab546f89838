/- Texts laid together: Cv, Cw, Cx, PCo, COr. -/
import Derived.Test.YtinoedockljfeaaK5
/- The law on degrees: divisors keep them when they are collected or spread. -/
namespace Go.Proofs.Ytinoedockljfeaa
open Go Go.RowKit Go.Shelf Go.Proofs.Try
set_option linter.unusedVariables false
set_option linter.unusedSimpArgs false
structure RtG (n : Int) (es : List E3) (e : Int) (k m : Nat) : Prop where
  hn : n = k
  he : e = m
  G : GrOk k es (yaI es)
  hl : es.length ≤ 40
  hk : k ≤ 6
  hE : (yaI es).length ≤ 9
  hm : m < (yaI es).length
theorem yh8 {n : Int} {es : List E3} {e : Int} {R : Bool → Prop} (h1 : ∀ k m, RtG n es e k m → R true) (h2 : R false) : ygH n es e R := by
  refine p_r08_Few ⟨fun q => ?_, fun _ => h2⟩
  obtain ⟨hl, hs⟩ := few_of q
  refine ye7 (by omega) ⟨fun q2 => ⟨fun q3 => ?_, fun _ => h2⟩, fun _ => h2⟩
  obtain ⟨k, rfl, G⟩ := yga q2
  obtain ⟨hk, hE⟩ := hs q2
  refine yhn G (by omega) ?_
  by_cases q4 : e < ((yaI es).length : Int)
  · rw [decide_eq_true q4]
    exact h1 k e.toNat ⟨rfl, by omega, G, hl, by omega, hE, by omega⟩
  · rw [decide_eq_false q4]; exact h2
theorem RtG.sgl {n : Int} {es : List E3} {e : Int} {k m : Nat} (h : RtG n es e k m) : sglF n es e = 0 := by
  obtain ⟨rfl, rfl, G, hl, hk, hE, hm⟩ := h
  unfold sglF
  rw [if_neg (fun z => z G.g), if_neg (by omega)]
theorem RtG.few {n : Int} {es : List E3} {e : Int} {k m : Nat} (h : RtG n es e k m) : ¬ Many (conL (yaI es) m) := by
  apply yh7
  rw [yh1 h.hm]; have := h.hE; omega
section
variable {n : Int} {es : List E3} {e : Int} {d : List Int}
end
end Go.Proofs.Ytinoedockljfeaa

/- Ends of made graphs stand in order; places in sorted lists; the law on how ends move. -/
namespace Go.Proofs.Ytinoedockljfeaa
open Go Go.RowKit Go.Shelf Go.Proofs.Try
set_option linter.unusedVariables false
set_option linter.unusedSimpArgs false
def ltP (x y : Int × Int) : Prop := x.1 < y.1 ∨ x.1 = y.1 ∧ x.2 < y.2
def leP (x y : Int × Int) : Prop := x.1 < y.1 ∨ x.1 = y.1 ∧ x.2 ≤ y.2
instance (x y : Int × Int) : Decidable (ltP x y) := by unfold ltP; exact inferInstance
instance (x y : Int × Int) : Decidable (leP x y) := by unfold leP; exact inferInstance
theorem leP_anti {x y : Int × Int} (h1 : leP x y) (h2 : leP y x) : x = y := by
  unfold leP at *
  exact Prod.ext (by omega) (by omega)
theorem ltP_or {x y : Int × Int} (h : x ≠ y) : ltP x y ∨ ltP y x := by
  unfold ltP
  rcases Int.lt_trichotomy x.1 y.1 with q | q | q
  · exact .inl (.inl q)
  · rcases Int.lt_trichotomy x.2 y.2 with p | p | p
    · exact .inl (.inr ⟨q, p⟩)
    · exact absurd (Prod.ext q p) h
    · exact .inr (.inr ⟨q.symm, p⟩)
  · exact .inr (.inl q)
theorem ygP : ∀ {es : List E3}, es.Pairwise ltE → (yaI es).Pairwise leP
  | [], _ => by simp [yaI]
  | x :: t, h => by
    have e : yaI (x :: t) = List.replicate x.2.2.toNat (x.1, x.2.1) ++ yaI t := by unfold yaI; rw [List.flatMap_cons]
    rw [List.pairwise_cons] at h
    rw [e, List.pairwise_append]
    refine ⟨?_, ygP h.2, fun y hy z hz => ?_⟩
    · rw [List.pairwise_replicate]; exact .inr (.inr ⟨rfl, Int.le_refl _⟩)
    · rw [(List.mem_replicate.1 hy).2]
      unfold yaI at hz
      obtain ⟨x2, hx2, hr⟩ := List.mem_flatMap.1 hz
      rw [(List.mem_replicate.1 hr).2]
      have := h.1 x2 hx2
      unfold ltE at this; unfold leP; simp only; omega
theorem cnt_cons (x : E3) (t : List E3) (hx : x.1 ≤ x.2.1) (a b : Int) : cntE (yaI (x :: t)) a b = (if x.1 = a ∧ x.2.1 = b then (x.2.2.toNat : Int) else 0) + cntE (yaI t) a b := by
  have e : yaI (x :: t) = List.replicate x.2.2.toNat (x.1, x.2.1) ++ yaI t := by unfold yaI; rw [List.flatMap_cons]
  have em : mnF x.1 x.2.1 = x.1 := (ygQ hx).1
  have ex : mxF x.1 x.2.1 = x.2.1 := (ygQ hx).2
  rw [e]
  unfold cntE
  rw [List.countP_append, List.countP_replicate]
  have : isE a b (x.1, x.2.1) = decide (x.1 = a ∧ x.2.1 = b) := by unfold isE; rw [em, ex]
  rw [this]
  by_cases q : x.1 = a ∧ x.2.1 = b <;> simp [q]
theorem cnt_none : ∀ {es : List E3} {a b : Int}, (∀ x ∈ es, x.1 ≤ x.2.1) → (∀ x ∈ es, ¬ (x.1 = a ∧ x.2.1 = b)) → cntE (yaI es) a b = 0
  | [], _, _, _, _ => by simp [yaI, cntE]
  | x :: t, a, b, h, h2 => by
    rw [cnt_cons _ _ (h x (by simp)), if_neg (h2 x (by simp)), cnt_none (fun y hy => h y (by simp [hy])) fun y hy => h2 y (by simp [hy])]; rfl
theorem cnt_mem : ∀ {es : List E3} {x : E3}, (∀ x ∈ es, x.1 ≤ x.2.1 ∧ 0 ≤ x.2.2) → es.Pairwise ltE → x ∈ es → cntE (yaI es) x.1 x.2.1 = x.2.2
  | [], _, _, _, h => by simp at h
  | y :: t, x, h, hp, hx => by
    rw [List.pairwise_cons] at hp
    have hy := h y (by simp)
    rw [cnt_cons _ _ hy.1]
    rcases List.mem_cons.1 hx with rfl | hx
    · rw [if_pos ⟨rfl, rfl⟩, cnt_none (fun z hz => (h z (by simp [hz])).1) fun z hz q => by
        have := hp.1 z hz
        unfold ltE at this; omega]
      omega
    · rw [if_neg (fun q => by have := hp.1 x hx; unfold ltE at this; omega), cnt_mem (fun z hz => h z (by simp [hz])) hp.2 hx]; omega
theorem made_le {d : Nat} {l : List (Int × Int)} : ∀ x ∈ made d l, x.1 ≤ x.2.1 ∧ 0 ≤ x.2.2 := fun x hx => by
  obtain ⟨a, b, h1, h2, h3, rfl⟩ := ygN.1 hx
  simp only; omega
theorem cnt_made {d : Nat} {l : List (Int × Int)} (hl : yc4 d l) (a b : Int) : cntE (yaI (made d l)) a b = cntE l a b := by
  by_cases q : 0 < cntE l a b
  · have q' := q
    unfold cntE at q
    have h2 : 0 < l.countP (isE a b) := by omega
    obtain ⟨e, he, hp⟩ := List.countP_pos_iff.1 h2
    unfold isE at hp
    obtain ⟨h3, h4⟩ := of_decide_eq_true hp
    have h5 := hl e he
    have h6 : mnF e.1 e.2 ≤ mxF e.1 e.2 ∧ 0 ≤ mnF e.1 e.2 ∧ mxF e.1 e.2 < d := by
      unfold mnF mxF
      split <;> omega
    obtain ⟨a', rfl⟩ : ∃ k : Nat, a = k := ⟨a.toNat, by omega⟩
    obtain ⟨b', rfl⟩ : ∃ k : Nat, b = k := ⟨b.toNat, by omega⟩
    have hm : ((a' : Int), (b' : Int), cntE l a' b') ∈ made d l := ygN.2 ⟨a', b', by omega, by omega, q', rfl⟩
    exact cnt_mem made_le yes hm
  · have := yfG l a b
    rw [cnt_none (fun x hx => (made_le x hx).1)]
    · omega
    · rintro x hx ⟨rfl, rfl⟩
      obtain ⟨a, b, h1, h2, h3, rfl⟩ := ygN.1 hx
      exact q h3
theorem cnt_count {l : List (Int × Int)} (h : ∀ e ∈ l, e.1 ≤ e.2) (p : Int × Int) : l.count p = if p.1 ≤ p.2 then (cntE l p.1 p.2).toNat else 0 := by
  split
  · rename_i q
    unfold cntE
    rw [Int.toNat_natCast, List.count_eq_countP]
    refine List.countP_congr fun x hx => ?_
    unfold isE
    rw [(ygQ (h x hx)).1, (ygQ (h x hx)).2, beq_iff_eq, decide_eq_true_eq]
    exact ⟨fun z => by rw [z]; exact ⟨rfl, rfl⟩, fun z => Prod.ext z.1 z.2⟩
  · rename_i q
    rw [List.count_eq_zero]
    intro z
    exact q (h p z)
theorem ends_le {es : List E3} (h : ∀ x ∈ es, x.1 ≤ x.2.1) : ∀ e ∈ yaI es, e.1 ≤ e.2 := fun e he => by
  unfold yaI at he
  obtain ⟨x, hx, hr⟩ := List.mem_flatMap.1 he
  rw [(List.mem_replicate.1 hr).2]
  exact h x hx
theorem yhA {d : Nat} {l : List (Int × Int)} (hl : yc4 d l) (hle : ∀ e ∈ l, e.1 ≤ e.2) : (yaI (made d l)).Perm l := by
  rw [List.perm_iff_count]
  intro p
  rw [cnt_count (ends_le fun x hx => (made_le x hx).1), cnt_count hle, cnt_made hl]
theorem ygU {d : Nat} {l : List (Int × Int)} : (yaI (made d l)).Pairwise leP := ygP yes
theorem ends_made {d : Nat} {l : List (Int × Int)} (hl : yc4 d l) (hle : ∀ e ∈ l, e.1 ≤ e.2) (hs : l.Pairwise leP) : yaI (made d l) = l :=
  List.Perm.eq_of_pairwise (fun a b _ _ h1 h2 => leP_anti h1 h2) ygU hs (yhA hl hle)
theorem gchk_pair {n : Int} : ∀ (es : List E3) (a b : Int), gchk n a b es = 0 → (∀ x ∈ es, a < x.1 ∨ a = x.1 ∧ b < x.2.1) ∧ es.Pairwise ltE
  | [], _, _, _ => ⟨fun x hx => by simp at hx, List.Pairwise.nil⟩
  | y :: t, a, b, h => by
    rw [gchk] at h
    split at h
    case isFalse => cases h
    split at h
    case isFalse => cases h
    rename_i h2
    obtain ⟨i1, i2⟩ := gchk_pair t _ _ h
    have hp := ycF.1 h2.2
    refine ⟨fun x hx => ?_, List.pairwise_cons.2 ⟨fun x hx => ?_, i2⟩⟩
    · rcases List.mem_cons.1 hx with rfl | hx
      · exact hp
      · have := i1 x hx; omega
    · exact i1 x hx
theorem GrOk.sorted {n : Nat} {es : List E3} {E : List (Int × Int)} (h : GrOk n es E) : E.Pairwise leP := by
  rw [← h.e]; exact ygP (gchk_pair es _ _ (ydX h.g)).2
theorem made_gr {d : Nat} (h1 : 1 ≤ d) (hd : d ≤ 12) {l : List (Int × Int)} (hm : ¬ Many l) : GrOk d (made d l) (yaI (made d l)) := by
  obtain ⟨k, e, G⟩ := yga (made_ok h1 hd (not_many hm))
  have e : k = d := by omega
  rw [e] at G; exact G
theorem ygT {α : Type} {p q : α → Bool} : ∀ {l : List α}, (∀ x ∈ l, p x = true → q x = true) → (∃ s ∈ l, q s = true ∧ p s = false) → l.countP p < l.countP q
  | [], _, ⟨s, hs, _⟩ => by simp at hs
  | x :: t, h, ⟨s, hs, h1, h2⟩ => by
    rw [List.countP_cons, List.countP_cons]
    have hle : t.countP p ≤ t.countP q := List.countP_mono_left fun y hy => h y (by simp [hy])
    rcases List.mem_cons.1 hs with rfl | hs
    · rw [h1, h2]; simp; omega
    · have ih := ygT (fun y hy => h y (by simp [hy])) ⟨s, hs, h1, h2⟩
      by_cases q1 : p x = true
      · rw [q1, h x (by simp) q1]; simp; omega
      · rw [Bool.not_eq_true] at q1
        rw [q1]; simp only [Bool.false_eq_true, if_false]; omega
theorem at_sorted {Y : List (Int × Int)} (hs : Y.Pairwise leP) {j : Nat} {p : Int × Int} (h1 : Y.countP (fun x => decide (ltP x p)) ≤ j) (h2 : j < Y.countP (fun x => decide (leP x p))) : j < Y.length ∧ gx Y j = p := by
  have hj : j < Y.length := Nat.lt_of_lt_of_le h2 List.countP_le_length
  refine ⟨hj, ?_⟩
  have e : Y = Y.take j ++ gx Y j :: Y.drop (j + 1) := by
    rw [ybx hj, ← List.drop_eq_getElem_cons hj, List.take_append_drop]
  generalize gx Y j = x at e ⊢
  have hp := hs
  rw [e, List.pairwise_append, List.pairwise_cons] at hp
  have hlt : (Y.take j).length = j := by rw [List.length_take]; omega
  apply Classical.byContradiction
  intro hne
  rcases ltP_or hne with q | q
  · have a1 : (Y.take j).countP (fun x => decide (ltP x p)) = j := by
      rw [List.countP_eq_length.2, hlt]
      intro z hz
      have := hp.2.2 z hz x (by simp)
      apply decide_eq_true
      unfold leP at this; unfold ltP at q ⊢; omega
    have a2 : Y.countP (fun x => decide (ltP x p)) = (Y.take j).countP (fun x => decide (ltP x p)) + (x :: Y.drop (j + 1)).countP (fun x => decide (ltP x p)) := by
      conv => lhs; rw [e]
      exact List.countP_append
    rw [List.countP_cons, decide_eq_true q, a1, if_pos rfl] at a2
    omega
  · have a2 : Y.countP (fun x => decide (leP x p)) = (Y.take j).countP (fun x => decide (leP x p)) + (x :: Y.drop (j + 1)).countP (fun x => decide (leP x p)) := by
      conv => lhs; rw [e]
      exact List.countP_append
    have a3 : (x :: Y.drop (j + 1)).countP (fun x => decide (leP x p)) = 0 := by
      rw [List.countP_eq_zero]
      intro z hz hb
      have hb := of_decide_eq_true hb
      rcases List.mem_cons.1 hz with rfl | hz
      · unfold ltP at q; unfold leP at hb; omega
      · have := hp.2.1.1 z hz
        unfold ltP at q; unfold leP at hb this; omega
    have a4 : (Y.take j).countP (fun x => decide (leP x p)) ≤ (Y.take j).length := List.countP_le_length
    omega
theorem oth_snoc (l : List (Int × Int)) (x : Int × Int) (m : Nat) : othF (l ++ [x]) m = othF l m ++ if l.length = m then [] else [x] := by
  unfold othF
  rcases Nat.lt_trichotomy l.length m with q | q | q
  · rw [if_neg (by omega), List.take_of_length_le (by simp; omega), List.take_of_length_le (by omega), List.drop_eq_nil_of_le (by simp; omega), List.drop_eq_nil_of_le (by omega)]; simp
  · rw [if_pos q, List.take_append_of_le_length (by omega), List.drop_eq_nil_of_le (by simp; omega), List.drop_eq_nil_of_le (by omega)]; simp
  · rw [if_neg (by omega), List.take_append_of_le_length (by omega), List.drop_append_of_le_length (by omega), List.append_assoc]
theorem gx_snoc_lt {l : List (Int × Int)} {x : Int × Int} {j : Nat} (h : j < l.length) : gx (l ++ [x]) j = gx l j := by
  rw [ybx (by simp; omega), ybx h, List.getElem_append_left h]
theorem oth_range (m : Nat) (E : List (Int × Int)) : othF E m = ((List.range E.length).filter fun j => decide (j ≠ m)).map (gx E) := by
  refine snoc_ind (P := fun E => othF E m = ((List.range E.length).filter fun j => decide (j ≠ m)).map (gx E)) (by simp [othF]) (fun l x ih => ?_) E
  have e : ((List.range l.length).filter fun j => decide (j ≠ m)).map (gx (l ++ [x])) = ((List.range l.length).filter fun j => decide (j ≠ m)).map (gx l) :=
    List.map_congr_left fun j hj => gx_snoc_lt (List.mem_range.1 (List.mem_filter.1 hj).1)
  rw [oth_snoc, ih, List.length_append, List.length_singleton, List.range_succ, List.filter_append, List.map_append, e]
  congr 1
  by_cases q : l.length = m
  · rw [if_pos q]; simp [q]
  · rw [if_neg q]
    simp only [List.filter_cons, List.filter_nil]
    rw [if_pos (decide_eq_true q), List.map_singleton, ybx (by simp)]; simp
theorem oth_map (f : Int × Int → Int × Int) (E : List (Int × Int)) (m : Nat) : (othF E m).map f = othF (E.map f) m := by
  unfold othF; rw [List.map_append, List.map_take, List.map_drop]
theorem oth_count (K : List (Int × Int)) (m : Nat) (P : Int × Int → Bool) : (othF K m).countP P = (List.range K.length).countP fun j => decide (j ≠ m) && P (gx K j) := by
  rw [oth_range, List.countP_map, List.countP_filter]
  exact List.countP_congr fun j _ => by simp [and_comm]
theorem oth_at {E : List (Int × Int)} {m s : Nat} (hs : s < E.length) (hne : s ≠ m) : gx (othF E m) (if s < m then s else s - 1) = gx E s := by
  unfold othF
  split
  · rename_i q
    rw [ybx (by simp; omega), ybx hs, List.getElem_append_left (by simp; omega)]; simp
  · rename_i q
    rw [ybx (by simp; omega), ybx hs, List.getElem_append_right (by simp; omega)]
    simp only [List.getElem_drop, List.length_take]
    congr 1
    omega
theorem bf_iff {K : List (Int × Int)} {i j : Nat} : bfF K i j ↔ ltP (gx K i) (gx K j) ∨ gx K i = gx K j ∧ i < j := by
  unfold bfF ltP
  rw [Int.toNat_natCast, Int.toNat_natCast]
  constructor <;> rintro (h | ⟨h, h2⟩)
  · exact .inl h
  · exact .inr ⟨h, by omega⟩
  · exact .inl h
  · exact .inr ⟨h, by omega⟩
theorem num_at {K Y : List (Int × Int)} {m s : Nat} (hs : s < K.length) (hne : s ≠ m) (hp : Y.Perm (othF K m)) (hY : Y.Pairwise leP) : numF K m s K.length < Y.length ∧ gx Y (numF K m s K.length) = gx K s := by
  refine at_sorted hY ?_ ?_
  · rw [hp.countP_eq, oth_count]
    refine List.countP_mono_left fun j _ hj => ?_
    rw [Bool.and_eq_true, decide_eq_true_eq, decide_eq_true_eq] at hj
    exact decide_eq_true ⟨hj.1, bf_iff.2 (.inl hj.2)⟩
  · rw [hp.countP_eq, oth_count]
    refine ygT (fun j _ hj => ?_) ⟨s, List.mem_range.2 hs, ?_, ?_⟩
    · have hj := of_decide_eq_true hj
      rw [Bool.and_eq_true, decide_eq_true_eq, decide_eq_true_eq]
      refine ⟨hj.1, ?_⟩
      rcases bf_iff.1 hj.2 with h | ⟨h, _⟩
      · unfold ltP at h; unfold leP; omega
      · rw [h]; exact .inr ⟨rfl, Int.le_refl _⟩
    · rw [Bool.and_eq_true, decide_eq_true_eq, decide_eq_true_eq]
      exact ⟨hne, .inr ⟨rfl, Int.le_refl _⟩⟩
    · exact decide_eq_false fun z => ygW z.2
theorem gi_lesF {L m s : Nat} (h : s < L) : gi (lesF L m) s = if s = m then -1 else if s < m then (s : Int) else (s : Int) - 1 := by
  rw [ybl (by rw [yeh]; exact h)]; simp [lesF]
theorem yh3 (K : List (Int × Int)) (L m : Nat) : (shoF K L m).length = L := by simp [shoF]
theorem gi_shoF {K : List (Int × Int)} {L m s : Nat} (h : s < L) : gi (shoF K L m) s = if s = m then -1 else (numF K m s L : Int) := by
  rw [ybl (by rw [yh3]; exact h)]; simp [shoF]
end Go.Proofs.Ytinoedockljfeaa

/- The law on how ends move. -/
namespace Go.Proofs.Ytinoedockljfeaa
open Go Go.RowKit Go.Shelf Go.Proofs.Try
set_option linter.unusedVariables false
set_option linter.unusedSimpArgs false
section
variable {n : Int} {es : List E3} {e : Int}
end
end Go.Proofs.Ytinoedockljfeaa

/- Pure forms of functions, made by program (pf.py), each with the proof that the code does so. -/
namespace Go.Proofs.Ytinoedockljfeaa
open Go Go.RowKit Go.Shelf Go.Proofs.Try
set_option linter.unusedVariables false
set_option maxRecDepth 100000
set_option maxHeartbeats 8000000
def yhC (x : Int) (y : Int) (cap : Int) (cap2 : List E3) (R : Int → (List E3) → Bool → Prop) : Prop :=
yfY cap cap2 x (fun r r2 r3 =>
((r3 = 0 →
yfY r r2 y (fun r4 r5 r6 =>
R r4 r5 (decide (r6 = 0)))) ∧
(¬ (r3 = 0) →
R r r2 false)))
theorem yhN {O : Nat → Prop} {w : World} {x y cap cap2 gc Acap lcap ccap} {R : Int → (List E3) → Bool → Prop} (h : yhC x y cap cap2 R) (hO : ∀ k, O k → k < w.heap.size) (hA0 : (FP.bx 24 gc [(Value.int .i64 cap), (Value.slice Acap lcap ccap)]).P O w) (hA1 : (FP.sl c3 Acap lcap ccap cap2).P O w) :
    Calls Try.prog 43 #[(.func (Fn.func 20) #[] #[]), (ii x), (.func (Fn.func 20) #[] #[]), (ii y), (.pointer (some (⟨gc, 0, none⟩ : Addr)))] w fun e w' => ∃ r7 r8 r9 Ar3 lr3 cr3, e = .returned (.tuple #[(.agg #[(ii r7), (.slice Ar3 lr3 cr3)]), (.bool (r9))]) ∧ Sep w no O w' (rl [Res.own c3 75 Ar3 lr3 cr3 r8]) ∧ R r7 r8 r9 := by
  unfold yhC at h; have hS : Sep w no O w (rl [Res.ro (FP.bx 24 gc [(ii cap), (.slice Acap lcap ccap)]), Res.ro (FP.sl c3 Acap lcap ccap cap2)]) := Sep.startl hO [(FP.bx 24 gc [(ii cap), (.slice Acap lcap ccap)]), (FP.sl c3 Acap lcap ccap cap2)] ⟨hA0, hA1, trivial⟩; refine yaq (l := [(.func (Fn.func 20) #[] #[]), (ii x), (.func (Fn.func 20) #[] #[]), (ii y), (.pointer (some (⟨gc, 0, none⟩ : Addr)))]) func43 rfl ntmps43 (Nat.le_of_ble_eq_true rfl) (zs (zn (ybg yan ?_))); intro g w2 hN; replace hS : Sep w no O w2 (stl _ 2 (Res.box 24 g [(ii 0), (.slice none 0 0)])) := hS.new 2 rfl hN; clear hN; refine zb (zq (za (.bool (false))) (yaa (zs (zq (zm (.func (Fn.func 20) #[] #[])) (zq (yaz (vs := [(ii cap), (.slice Acap lcap ccap)]) rfl underlying24 rfl yan ⟨Row.cell (hS.bxr 0 rfl) (i := 0) rfl, Row.cell (hS.bxr 0 rfl) (i := 1) rfl, trivial⟩) (zq (zm (ii x)) (zn (yak rfl (am2 rfl rfl) yh0 ((ygj h (yaF _) (hS.rdr 1 rfl)).mono ?_))))))))); rintro _ w3 ⟨r, r2, r3, Ar, lr, cr, rfl, hC, h⟩; replace hS := hS.call1 (hC.widen (ybv (yat (fP (fI .i64) (fP (fI .i64) (fI .i64))) _ _ _ _ _) ybE) hS.blt) 3 0 rfl; clear hC; refine ⟨_, rfl, ?_⟩; refine zb (zq (zm (.tuple #[(.agg #[(ii r), (.slice Ar lr cr)]), (ii r3)])) (zq (zx (.agg #[(ii r), (.slice Ar lr cr)])) (zq (zx (ii r3)) (zn (ybg yan ?_))))); intro g2 w4 hN; replace hS : Sep w no O w4 (stl _ 4 (Res.box 24 g2 [(ii 0), (.slice none 0 0)])) := hS.new 4 rfl hN; clear hN; refine zb (zo (yaJ (b := g2) (o := 0) (cells := #[(ii r), (.slice Ar lr cr)]) rfl rfl yan rfl rfl (yaC (hS.bx 4 rfl) (Nat.le_of_ble_eq_true rfl)) ?_)); intro w5 e1; replace hS := hS.bstn 4 rfl 0 [(ii r), (.slice Ar lr cr)] e1; clear e1; refine zb (zq (za (ii r3)) (yaa (yaf (zs (zq (zm (ii r3)) (zq zN (yaa ?_))))))); by_cases hp : r3 = 0
  · replace h := h.1 hp; refine ze hp (yah (zs (zq (zm (.func (Fn.func 20) #[] #[])) (zq (yaz (vs := [(ii r), (.slice Ar lr cr)]) rfl underlying24 rfl yan ⟨Row.cell (hS.bx 4 rfl) (i := 0) rfl, Row.cell (hS.bx 4 rfl) (i := 1) rfl, trivial⟩) (zq (zm (ii y)) (zn (yak rfl (am2 rfl rfl) yh0 ((ygj h (yaF _) (hS.rdo 3 rfl)).mono ?_)))))))); rintro _ w6 ⟨r4, r5, r6, Ar2, lr2, cr2, rfl, hC, h⟩; replace hS := hS.call1 (hC.widen (ybv (yat (fP (fI .i64) (fP (fI .i64) (fI .i64))) _ _ _ _ _) ybE) hS.blt) 5 0 rfl; clear hC; refine ⟨_, rfl, ?_⟩; refine zb (zq (zm (.tuple #[(.agg #[(ii r4), (.slice Ar2 lr2 cr2)]), (ii r6)])) (zq (zx (.agg #[(ii r4), (.slice Ar2 lr2 cr2)])) (zq (zx (ii r6)) (zo (yaJ (b := g2) (o := 0) (cells := #[(ii r4), (.slice Ar2 lr2 cr2)]) rfl rfl yan rfl rfl (yaC (hS.bx 4 rfl) (Nat.le_of_ble_eq_true rfl)) ?_))))); intro w7 e1; replace hS := hS.bstn 4 rfl 0 [(ii r4), (.slice Ar2 lr2 cr2)] e1; clear e1; refine zb (zq (za (ii r6)) (yaa (zs (zq (yaz (vs := [(ii r4), (.slice Ar2 lr2 cr2)]) rfl underlying24 rfl yan ⟨Row.cell (hS.bx 4 rfl) (i := 0) rfl, Row.cell (hS.bx 4 rfl) (i := 1) rfl, trivial⟩) (zq (zm (ii r6)) (zq zE (zo (yaJ (b := g) (o := 0) (cells := #[(ii r4), (.slice Ar2 lr2 cr2)]) rfl rfl yan rfl rfl (yaC (hS.bx 2 rfl) (Nat.le_of_ble_eq_true rfl)) ?_)))))))); intro w8 e1; replace hS := hS.bstn 2 rfl 0 [(ii r4), (.slice Ar2 lr2 cr2)] e1; clear e1; exact zb (zq (za (.bool (decide (r6 = 0)))) (yaa (ych rfl (rv_n (vs := [(ii r4), (.slice Ar2 lr2 cr2)]) rfl underlying24 rfl yan ⟨Row.cell (hS.bx 2 rfl) (i := 0) rfl, Row.cell (hS.bx 2 rfl) (i := 1) rfl, trivial⟩) (rv_t rfl) ⟨_, _, _, _, _, _, rfl, (hS.sel [5] (by decide)), h⟩)))
  · replace h := h.2 hp; refine zf hp (zs (zq (yaz (vs := [(ii r), (.slice Ar lr cr)]) rfl underlying24 rfl yan ⟨Row.cell (hS.bx 4 rfl) (i := 0) rfl, Row.cell (hS.bx 4 rfl) (i := 1) rfl, trivial⟩) (zo (yaJ (b := g) (o := 0) (cells := #[(ii r), (.slice Ar lr cr)]) rfl rfl yan rfl rfl (yaC (hS.bx 2 rfl) (Nat.le_of_ble_eq_true rfl)) ?_)))); intro w9 e1; replace hS := hS.bstn 2 rfl 0 [(ii r), (.slice Ar lr cr)] e1; clear e1; exact zb (zq (za (.bool (false))) (yaa (ych rfl (rv_n (vs := [(ii r), (.slice Ar lr cr)]) rfl underlying24 rfl yan ⟨Row.cell (hS.bx 2 rfl) (i := 0) rfl, Row.cell (hS.bx 2 rfl) (i := 1) rfl, trivial⟩) (rv_t rfl) ⟨_, _, _, _, _, _, rfl, (hS.sel [3] (by decide)), h⟩)))
def yhF (cap : Int) (cap2 : List E3) (cap3 : Int) (cap4 : List Int) (cap5 : Int) (R : Int → (List E3) → Bool → Prop) : Prop :=
((0 ≤ cap5 ∧ cap5 < ((cap4.length : Nat) : Int)) ∧
yhC cap3 (gi cap4 cap5.toNat) cap cap2 (fun r r2 r3 =>
R r r2 r3))
theorem yhW {O : Nat → Prop} {w : World} {cap cap2 cap3 cap4 cap5 gc gc2 Acap lcap ccap gc3 gc4 Acap2 lcap2 ccap2 gc5} {R : Int → (List E3) → Bool → Prop} (h : yhF cap cap2 cap3 cap4 cap5 R) (hO : ∀ k, O k → k < w.heap.size) (hA0 : (FP.bx 65 gc [(Value.func (Fn.func 43) #[] #[(Value.pointer (some (⟨gc2, 0, none⟩ : Addr)))])]).P O w) (hA1 : (FP.bx 24 gc2 [(Value.int .i64 cap), (Value.slice Acap lcap ccap)]).P O w) (hA2 : (FP.sl c3 Acap lcap ccap cap2).P O w) (hA3 : (FP.bx 3 gc3 [(Value.int .i64 cap3)]).P O w) (hA4 : (FP.bx 27 gc4 [(Value.slice Acap2 lcap2 ccap2)]).P O w) (hA5 : (FP.sl cI Acap2 lcap2 ccap2 cap4).P O w) (hA6 : (FP.bx 3 gc5 [(Value.int .i64 cap5)]).P O w) :
    Calls Try.prog 44 #[(.pointer (some (⟨gc, 0, none⟩ : Addr))), (.pointer (some (⟨gc3, 0, none⟩ : Addr))), (.pointer (some (⟨gc4, 0, none⟩ : Addr))), (.pointer (some (⟨gc5, 0, none⟩ : Addr)))] w fun e w' => ∃ r4 r5 r6 Ar2 lr2 cr2, e = .returned (.tuple #[(.agg #[(ii r4), (.slice Ar2 lr2 cr2)]), (.bool (r6))]) ∧ Sep w no O w' (rl [Res.own c3 75 Ar2 lr2 cr2 r5]) ∧ R r4 r5 r6 := by
  unfold yhF at h; have hS : Sep w no O w (rl [Res.ro (FP.bx 65 gc [(.func (Fn.func 43) #[] #[(.pointer (some (⟨gc2, 0, none⟩ : Addr)))])]), Res.ro (FP.bx 24 gc2 [(ii cap), (.slice Acap lcap ccap)]), Res.ro (FP.sl c3 Acap lcap ccap cap2), Res.ro (FP.bx 3 gc3 [(ii cap3)]), Res.ro (FP.bx 27 gc4 [(.slice Acap2 lcap2 ccap2)]), Res.ro (FP.sl cI Acap2 lcap2 ccap2 cap4), Res.ro (FP.bx 3 gc5 [(ii cap5)])]) := Sep.startl hO [(FP.bx 65 gc [(.func (Fn.func 43) #[] #[(.pointer (some (⟨gc2, 0, none⟩ : Addr)))])]), (FP.bx 24 gc2 [(ii cap), (.slice Acap lcap ccap)]), (FP.sl c3 Acap lcap ccap cap2), (FP.bx 3 gc3 [(ii cap3)]), (FP.bx 27 gc4 [(.slice Acap2 lcap2 ccap2)]), (FP.sl cI Acap2 lcap2 ccap2 cap4), (FP.bx 3 gc5 [(ii cap5)])] ⟨hA0, hA1, hA2, hA3, hA4, hA5, hA6, trivial⟩; refine yaq (l := [(.pointer (some (⟨gc, 0, none⟩ : Addr))), (.pointer (some (⟨gc3, 0, none⟩ : Addr))), (.pointer (some (⟨gc4, 0, none⟩ : Addr))), (.pointer (some (⟨gc5, 0, none⟩ : Addr)))]) func44 rfl ntmps44 (Nat.le_of_ble_eq_true rfl) (zs (zn (ybg yan ?_))); intro g w2 hN; replace hS : Sep w no O w2 (stl _ 7 (Res.box 24 g [(ii 0), (.slice none 0 0)])) := hS.new 7 rfl hN; clear hN; refine zb (zq (za (.bool (false))) (yaa (yaf (ybH [0, 1, 2, 3, 4, 5, 6, 7, 8, 9, 10] st0 yar (by kernel_rfl) (by kernel_rfl) ?_)))); replace hS := hS.drew; refine zp (zl underlying65 (Row.cell (hS.bxr 0 rfl) (i := 0) rfl)) (zp (zl underlying3 (Row.cell (hS.bxr 3 rfl) (i := 0) rfl)) (zp (zl underlying27 (Row.cell (hS.bxr 4 rfl) (i := 0) rfl)) (zp (zl underlying3 (Row.cell (hS.bxr 6 rfl) (i := 0) rfl)) ?_))); obtain ⟨hx, h⟩ := h; refine zp (zi underlying27 yag (yaN (hS.rdr 5 rfl) hx)) (zp (yaK (v := (ii (gi cap4 cap5.toNat))) rfl underlying3 rfl (rd_1 (hS.rdr 5 rfl) hx (fun q => yby q) rfl)) ?_); refine rp_n rfl rfl rfl rfl (ycS (vs := #[(.func (Fn.func 20) #[] #[]), (ii cap3), (.func (Fn.func 20) #[] #[]), (ii (gi cap4 cap5.toNat))]) (us := #[(.pointer (some (⟨gc2, 0, none⟩ : Addr)))]) rfl (am4 rfl rfl rfl rfl) yh2 ((yaT (by simp) (yhN h (yaF _) (FP.sub _ (hS.ro 1 rfl) (fun _ _ h => h.elim) : FP.P _ no _) (FP.sub _ (hS.ro 2 rfl) (fun _ _ h => h.elim) : FP.P _ no _))).mono ?_)); rintro _ w3 ⟨r, r2, r3, Ar, lr, cr, rfl, hC, h⟩; replace hS := hS.call1 (hC.widen (ybv (yat (fP (fI .i64) (fP (fI .i64) (fI .i64))) _ _ _ _ _) ybE) hS.blt) 8 0 rfl; clear hC; refine ⟨_, rfl, ?_⟩; refine zb (zp (zx (.agg #[(ii r), (.slice Ar lr cr)])) (zp (zx (.bool (r3))) (ygr rfl rfl rfl (yaJ (b := g) (o := 0) (cells := #[(ii r), (.slice Ar lr cr)]) rfl rfl yan rfl rfl (yaC (hS.bx 7 rfl) (Nat.le_of_ble_eq_true rfl)) ?_)))); intro w4 e1; replace hS := hS.bstn 7 rfl 0 [(ii r), (.slice Ar lr cr)] e1; clear e1; exact zb (zp (za (.bool (r3))) (ybk (ych rfl (rv_n (vs := [(ii r), (.slice Ar lr cr)]) rfl underlying24 rfl yan ⟨Row.cell (hS.bx 7 rfl) (i := 0) rfl, Row.cell (hS.bx 7 rfl) (i := 1) rfl, trivial⟩) (rv_t rfl) ⟨_, _, _, _, _, _, rfl, (hS.sel [8] (by decide)), h⟩)))
def yhK (cap : Int) (cap2 : List E3) (cap3 : Int) (cap4 : List Int) (cap5 : Int) (R : Int → (List E3) → Bool → Prop) : Prop :=
((0 ≤ cap5 ∧ cap5 < ((cap4.length : Nat) : Int)) ∧
yhC cap3 (gi cap4 cap5.toNat) cap cap2 (fun r r2 r3 =>
R r r2 r3))
theorem yhV {O : Nat → Prop} {w : World} {cap cap2 cap3 cap4 cap5 gc gc2 Acap lcap ccap gc3 gc4 Acap2 lcap2 ccap2 gc5} {R : Int → (List E3) → Bool → Prop} (h : yhK cap cap2 cap3 cap4 cap5 R) (hO : ∀ k, O k → k < w.heap.size) (hA0 : (FP.bx 65 gc [(Value.func (Fn.func 43) #[] #[(Value.pointer (some (⟨gc2, 0, none⟩ : Addr)))])]).P O w) (hA1 : (FP.bx 24 gc2 [(Value.int .i64 cap), (Value.slice Acap lcap ccap)]).P O w) (hA2 : (FP.sl c3 Acap lcap ccap cap2).P O w) (hA3 : (FP.bx 3 gc3 [(Value.int .i64 cap3)]).P O w) (hA4 : (FP.bx 27 gc4 [(Value.slice Acap2 lcap2 ccap2)]).P O w) (hA5 : (FP.sl cI Acap2 lcap2 ccap2 cap4).P O w) (hA6 : (FP.bx 3 gc5 [(Value.int .i64 cap5)]).P O w) :
    Calls Try.prog 45 #[(.pointer (some (⟨gc, 0, none⟩ : Addr))), (.pointer (some (⟨gc3, 0, none⟩ : Addr))), (.pointer (some (⟨gc4, 0, none⟩ : Addr))), (.pointer (some (⟨gc5, 0, none⟩ : Addr)))] w fun e w' => ∃ r4 r5 r6 Ar2 lr2 cr2, e = .returned (.tuple #[(.agg #[(ii r4), (.slice Ar2 lr2 cr2)]), (.bool (r6))]) ∧ Sep w no O w' (rl [Res.own c3 75 Ar2 lr2 cr2 r5]) ∧ R r4 r5 r6 := by
  unfold yhK at h; have hS : Sep w no O w (rl [Res.ro (FP.bx 65 gc [(.func (Fn.func 43) #[] #[(.pointer (some (⟨gc2, 0, none⟩ : Addr)))])]), Res.ro (FP.bx 24 gc2 [(ii cap), (.slice Acap lcap ccap)]), Res.ro (FP.sl c3 Acap lcap ccap cap2), Res.ro (FP.bx 3 gc3 [(ii cap3)]), Res.ro (FP.bx 27 gc4 [(.slice Acap2 lcap2 ccap2)]), Res.ro (FP.sl cI Acap2 lcap2 ccap2 cap4), Res.ro (FP.bx 3 gc5 [(ii cap5)])]) := Sep.startl hO [(FP.bx 65 gc [(.func (Fn.func 43) #[] #[(.pointer (some (⟨gc2, 0, none⟩ : Addr)))])]), (FP.bx 24 gc2 [(ii cap), (.slice Acap lcap ccap)]), (FP.sl c3 Acap lcap ccap cap2), (FP.bx 3 gc3 [(ii cap3)]), (FP.bx 27 gc4 [(.slice Acap2 lcap2 ccap2)]), (FP.sl cI Acap2 lcap2 ccap2 cap4), (FP.bx 3 gc5 [(ii cap5)])] ⟨hA0, hA1, hA2, hA3, hA4, hA5, hA6, trivial⟩; refine yaq (l := [(.pointer (some (⟨gc, 0, none⟩ : Addr))), (.pointer (some (⟨gc3, 0, none⟩ : Addr))), (.pointer (some (⟨gc4, 0, none⟩ : Addr))), (.pointer (some (⟨gc5, 0, none⟩ : Addr)))]) func45 rfl ntmps45 (Nat.le_of_ble_eq_true rfl) (zs (zn (ybg yan ?_))); intro g w2 hN; replace hS : Sep w no O w2 (stl _ 7 (Res.box 24 g [(ii 0), (.slice none 0 0)])) := hS.new 7 rfl hN; clear hN; refine zb (zq (za (.bool (false))) (yaa (yaf (ybH [0, 1, 2, 3, 4, 5, 6, 7, 8, 9, 10] st0 yar (by kernel_rfl) (by kernel_rfl) ?_)))); replace hS := hS.drew; refine zp (zl underlying65 (Row.cell (hS.bxr 0 rfl) (i := 0) rfl)) (zp (zl underlying3 (Row.cell (hS.bxr 3 rfl) (i := 0) rfl)) (zp (zl underlying27 (Row.cell (hS.bxr 4 rfl) (i := 0) rfl)) (zp (zl underlying3 (Row.cell (hS.bxr 6 rfl) (i := 0) rfl)) ?_))); obtain ⟨hx, h⟩ := h; refine zp (zi underlying27 yag (yaN (hS.rdr 5 rfl) hx)) (zp (yaK (v := (ii (gi cap4 cap5.toNat))) rfl underlying3 rfl (rd_1 (hS.rdr 5 rfl) hx (fun q => yby q) rfl)) ?_); refine rp_n rfl rfl rfl rfl (ycS (vs := #[(.func (Fn.func 20) #[] #[]), (ii cap3), (.func (Fn.func 20) #[] #[]), (ii (gi cap4 cap5.toNat))]) (us := #[(.pointer (some (⟨gc2, 0, none⟩ : Addr)))]) rfl (am4 rfl rfl rfl rfl) yh2 ((yaT (by simp) (yhN h (yaF _) (FP.sub _ (hS.ro 1 rfl) (fun _ _ h => h.elim) : FP.P _ no _) (FP.sub _ (hS.ro 2 rfl) (fun _ _ h => h.elim) : FP.P _ no _))).mono ?_)); rintro _ w3 ⟨r, r2, r3, Ar, lr, cr, rfl, hC, h⟩; replace hS := hS.call1 (hC.widen (ybv (yat (fP (fI .i64) (fP (fI .i64) (fI .i64))) _ _ _ _ _) ybE) hS.blt) 8 0 rfl; clear hC; refine ⟨_, rfl, ?_⟩; refine zb (zp (zx (.agg #[(ii r), (.slice Ar lr cr)])) (zp (zx (.bool (r3))) (ygr rfl rfl rfl (yaJ (b := g) (o := 0) (cells := #[(ii r), (.slice Ar lr cr)]) rfl rfl yan rfl rfl (yaC (hS.bx 7 rfl) (Nat.le_of_ble_eq_true rfl)) ?_)))); intro w4 e1; replace hS := hS.bstn 7 rfl 0 [(ii r), (.slice Ar lr cr)] e1; clear e1; exact zb (zp (za (.bool (r3))) (ybk (ych rfl (rv_n (vs := [(ii r), (.slice Ar lr cr)]) rfl underlying24 rfl yan ⟨Row.cell (hS.bx 7 rfl) (i := 0) rfl, Row.cell (hS.bx 7 rfl) (i := 1) rfl, trivial⟩) (rv_t rfl) ⟨_, _, _, _, _, _, rfl, (hS.sel [8] (by decide)), h⟩)))
def yhB (x : Int) (y : Int) (cap : Int) (cap2 : List E3) (R : Int → (List E3) → Bool → Prop) : Prop :=
ya0 cap cap2 x (fun r r2 r3 =>
((r3 = 0 →
ya0 r r2 y (fun r4 r5 r6 =>
R r4 r5 (decide (r6 = 0)))) ∧
(¬ (r3 = 0) →
R r r2 false)))
theorem yhL {O : Nat → Prop} {w : World} {x y cap cap2 gc Acap lcap ccap} {R : Int → (List E3) → Bool → Prop} (h : yhB x y cap cap2 R) (hO : ∀ k, O k → k < w.heap.size) (hA0 : (FP.bx 24 gc [(Value.int .i64 cap), (Value.slice Acap lcap ccap)]).P O w) (hA1 : (FP.sl c3 Acap lcap ccap cap2).P O w) :
    Calls Try.prog 43 #[(.func (Fn.func 21) #[] #[]), (ii x), (.func (Fn.func 21) #[] #[]), (ii y), (.pointer (some (⟨gc, 0, none⟩ : Addr)))] w fun e w' => ∃ r7 r8 r9 Ar3 lr3 cr3, e = .returned (.tuple #[(.agg #[(ii r7), (.slice Ar3 lr3 cr3)]), (.bool (r9))]) ∧ Sep w no O w' (rl [Res.own c3 75 Ar3 lr3 cr3 r8]) ∧ R r7 r8 r9 := by
  unfold yhB at h; have hS : Sep w no O w (rl [Res.ro (FP.bx 24 gc [(ii cap), (.slice Acap lcap ccap)]), Res.ro (FP.sl c3 Acap lcap ccap cap2)]) := Sep.startl hO [(FP.bx 24 gc [(ii cap), (.slice Acap lcap ccap)]), (FP.sl c3 Acap lcap ccap cap2)] ⟨hA0, hA1, trivial⟩; refine yaq (l := [(.func (Fn.func 21) #[] #[]), (ii x), (.func (Fn.func 21) #[] #[]), (ii y), (.pointer (some (⟨gc, 0, none⟩ : Addr)))]) func43 rfl ntmps43 (Nat.le_of_ble_eq_true rfl) (zs (zn (ybg yan ?_))); intro g w2 hN; replace hS : Sep w no O w2 (stl _ 2 (Res.box 24 g [(ii 0), (.slice none 0 0)])) := hS.new 2 rfl hN; clear hN; refine zb (zq (za (.bool (false))) (yaa (zs (zq (zm (.func (Fn.func 21) #[] #[])) (zq (yaz (vs := [(ii cap), (.slice Acap lcap ccap)]) rfl underlying24 rfl yan ⟨Row.cell (hS.bxr 0 rfl) (i := 0) rfl, Row.cell (hS.bxr 0 rfl) (i := 1) rfl, trivial⟩) (zq (zm (ii x)) (zn (yak rfl (am2 rfl rfl) yhR ((ycr h (yaF _) (hS.rdr 1 rfl)).mono ?_))))))))); rintro _ w3 ⟨r, r2, r3, Ar, lr, cr, rfl, hC, h⟩; replace hS := hS.call1 (hC.widen (ybv (yat (fP (fI .i64) (fP (fI .i64) (fI .i64))) _ _ _ _ _) ybE) hS.blt) 3 0 rfl; clear hC; refine ⟨_, rfl, ?_⟩; refine zb (zq (zm (.tuple #[(.agg #[(ii r), (.slice Ar lr cr)]), (ii r3)])) (zq (zx (.agg #[(ii r), (.slice Ar lr cr)])) (zq (zx (ii r3)) (zn (ybg yan ?_))))); intro g2 w4 hN; replace hS : Sep w no O w4 (stl _ 4 (Res.box 24 g2 [(ii 0), (.slice none 0 0)])) := hS.new 4 rfl hN; clear hN; refine zb (zo (yaJ (b := g2) (o := 0) (cells := #[(ii r), (.slice Ar lr cr)]) rfl rfl yan rfl rfl (yaC (hS.bx 4 rfl) (Nat.le_of_ble_eq_true rfl)) ?_)); intro w5 e1; replace hS := hS.bstn 4 rfl 0 [(ii r), (.slice Ar lr cr)] e1; clear e1; refine zb (zq (za (ii r3)) (yaa (yaf (zs (zq (zm (ii r3)) (zq zN (yaa ?_))))))); by_cases hp : r3 = 0
  · replace h := h.1 hp; refine ze hp (yah (zs (zq (zm (.func (Fn.func 21) #[] #[])) (zq (yaz (vs := [(ii r), (.slice Ar lr cr)]) rfl underlying24 rfl yan ⟨Row.cell (hS.bx 4 rfl) (i := 0) rfl, Row.cell (hS.bx 4 rfl) (i := 1) rfl, trivial⟩) (zq (zm (ii y)) (zn (yak rfl (am2 rfl rfl) yhR ((ycr h (yaF _) (hS.rdo 3 rfl)).mono ?_)))))))); rintro _ w6 ⟨r4, r5, r6, Ar2, lr2, cr2, rfl, hC, h⟩; replace hS := hS.call1 (hC.widen (ybv (yat (fP (fI .i64) (fP (fI .i64) (fI .i64))) _ _ _ _ _) ybE) hS.blt) 5 0 rfl; clear hC; refine ⟨_, rfl, ?_⟩; refine zb (zq (zm (.tuple #[(.agg #[(ii r4), (.slice Ar2 lr2 cr2)]), (ii r6)])) (zq (zx (.agg #[(ii r4), (.slice Ar2 lr2 cr2)])) (zq (zx (ii r6)) (zo (yaJ (b := g2) (o := 0) (cells := #[(ii r4), (.slice Ar2 lr2 cr2)]) rfl rfl yan rfl rfl (yaC (hS.bx 4 rfl) (Nat.le_of_ble_eq_true rfl)) ?_))))); intro w7 e1; replace hS := hS.bstn 4 rfl 0 [(ii r4), (.slice Ar2 lr2 cr2)] e1; clear e1; refine zb (zq (za (ii r6)) (yaa (zs (zq (yaz (vs := [(ii r4), (.slice Ar2 lr2 cr2)]) rfl underlying24 rfl yan ⟨Row.cell (hS.bx 4 rfl) (i := 0) rfl, Row.cell (hS.bx 4 rfl) (i := 1) rfl, trivial⟩) (zq (zm (ii r6)) (zq zE (zo (yaJ (b := g) (o := 0) (cells := #[(ii r4), (.slice Ar2 lr2 cr2)]) rfl rfl yan rfl rfl (yaC (hS.bx 2 rfl) (Nat.le_of_ble_eq_true rfl)) ?_)))))))); intro w8 e1; replace hS := hS.bstn 2 rfl 0 [(ii r4), (.slice Ar2 lr2 cr2)] e1; clear e1; exact zb (zq (za (.bool (decide (r6 = 0)))) (yaa (ych rfl (rv_n (vs := [(ii r4), (.slice Ar2 lr2 cr2)]) rfl underlying24 rfl yan ⟨Row.cell (hS.bx 2 rfl) (i := 0) rfl, Row.cell (hS.bx 2 rfl) (i := 1) rfl, trivial⟩) (rv_t rfl) ⟨_, _, _, _, _, _, rfl, (hS.sel [5] (by decide)), h⟩)))
  · replace h := h.2 hp; refine zf hp (zs (zq (yaz (vs := [(ii r), (.slice Ar lr cr)]) rfl underlying24 rfl yan ⟨Row.cell (hS.bx 4 rfl) (i := 0) rfl, Row.cell (hS.bx 4 rfl) (i := 1) rfl, trivial⟩) (zo (yaJ (b := g) (o := 0) (cells := #[(ii r), (.slice Ar lr cr)]) rfl rfl yan rfl rfl (yaC (hS.bx 2 rfl) (Nat.le_of_ble_eq_true rfl)) ?_)))); intro w9 e1; replace hS := hS.bstn 2 rfl 0 [(ii r), (.slice Ar lr cr)] e1; clear e1; exact zb (zq (za (.bool (false))) (yaa (ych rfl (rv_n (vs := [(ii r), (.slice Ar lr cr)]) rfl underlying24 rfl yan ⟨Row.cell (hS.bx 2 rfl) (i := 0) rfl, Row.cell (hS.bx 2 rfl) (i := 1) rfl, trivial⟩) (rv_t rfl) ⟨_, _, _, _, _, _, rfl, (hS.sel [3] (by decide)), h⟩)))
def yhG (cap : Int) (cap2 : List E3) (cap3 : Int) (cap4 : List Int) (cap5 : Int) (R : Int → (List E3) → Bool → Prop) : Prop :=
((0 ≤ cap5 ∧ cap5 < ((cap4.length : Nat) : Int)) ∧
yhB cap3 (gi cap4 cap5.toNat) cap cap2 (fun r r2 r3 =>
R r r2 r3))
theorem yhY {O : Nat → Prop} {w : World} {cap cap2 cap3 cap4 cap5 gc gc2 Acap lcap ccap gc3 gc4 Acap2 lcap2 ccap2 gc5} {R : Int → (List E3) → Bool → Prop} (h : yhG cap cap2 cap3 cap4 cap5 R) (hO : ∀ k, O k → k < w.heap.size) (hA0 : (FP.bx 65 gc [(Value.func (Fn.func 43) #[] #[(Value.pointer (some (⟨gc2, 0, none⟩ : Addr)))])]).P O w) (hA1 : (FP.bx 24 gc2 [(Value.int .i64 cap), (Value.slice Acap lcap ccap)]).P O w) (hA2 : (FP.sl c3 Acap lcap ccap cap2).P O w) (hA3 : (FP.bx 3 gc3 [(Value.int .i64 cap3)]).P O w) (hA4 : (FP.bx 27 gc4 [(Value.slice Acap2 lcap2 ccap2)]).P O w) (hA5 : (FP.sl cI Acap2 lcap2 ccap2 cap4).P O w) (hA6 : (FP.bx 3 gc5 [(Value.int .i64 cap5)]).P O w) :
    Calls Try.prog 46 #[(.pointer (some (⟨gc, 0, none⟩ : Addr))), (.pointer (some (⟨gc3, 0, none⟩ : Addr))), (.pointer (some (⟨gc4, 0, none⟩ : Addr))), (.pointer (some (⟨gc5, 0, none⟩ : Addr)))] w fun e w' => ∃ r4 r5 r6 Ar2 lr2 cr2, e = .returned (.tuple #[(.agg #[(ii r4), (.slice Ar2 lr2 cr2)]), (.bool (r6))]) ∧ Sep w no O w' (rl [Res.own c3 75 Ar2 lr2 cr2 r5]) ∧ R r4 r5 r6 := by
  unfold yhG at h; have hS : Sep w no O w (rl [Res.ro (FP.bx 65 gc [(.func (Fn.func 43) #[] #[(.pointer (some (⟨gc2, 0, none⟩ : Addr)))])]), Res.ro (FP.bx 24 gc2 [(ii cap), (.slice Acap lcap ccap)]), Res.ro (FP.sl c3 Acap lcap ccap cap2), Res.ro (FP.bx 3 gc3 [(ii cap3)]), Res.ro (FP.bx 27 gc4 [(.slice Acap2 lcap2 ccap2)]), Res.ro (FP.sl cI Acap2 lcap2 ccap2 cap4), Res.ro (FP.bx 3 gc5 [(ii cap5)])]) := Sep.startl hO [(FP.bx 65 gc [(.func (Fn.func 43) #[] #[(.pointer (some (⟨gc2, 0, none⟩ : Addr)))])]), (FP.bx 24 gc2 [(ii cap), (.slice Acap lcap ccap)]), (FP.sl c3 Acap lcap ccap cap2), (FP.bx 3 gc3 [(ii cap3)]), (FP.bx 27 gc4 [(.slice Acap2 lcap2 ccap2)]), (FP.sl cI Acap2 lcap2 ccap2 cap4), (FP.bx 3 gc5 [(ii cap5)])] ⟨hA0, hA1, hA2, hA3, hA4, hA5, hA6, trivial⟩; refine yaq (l := [(.pointer (some (⟨gc, 0, none⟩ : Addr))), (.pointer (some (⟨gc3, 0, none⟩ : Addr))), (.pointer (some (⟨gc4, 0, none⟩ : Addr))), (.pointer (some (⟨gc5, 0, none⟩ : Addr)))]) func46 rfl ntmps46 (Nat.le_of_ble_eq_true rfl) (zs (zn (ybg yan ?_))); intro g w2 hN; replace hS : Sep w no O w2 (stl _ 7 (Res.box 24 g [(ii 0), (.slice none 0 0)])) := hS.new 7 rfl hN; clear hN; refine zb (zq (za (.bool (false))) (yaa (yaf (ybH [0, 1, 2, 3, 4, 5, 6, 7, 8, 9, 10] st0 yar (by kernel_rfl) (by kernel_rfl) ?_)))); replace hS := hS.drew; refine zp (zl underlying65 (Row.cell (hS.bxr 0 rfl) (i := 0) rfl)) (zp (zl underlying3 (Row.cell (hS.bxr 3 rfl) (i := 0) rfl)) (zp (zl underlying27 (Row.cell (hS.bxr 4 rfl) (i := 0) rfl)) (zp (zl underlying3 (Row.cell (hS.bxr 6 rfl) (i := 0) rfl)) ?_))); obtain ⟨hx, h⟩ := h; refine zp (zi underlying27 yag (yaN (hS.rdr 5 rfl) hx)) (zp (yaK (v := (ii (gi cap4 cap5.toNat))) rfl underlying3 rfl (rd_1 (hS.rdr 5 rfl) hx (fun q => yby q) rfl)) ?_); refine rp_n rfl rfl rfl rfl (ycS (vs := #[(.func (Fn.func 21) #[] #[]), (ii cap3), (.func (Fn.func 21) #[] #[]), (ii (gi cap4 cap5.toNat))]) (us := #[(.pointer (some (⟨gc2, 0, none⟩ : Addr)))]) rfl (am4 rfl rfl rfl rfl) yh2 ((yaT (by simp) (yhL h (yaF _) (FP.sub _ (hS.ro 1 rfl) (fun _ _ h => h.elim) : FP.P _ no _) (FP.sub _ (hS.ro 2 rfl) (fun _ _ h => h.elim) : FP.P _ no _))).mono ?_)); rintro _ w3 ⟨r, r2, r3, Ar, lr, cr, rfl, hC, h⟩; replace hS := hS.call1 (hC.widen (ybv (yat (fP (fI .i64) (fP (fI .i64) (fI .i64))) _ _ _ _ _) ybE) hS.blt) 8 0 rfl; clear hC; refine ⟨_, rfl, ?_⟩; refine zb (zp (zx (.agg #[(ii r), (.slice Ar lr cr)])) (zp (zx (.bool (r3))) (ygr rfl rfl rfl (yaJ (b := g) (o := 0) (cells := #[(ii r), (.slice Ar lr cr)]) rfl rfl yan rfl rfl (yaC (hS.bx 7 rfl) (Nat.le_of_ble_eq_true rfl)) ?_)))); intro w4 e1; replace hS := hS.bstn 7 rfl 0 [(ii r), (.slice Ar lr cr)] e1; clear e1; exact zb (zp (za (.bool (r3))) (ybk (ych rfl (rv_n (vs := [(ii r), (.slice Ar lr cr)]) rfl underlying24 rfl yan ⟨Row.cell (hS.bx 7 rfl) (i := 0) rfl, Row.cell (hS.bx 7 rfl) (i := 1) rfl, trivial⟩) (rv_t rfl) ⟨_, _, _, _, _, _, rfl, (hS.sel [8] (by decide)), h⟩)))
def yhJ (cap : Int) (cap2 : List E3) (cap3 : Int) (cap4 : List Int) (cap5 : Int) (R : Int → (List E3) → Bool → Prop) : Prop :=
((0 ≤ cap5 ∧ cap5 < ((cap4.length : Nat) : Int)) ∧
yhB cap3 (gi cap4 cap5.toNat) cap cap2 (fun r r2 r3 =>
R r r2 r3))
theorem yhU {O : Nat → Prop} {w : World} {cap cap2 cap3 cap4 cap5 gc gc2 Acap lcap ccap gc3 gc4 Acap2 lcap2 ccap2 gc5} {R : Int → (List E3) → Bool → Prop} (h : yhJ cap cap2 cap3 cap4 cap5 R) (hO : ∀ k, O k → k < w.heap.size) (hA0 : (FP.bx 65 gc [(Value.func (Fn.func 43) #[] #[(Value.pointer (some (⟨gc2, 0, none⟩ : Addr)))])]).P O w) (hA1 : (FP.bx 24 gc2 [(Value.int .i64 cap), (Value.slice Acap lcap ccap)]).P O w) (hA2 : (FP.sl c3 Acap lcap ccap cap2).P O w) (hA3 : (FP.bx 3 gc3 [(Value.int .i64 cap3)]).P O w) (hA4 : (FP.bx 27 gc4 [(Value.slice Acap2 lcap2 ccap2)]).P O w) (hA5 : (FP.sl cI Acap2 lcap2 ccap2 cap4).P O w) (hA6 : (FP.bx 3 gc5 [(Value.int .i64 cap5)]).P O w) :
    Calls Try.prog 47 #[(.pointer (some (⟨gc, 0, none⟩ : Addr))), (.pointer (some (⟨gc3, 0, none⟩ : Addr))), (.pointer (some (⟨gc4, 0, none⟩ : Addr))), (.pointer (some (⟨gc5, 0, none⟩ : Addr)))] w fun e w' => ∃ r4 r5 r6 Ar2 lr2 cr2, e = .returned (.tuple #[(.agg #[(ii r4), (.slice Ar2 lr2 cr2)]), (.bool (r6))]) ∧ Sep w no O w' (rl [Res.own c3 75 Ar2 lr2 cr2 r5]) ∧ R r4 r5 r6 := by
  unfold yhJ at h; have hS : Sep w no O w (rl [Res.ro (FP.bx 65 gc [(.func (Fn.func 43) #[] #[(.pointer (some (⟨gc2, 0, none⟩ : Addr)))])]), Res.ro (FP.bx 24 gc2 [(ii cap), (.slice Acap lcap ccap)]), Res.ro (FP.sl c3 Acap lcap ccap cap2), Res.ro (FP.bx 3 gc3 [(ii cap3)]), Res.ro (FP.bx 27 gc4 [(.slice Acap2 lcap2 ccap2)]), Res.ro (FP.sl cI Acap2 lcap2 ccap2 cap4), Res.ro (FP.bx 3 gc5 [(ii cap5)])]) := Sep.startl hO [(FP.bx 65 gc [(.func (Fn.func 43) #[] #[(.pointer (some (⟨gc2, 0, none⟩ : Addr)))])]), (FP.bx 24 gc2 [(ii cap), (.slice Acap lcap ccap)]), (FP.sl c3 Acap lcap ccap cap2), (FP.bx 3 gc3 [(ii cap3)]), (FP.bx 27 gc4 [(.slice Acap2 lcap2 ccap2)]), (FP.sl cI Acap2 lcap2 ccap2 cap4), (FP.bx 3 gc5 [(ii cap5)])] ⟨hA0, hA1, hA2, hA3, hA4, hA5, hA6, trivial⟩; refine yaq (l := [(.pointer (some (⟨gc, 0, none⟩ : Addr))), (.pointer (some (⟨gc3, 0, none⟩ : Addr))), (.pointer (some (⟨gc4, 0, none⟩ : Addr))), (.pointer (some (⟨gc5, 0, none⟩ : Addr)))]) func47 rfl ntmps47 (Nat.le_of_ble_eq_true rfl) (zs (zn (ybg yan ?_))); intro g w2 hN; replace hS : Sep w no O w2 (stl _ 7 (Res.box 24 g [(ii 0), (.slice none 0 0)])) := hS.new 7 rfl hN; clear hN; refine zb (zq (za (.bool (false))) (yaa (yaf (ybH [0, 1, 2, 3, 4, 5, 6, 7, 8, 9, 10] st0 yar (by kernel_rfl) (by kernel_rfl) ?_)))); replace hS := hS.drew; refine zp (zl underlying65 (Row.cell (hS.bxr 0 rfl) (i := 0) rfl)) (zp (zl underlying3 (Row.cell (hS.bxr 3 rfl) (i := 0) rfl)) (zp (zl underlying27 (Row.cell (hS.bxr 4 rfl) (i := 0) rfl)) (zp (zl underlying3 (Row.cell (hS.bxr 6 rfl) (i := 0) rfl)) ?_))); obtain ⟨hx, h⟩ := h; refine zp (zi underlying27 yag (yaN (hS.rdr 5 rfl) hx)) (zp (yaK (v := (ii (gi cap4 cap5.toNat))) rfl underlying3 rfl (rd_1 (hS.rdr 5 rfl) hx (fun q => yby q) rfl)) ?_); refine rp_n rfl rfl rfl rfl (ycS (vs := #[(.func (Fn.func 21) #[] #[]), (ii cap3), (.func (Fn.func 21) #[] #[]), (ii (gi cap4 cap5.toNat))]) (us := #[(.pointer (some (⟨gc2, 0, none⟩ : Addr)))]) rfl (am4 rfl rfl rfl rfl) yh2 ((yaT (by simp) (yhL h (yaF _) (FP.sub _ (hS.ro 1 rfl) (fun _ _ h => h.elim) : FP.P _ no _) (FP.sub _ (hS.ro 2 rfl) (fun _ _ h => h.elim) : FP.P _ no _))).mono ?_)); rintro _ w3 ⟨r, r2, r3, Ar, lr, cr, rfl, hC, h⟩; replace hS := hS.call1 (hC.widen (ybv (yat (fP (fI .i64) (fP (fI .i64) (fI .i64))) _ _ _ _ _) ybE) hS.blt) 8 0 rfl; clear hC; refine ⟨_, rfl, ?_⟩; refine zb (zp (zx (.agg #[(ii r), (.slice Ar lr cr)])) (zp (zx (.bool (r3))) (ygr rfl rfl rfl (yaJ (b := g) (o := 0) (cells := #[(ii r), (.slice Ar lr cr)]) rfl rfl yan rfl rfl (yaC (hS.bx 7 rfl) (Nat.le_of_ble_eq_true rfl)) ?_)))); intro w4 e1; replace hS := hS.bstn 7 rfl 0 [(ii r), (.slice Ar lr cr)] e1; clear e1; exact zb (zp (za (.bool (r3))) (ybk (ych rfl (rv_n (vs := [(ii r), (.slice Ar lr cr)]) rfl underlying24 rfl yan ⟨Row.cell (hS.bx 7 rfl) (i := 0) rfl, Row.cell (hS.bx 7 rfl) (i := 1) rfl, trivial⟩) (rv_t rfl) ⟨_, _, _, _, _, _, rfl, (hS.sel [8] (by decide)), h⟩)))
def yhI (x : Int) (y : Int) (cap : Int) (cap2 : List E3) (R : Int → (List E3) → Bool → Prop) : Prop :=
yfY cap cap2 x (fun r r2 r3 =>
((r3 = 0 →
ya0 r r2 y (fun r4 r5 r6 =>
R r4 r5 (decide (r6 = 0)))) ∧
(¬ (r3 = 0) →
R r r2 false)))
theorem yhQ {O : Nat → Prop} {w : World} {x y cap cap2 gc Acap lcap ccap} {R : Int → (List E3) → Bool → Prop} (h : yhI x y cap cap2 R) (hO : ∀ k, O k → k < w.heap.size) (hA0 : (FP.bx 24 gc [(Value.int .i64 cap), (Value.slice Acap lcap ccap)]).P O w) (hA1 : (FP.sl c3 Acap lcap ccap cap2).P O w) :
    Calls Try.prog 43 #[(.func (Fn.func 20) #[] #[]), (ii x), (.func (Fn.func 21) #[] #[]), (ii y), (.pointer (some (⟨gc, 0, none⟩ : Addr)))] w fun e w' => ∃ r7 r8 r9 Ar3 lr3 cr3, e = .returned (.tuple #[(.agg #[(ii r7), (.slice Ar3 lr3 cr3)]), (.bool (r9))]) ∧ Sep w no O w' (rl [Res.own c3 75 Ar3 lr3 cr3 r8]) ∧ R r7 r8 r9 := by
  unfold yhI at h; have hS : Sep w no O w (rl [Res.ro (FP.bx 24 gc [(ii cap), (.slice Acap lcap ccap)]), Res.ro (FP.sl c3 Acap lcap ccap cap2)]) := Sep.startl hO [(FP.bx 24 gc [(ii cap), (.slice Acap lcap ccap)]), (FP.sl c3 Acap lcap ccap cap2)] ⟨hA0, hA1, trivial⟩; refine yaq (l := [(.func (Fn.func 20) #[] #[]), (ii x), (.func (Fn.func 21) #[] #[]), (ii y), (.pointer (some (⟨gc, 0, none⟩ : Addr)))]) func43 rfl ntmps43 (Nat.le_of_ble_eq_true rfl) (zs (zn (ybg yan ?_))); intro g w2 hN; replace hS : Sep w no O w2 (stl _ 2 (Res.box 24 g [(ii 0), (.slice none 0 0)])) := hS.new 2 rfl hN; clear hN; refine zb (zq (za (.bool (false))) (yaa (zs (zq (zm (.func (Fn.func 20) #[] #[])) (zq (yaz (vs := [(ii cap), (.slice Acap lcap ccap)]) rfl underlying24 rfl yan ⟨Row.cell (hS.bxr 0 rfl) (i := 0) rfl, Row.cell (hS.bxr 0 rfl) (i := 1) rfl, trivial⟩) (zq (zm (ii x)) (zn (yak rfl (am2 rfl rfl) yh0 ((ygj h (yaF _) (hS.rdr 1 rfl)).mono ?_))))))))); rintro _ w3 ⟨r, r2, r3, Ar, lr, cr, rfl, hC, h⟩; replace hS := hS.call1 (hC.widen (ybv (yat (fP (fI .i64) (fP (fI .i64) (fI .i64))) _ _ _ _ _) ybE) hS.blt) 3 0 rfl; clear hC; refine ⟨_, rfl, ?_⟩; refine zb (zq (zm (.tuple #[(.agg #[(ii r), (.slice Ar lr cr)]), (ii r3)])) (zq (zx (.agg #[(ii r), (.slice Ar lr cr)])) (zq (zx (ii r3)) (zn (ybg yan ?_))))); intro g2 w4 hN; replace hS : Sep w no O w4 (stl _ 4 (Res.box 24 g2 [(ii 0), (.slice none 0 0)])) := hS.new 4 rfl hN; clear hN; refine zb (zo (yaJ (b := g2) (o := 0) (cells := #[(ii r), (.slice Ar lr cr)]) rfl rfl yan rfl rfl (yaC (hS.bx 4 rfl) (Nat.le_of_ble_eq_true rfl)) ?_)); intro w5 e1; replace hS := hS.bstn 4 rfl 0 [(ii r), (.slice Ar lr cr)] e1; clear e1; refine zb (zq (za (ii r3)) (yaa (yaf (zs (zq (zm (ii r3)) (zq zN (yaa ?_))))))); by_cases hp : r3 = 0
  · replace h := h.1 hp; refine ze hp (yah (zs (zq (zm (.func (Fn.func 21) #[] #[])) (zq (yaz (vs := [(ii r), (.slice Ar lr cr)]) rfl underlying24 rfl yan ⟨Row.cell (hS.bx 4 rfl) (i := 0) rfl, Row.cell (hS.bx 4 rfl) (i := 1) rfl, trivial⟩) (zq (zm (ii y)) (zn (yak rfl (am2 rfl rfl) yhR ((ycr h (yaF _) (hS.rdo 3 rfl)).mono ?_)))))))); rintro _ w6 ⟨r4, r5, r6, Ar2, lr2, cr2, rfl, hC, h⟩; replace hS := hS.call1 (hC.widen (ybv (yat (fP (fI .i64) (fP (fI .i64) (fI .i64))) _ _ _ _ _) ybE) hS.blt) 5 0 rfl; clear hC; refine ⟨_, rfl, ?_⟩; refine zb (zq (zm (.tuple #[(.agg #[(ii r4), (.slice Ar2 lr2 cr2)]), (ii r6)])) (zq (zx (.agg #[(ii r4), (.slice Ar2 lr2 cr2)])) (zq (zx (ii r6)) (zo (yaJ (b := g2) (o := 0) (cells := #[(ii r4), (.slice Ar2 lr2 cr2)]) rfl rfl yan rfl rfl (yaC (hS.bx 4 rfl) (Nat.le_of_ble_eq_true rfl)) ?_))))); intro w7 e1; replace hS := hS.bstn 4 rfl 0 [(ii r4), (.slice Ar2 lr2 cr2)] e1; clear e1; refine zb (zq (za (ii r6)) (yaa (zs (zq (yaz (vs := [(ii r4), (.slice Ar2 lr2 cr2)]) rfl underlying24 rfl yan ⟨Row.cell (hS.bx 4 rfl) (i := 0) rfl, Row.cell (hS.bx 4 rfl) (i := 1) rfl, trivial⟩) (zq (zm (ii r6)) (zq zE (zo (yaJ (b := g) (o := 0) (cells := #[(ii r4), (.slice Ar2 lr2 cr2)]) rfl rfl yan rfl rfl (yaC (hS.bx 2 rfl) (Nat.le_of_ble_eq_true rfl)) ?_)))))))); intro w8 e1; replace hS := hS.bstn 2 rfl 0 [(ii r4), (.slice Ar2 lr2 cr2)] e1; clear e1; exact zb (zq (za (.bool (decide (r6 = 0)))) (yaa (ych rfl (rv_n (vs := [(ii r4), (.slice Ar2 lr2 cr2)]) rfl underlying24 rfl yan ⟨Row.cell (hS.bx 2 rfl) (i := 0) rfl, Row.cell (hS.bx 2 rfl) (i := 1) rfl, trivial⟩) (rv_t rfl) ⟨_, _, _, _, _, _, rfl, (hS.sel [5] (by decide)), h⟩)))
  · replace h := h.2 hp; refine zf hp (zs (zq (yaz (vs := [(ii r), (.slice Ar lr cr)]) rfl underlying24 rfl yan ⟨Row.cell (hS.bx 4 rfl) (i := 0) rfl, Row.cell (hS.bx 4 rfl) (i := 1) rfl, trivial⟩) (zo (yaJ (b := g) (o := 0) (cells := #[(ii r), (.slice Ar lr cr)]) rfl rfl yan rfl rfl (yaC (hS.bx 2 rfl) (Nat.le_of_ble_eq_true rfl)) ?_)))); intro w9 e1; replace hS := hS.bstn 2 rfl 0 [(ii r), (.slice Ar lr cr)] e1; clear e1; exact zb (zq (za (.bool (false))) (yaa (ych rfl (rv_n (vs := [(ii r), (.slice Ar lr cr)]) rfl underlying24 rfl yan ⟨Row.cell (hS.bx 2 rfl) (i := 0) rfl, Row.cell (hS.bx 2 rfl) (i := 1) rfl, trivial⟩) (rv_t rfl) ⟨_, _, _, _, _, _, rfl, (hS.sel [3] (by decide)), h⟩)))
def yhD (cap : Int) (cap2 : List E3) (cap3 : Int) (cap4 : List Int) (cap5 : Int) (R : Int → (List E3) → Bool → Prop) : Prop :=
((0 ≤ cap5 ∧ cap5 < ((cap4.length : Nat) : Int)) ∧
yhI cap3 (gi cap4 cap5.toNat) cap cap2 (fun r r2 r3 =>
R r r2 r3))
theorem yhT {O : Nat → Prop} {w : World} {cap cap2 cap3 cap4 cap5 gc gc2 Acap lcap ccap gc3 gc4 Acap2 lcap2 ccap2 gc5} {R : Int → (List E3) → Bool → Prop} (h : yhD cap cap2 cap3 cap4 cap5 R) (hO : ∀ k, O k → k < w.heap.size) (hA0 : (FP.bx 65 gc [(Value.func (Fn.func 43) #[] #[(Value.pointer (some (⟨gc2, 0, none⟩ : Addr)))])]).P O w) (hA1 : (FP.bx 24 gc2 [(Value.int .i64 cap), (Value.slice Acap lcap ccap)]).P O w) (hA2 : (FP.sl c3 Acap lcap ccap cap2).P O w) (hA3 : (FP.bx 3 gc3 [(Value.int .i64 cap3)]).P O w) (hA4 : (FP.bx 27 gc4 [(Value.slice Acap2 lcap2 ccap2)]).P O w) (hA5 : (FP.sl cI Acap2 lcap2 ccap2 cap4).P O w) (hA6 : (FP.bx 3 gc5 [(Value.int .i64 cap5)]).P O w) :
    Calls Try.prog 48 #[(.pointer (some (⟨gc, 0, none⟩ : Addr))), (.pointer (some (⟨gc3, 0, none⟩ : Addr))), (.pointer (some (⟨gc4, 0, none⟩ : Addr))), (.pointer (some (⟨gc5, 0, none⟩ : Addr)))] w fun e w' => ∃ r4 r5 r6 Ar2 lr2 cr2, e = .returned (.tuple #[(.agg #[(ii r4), (.slice Ar2 lr2 cr2)]), (.bool (r6))]) ∧ Sep w no O w' (rl [Res.own c3 75 Ar2 lr2 cr2 r5]) ∧ R r4 r5 r6 := by
  unfold yhD at h; have hS : Sep w no O w (rl [Res.ro (FP.bx 65 gc [(.func (Fn.func 43) #[] #[(.pointer (some (⟨gc2, 0, none⟩ : Addr)))])]), Res.ro (FP.bx 24 gc2 [(ii cap), (.slice Acap lcap ccap)]), Res.ro (FP.sl c3 Acap lcap ccap cap2), Res.ro (FP.bx 3 gc3 [(ii cap3)]), Res.ro (FP.bx 27 gc4 [(.slice Acap2 lcap2 ccap2)]), Res.ro (FP.sl cI Acap2 lcap2 ccap2 cap4), Res.ro (FP.bx 3 gc5 [(ii cap5)])]) := Sep.startl hO [(FP.bx 65 gc [(.func (Fn.func 43) #[] #[(.pointer (some (⟨gc2, 0, none⟩ : Addr)))])]), (FP.bx 24 gc2 [(ii cap), (.slice Acap lcap ccap)]), (FP.sl c3 Acap lcap ccap cap2), (FP.bx 3 gc3 [(ii cap3)]), (FP.bx 27 gc4 [(.slice Acap2 lcap2 ccap2)]), (FP.sl cI Acap2 lcap2 ccap2 cap4), (FP.bx 3 gc5 [(ii cap5)])] ⟨hA0, hA1, hA2, hA3, hA4, hA5, hA6, trivial⟩; refine yaq (l := [(.pointer (some (⟨gc, 0, none⟩ : Addr))), (.pointer (some (⟨gc3, 0, none⟩ : Addr))), (.pointer (some (⟨gc4, 0, none⟩ : Addr))), (.pointer (some (⟨gc5, 0, none⟩ : Addr)))]) func48 rfl ntmps48 (Nat.le_of_ble_eq_true rfl) (zs (zn (ybg yan ?_))); intro g w2 hN; replace hS : Sep w no O w2 (stl _ 7 (Res.box 24 g [(ii 0), (.slice none 0 0)])) := hS.new 7 rfl hN; clear hN; refine zb (zq (za (.bool (false))) (yaa (yaf (ybH [0, 1, 2, 3, 4, 5, 6, 7, 8, 9, 10] st0 yar (by kernel_rfl) (by kernel_rfl) ?_)))); replace hS := hS.drew; refine zp (zl underlying65 (Row.cell (hS.bxr 0 rfl) (i := 0) rfl)) (zp (zl underlying3 (Row.cell (hS.bxr 3 rfl) (i := 0) rfl)) (zp (zl underlying27 (Row.cell (hS.bxr 4 rfl) (i := 0) rfl)) (zp (zl underlying3 (Row.cell (hS.bxr 6 rfl) (i := 0) rfl)) ?_))); obtain ⟨hx, h⟩ := h; refine zp (zi underlying27 yag (yaN (hS.rdr 5 rfl) hx)) (zp (yaK (v := (ii (gi cap4 cap5.toNat))) rfl underlying3 rfl (rd_1 (hS.rdr 5 rfl) hx (fun q => yby q) rfl)) ?_); refine rp_n rfl rfl rfl rfl (ycS (vs := #[(.func (Fn.func 20) #[] #[]), (ii cap3), (.func (Fn.func 21) #[] #[]), (ii (gi cap4 cap5.toNat))]) (us := #[(.pointer (some (⟨gc2, 0, none⟩ : Addr)))]) rfl (am4 rfl rfl rfl rfl) yh2 ((yaT (by simp) (yhQ h (yaF _) (FP.sub _ (hS.ro 1 rfl) (fun _ _ h => h.elim) : FP.P _ no _) (FP.sub _ (hS.ro 2 rfl) (fun _ _ h => h.elim) : FP.P _ no _))).mono ?_)); rintro _ w3 ⟨r, r2, r3, Ar, lr, cr, rfl, hC, h⟩; replace hS := hS.call1 (hC.widen (ybv (yat (fP (fI .i64) (fP (fI .i64) (fI .i64))) _ _ _ _ _) ybE) hS.blt) 8 0 rfl; clear hC; refine ⟨_, rfl, ?_⟩; refine zb (zp (zx (.agg #[(ii r), (.slice Ar lr cr)])) (zp (zx (.bool (r3))) (ygr rfl rfl rfl (yaJ (b := g) (o := 0) (cells := #[(ii r), (.slice Ar lr cr)]) rfl rfl yan rfl rfl (yaC (hS.bx 7 rfl) (Nat.le_of_ble_eq_true rfl)) ?_)))); intro w4 e1; replace hS := hS.bstn 7 rfl 0 [(ii r), (.slice Ar lr cr)] e1; clear e1; exact zb (zp (za (.bool (r3))) (ybk (ych rfl (rv_n (vs := [(ii r), (.slice Ar lr cr)]) rfl underlying24 rfl yan ⟨Row.cell (hS.bx 7 rfl) (i := 0) rfl, Row.cell (hS.bx 7 rfl) (i := 1) rfl, trivial⟩) (rv_t rfl) ⟨_, _, _, _, _, _, rfl, (hS.sel [8] (by decide)), h⟩)))
def yhH (x : Int) (y : Int) (cap : Int) (cap2 : List E3) (R : Int → (List E3) → Bool → Prop) : Prop :=
ya0 cap cap2 x (fun r r2 r3 =>
((r3 = 0 →
yfY r r2 y (fun r4 r5 r6 =>
R r4 r5 (decide (r6 = 0)))) ∧
(¬ (r3 = 0) →
R r r2 false)))
theorem yhP {O : Nat → Prop} {w : World} {x y cap cap2 gc Acap lcap ccap} {R : Int → (List E3) → Bool → Prop} (h : yhH x y cap cap2 R) (hO : ∀ k, O k → k < w.heap.size) (hA0 : (FP.bx 24 gc [(Value.int .i64 cap), (Value.slice Acap lcap ccap)]).P O w) (hA1 : (FP.sl c3 Acap lcap ccap cap2).P O w) :
    Calls Try.prog 43 #[(.func (Fn.func 21) #[] #[]), (ii x), (.func (Fn.func 20) #[] #[]), (ii y), (.pointer (some (⟨gc, 0, none⟩ : Addr)))] w fun e w' => ∃ r7 r8 r9 Ar3 lr3 cr3, e = .returned (.tuple #[(.agg #[(ii r7), (.slice Ar3 lr3 cr3)]), (.bool (r9))]) ∧ Sep w no O w' (rl [Res.own c3 75 Ar3 lr3 cr3 r8]) ∧ R r7 r8 r9 := by
  unfold yhH at h; have hS : Sep w no O w (rl [Res.ro (FP.bx 24 gc [(ii cap), (.slice Acap lcap ccap)]), Res.ro (FP.sl c3 Acap lcap ccap cap2)]) := Sep.startl hO [(FP.bx 24 gc [(ii cap), (.slice Acap lcap ccap)]), (FP.sl c3 Acap lcap ccap cap2)] ⟨hA0, hA1, trivial⟩; refine yaq (l := [(.func (Fn.func 21) #[] #[]), (ii x), (.func (Fn.func 20) #[] #[]), (ii y), (.pointer (some (⟨gc, 0, none⟩ : Addr)))]) func43 rfl ntmps43 (Nat.le_of_ble_eq_true rfl) (zs (zn (ybg yan ?_))); intro g w2 hN; replace hS : Sep w no O w2 (stl _ 2 (Res.box 24 g [(ii 0), (.slice none 0 0)])) := hS.new 2 rfl hN; clear hN; refine zb (zq (za (.bool (false))) (yaa (zs (zq (zm (.func (Fn.func 21) #[] #[])) (zq (yaz (vs := [(ii cap), (.slice Acap lcap ccap)]) rfl underlying24 rfl yan ⟨Row.cell (hS.bxr 0 rfl) (i := 0) rfl, Row.cell (hS.bxr 0 rfl) (i := 1) rfl, trivial⟩) (zq (zm (ii x)) (zn (yak rfl (am2 rfl rfl) yhR ((ycr h (yaF _) (hS.rdr 1 rfl)).mono ?_))))))))); rintro _ w3 ⟨r, r2, r3, Ar, lr, cr, rfl, hC, h⟩; replace hS := hS.call1 (hC.widen (ybv (yat (fP (fI .i64) (fP (fI .i64) (fI .i64))) _ _ _ _ _) ybE) hS.blt) 3 0 rfl; clear hC; refine ⟨_, rfl, ?_⟩; refine zb (zq (zm (.tuple #[(.agg #[(ii r), (.slice Ar lr cr)]), (ii r3)])) (zq (zx (.agg #[(ii r), (.slice Ar lr cr)])) (zq (zx (ii r3)) (zn (ybg yan ?_))))); intro g2 w4 hN; replace hS : Sep w no O w4 (stl _ 4 (Res.box 24 g2 [(ii 0), (.slice none 0 0)])) := hS.new 4 rfl hN; clear hN; refine zb (zo (yaJ (b := g2) (o := 0) (cells := #[(ii r), (.slice Ar lr cr)]) rfl rfl yan rfl rfl (yaC (hS.bx 4 rfl) (Nat.le_of_ble_eq_true rfl)) ?_)); intro w5 e1; replace hS := hS.bstn 4 rfl 0 [(ii r), (.slice Ar lr cr)] e1; clear e1; refine zb (zq (za (ii r3)) (yaa (yaf (zs (zq (zm (ii r3)) (zq zN (yaa ?_))))))); by_cases hp : r3 = 0
  · replace h := h.1 hp; refine ze hp (yah (zs (zq (zm (.func (Fn.func 20) #[] #[])) (zq (yaz (vs := [(ii r), (.slice Ar lr cr)]) rfl underlying24 rfl yan ⟨Row.cell (hS.bx 4 rfl) (i := 0) rfl, Row.cell (hS.bx 4 rfl) (i := 1) rfl, trivial⟩) (zq (zm (ii y)) (zn (yak rfl (am2 rfl rfl) yh0 ((ygj h (yaF _) (hS.rdo 3 rfl)).mono ?_)))))))); rintro _ w6 ⟨r4, r5, r6, Ar2, lr2, cr2, rfl, hC, h⟩; replace hS := hS.call1 (hC.widen (ybv (yat (fP (fI .i64) (fP (fI .i64) (fI .i64))) _ _ _ _ _) ybE) hS.blt) 5 0 rfl; clear hC; refine ⟨_, rfl, ?_⟩; refine zb (zq (zm (.tuple #[(.agg #[(ii r4), (.slice Ar2 lr2 cr2)]), (ii r6)])) (zq (zx (.agg #[(ii r4), (.slice Ar2 lr2 cr2)])) (zq (zx (ii r6)) (zo (yaJ (b := g2) (o := 0) (cells := #[(ii r4), (.slice Ar2 lr2 cr2)]) rfl rfl yan rfl rfl (yaC (hS.bx 4 rfl) (Nat.le_of_ble_eq_true rfl)) ?_))))); intro w7 e1; replace hS := hS.bstn 4 rfl 0 [(ii r4), (.slice Ar2 lr2 cr2)] e1; clear e1; refine zb (zq (za (ii r6)) (yaa (zs (zq (yaz (vs := [(ii r4), (.slice Ar2 lr2 cr2)]) rfl underlying24 rfl yan ⟨Row.cell (hS.bx 4 rfl) (i := 0) rfl, Row.cell (hS.bx 4 rfl) (i := 1) rfl, trivial⟩) (zq (zm (ii r6)) (zq zE (zo (yaJ (b := g) (o := 0) (cells := #[(ii r4), (.slice Ar2 lr2 cr2)]) rfl rfl yan rfl rfl (yaC (hS.bx 2 rfl) (Nat.le_of_ble_eq_true rfl)) ?_)))))))); intro w8 e1; replace hS := hS.bstn 2 rfl 0 [(ii r4), (.slice Ar2 lr2 cr2)] e1; clear e1; exact zb (zq (za (.bool (decide (r6 = 0)))) (yaa (ych rfl (rv_n (vs := [(ii r4), (.slice Ar2 lr2 cr2)]) rfl underlying24 rfl yan ⟨Row.cell (hS.bx 2 rfl) (i := 0) rfl, Row.cell (hS.bx 2 rfl) (i := 1) rfl, trivial⟩) (rv_t rfl) ⟨_, _, _, _, _, _, rfl, (hS.sel [5] (by decide)), h⟩)))
  · replace h := h.2 hp; refine zf hp (zs (zq (yaz (vs := [(ii r), (.slice Ar lr cr)]) rfl underlying24 rfl yan ⟨Row.cell (hS.bx 4 rfl) (i := 0) rfl, Row.cell (hS.bx 4 rfl) (i := 1) rfl, trivial⟩) (zo (yaJ (b := g) (o := 0) (cells := #[(ii r), (.slice Ar lr cr)]) rfl rfl yan rfl rfl (yaC (hS.bx 2 rfl) (Nat.le_of_ble_eq_true rfl)) ?_)))); intro w9 e1; replace hS := hS.bstn 2 rfl 0 [(ii r), (.slice Ar lr cr)] e1; clear e1; exact zb (zq (za (.bool (false))) (yaa (ych rfl (rv_n (vs := [(ii r), (.slice Ar lr cr)]) rfl underlying24 rfl yan ⟨Row.cell (hS.bx 2 rfl) (i := 0) rfl, Row.cell (hS.bx 2 rfl) (i := 1) rfl, trivial⟩) (rv_t rfl) ⟨_, _, _, _, _, _, rfl, (hS.sel [3] (by decide)), h⟩)))
def yhE (cap : Int) (cap2 : List E3) (cap3 : Int) (cap4 : List Int) (cap5 : Int) (R : Int → (List E3) → Bool → Prop) : Prop :=
((0 ≤ cap5 ∧ cap5 < ((cap4.length : Nat) : Int)) ∧
yhH cap3 (gi cap4 cap5.toNat) cap cap2 (fun r r2 r3 =>
R r r2 r3))
theorem yhS {O : Nat → Prop} {w : World} {cap cap2 cap3 cap4 cap5 gc gc2 Acap lcap ccap gc3 gc4 Acap2 lcap2 ccap2 gc5} {R : Int → (List E3) → Bool → Prop} (h : yhE cap cap2 cap3 cap4 cap5 R) (hO : ∀ k, O k → k < w.heap.size) (hA0 : (FP.bx 65 gc [(Value.func (Fn.func 43) #[] #[(Value.pointer (some (⟨gc2, 0, none⟩ : Addr)))])]).P O w) (hA1 : (FP.bx 24 gc2 [(Value.int .i64 cap), (Value.slice Acap lcap ccap)]).P O w) (hA2 : (FP.sl c3 Acap lcap ccap cap2).P O w) (hA3 : (FP.bx 3 gc3 [(Value.int .i64 cap3)]).P O w) (hA4 : (FP.bx 27 gc4 [(Value.slice Acap2 lcap2 ccap2)]).P O w) (hA5 : (FP.sl cI Acap2 lcap2 ccap2 cap4).P O w) (hA6 : (FP.bx 3 gc5 [(Value.int .i64 cap5)]).P O w) :
    Calls Try.prog 49 #[(.pointer (some (⟨gc, 0, none⟩ : Addr))), (.pointer (some (⟨gc3, 0, none⟩ : Addr))), (.pointer (some (⟨gc4, 0, none⟩ : Addr))), (.pointer (some (⟨gc5, 0, none⟩ : Addr)))] w fun e w' => ∃ r4 r5 r6 Ar2 lr2 cr2, e = .returned (.tuple #[(.agg #[(ii r4), (.slice Ar2 lr2 cr2)]), (.bool (r6))]) ∧ Sep w no O w' (rl [Res.own c3 75 Ar2 lr2 cr2 r5]) ∧ R r4 r5 r6 := by
  unfold yhE at h; have hS : Sep w no O w (rl [Res.ro (FP.bx 65 gc [(.func (Fn.func 43) #[] #[(.pointer (some (⟨gc2, 0, none⟩ : Addr)))])]), Res.ro (FP.bx 24 gc2 [(ii cap), (.slice Acap lcap ccap)]), Res.ro (FP.sl c3 Acap lcap ccap cap2), Res.ro (FP.bx 3 gc3 [(ii cap3)]), Res.ro (FP.bx 27 gc4 [(.slice Acap2 lcap2 ccap2)]), Res.ro (FP.sl cI Acap2 lcap2 ccap2 cap4), Res.ro (FP.bx 3 gc5 [(ii cap5)])]) := Sep.startl hO [(FP.bx 65 gc [(.func (Fn.func 43) #[] #[(.pointer (some (⟨gc2, 0, none⟩ : Addr)))])]), (FP.bx 24 gc2 [(ii cap), (.slice Acap lcap ccap)]), (FP.sl c3 Acap lcap ccap cap2), (FP.bx 3 gc3 [(ii cap3)]), (FP.bx 27 gc4 [(.slice Acap2 lcap2 ccap2)]), (FP.sl cI Acap2 lcap2 ccap2 cap4), (FP.bx 3 gc5 [(ii cap5)])] ⟨hA0, hA1, hA2, hA3, hA4, hA5, hA6, trivial⟩; refine yaq (l := [(.pointer (some (⟨gc, 0, none⟩ : Addr))), (.pointer (some (⟨gc3, 0, none⟩ : Addr))), (.pointer (some (⟨gc4, 0, none⟩ : Addr))), (.pointer (some (⟨gc5, 0, none⟩ : Addr)))]) func49 rfl ntmps49 (Nat.le_of_ble_eq_true rfl) (zs (zn (ybg yan ?_))); intro g w2 hN; replace hS : Sep w no O w2 (stl _ 7 (Res.box 24 g [(ii 0), (.slice none 0 0)])) := hS.new 7 rfl hN; clear hN; refine zb (zq (za (.bool (false))) (yaa (yaf (ybH [0, 1, 2, 3, 4, 5, 6, 7, 8, 9, 10] st0 yar (by kernel_rfl) (by kernel_rfl) ?_)))); replace hS := hS.drew; refine zp (zl underlying65 (Row.cell (hS.bxr 0 rfl) (i := 0) rfl)) (zp (zl underlying3 (Row.cell (hS.bxr 3 rfl) (i := 0) rfl)) (zp (zl underlying27 (Row.cell (hS.bxr 4 rfl) (i := 0) rfl)) (zp (zl underlying3 (Row.cell (hS.bxr 6 rfl) (i := 0) rfl)) ?_))); obtain ⟨hx, h⟩ := h; refine zp (zi underlying27 yag (yaN (hS.rdr 5 rfl) hx)) (zp (yaK (v := (ii (gi cap4 cap5.toNat))) rfl underlying3 rfl (rd_1 (hS.rdr 5 rfl) hx (fun q => yby q) rfl)) ?_); refine rp_n rfl rfl rfl rfl (ycS (vs := #[(.func (Fn.func 21) #[] #[]), (ii cap3), (.func (Fn.func 20) #[] #[]), (ii (gi cap4 cap5.toNat))]) (us := #[(.pointer (some (⟨gc2, 0, none⟩ : Addr)))]) rfl (am4 rfl rfl rfl rfl) yh2 ((yaT (by simp) (yhP h (yaF _) (FP.sub _ (hS.ro 1 rfl) (fun _ _ h => h.elim) : FP.P _ no _) (FP.sub _ (hS.ro 2 rfl) (fun _ _ h => h.elim) : FP.P _ no _))).mono ?_)); rintro _ w3 ⟨r, r2, r3, Ar, lr, cr, rfl, hC, h⟩; replace hS := hS.call1 (hC.widen (ybv (yat (fP (fI .i64) (fP (fI .i64) (fI .i64))) _ _ _ _ _) ybE) hS.blt) 8 0 rfl; clear hC; refine ⟨_, rfl, ?_⟩; refine zb (zp (zx (.agg #[(ii r), (.slice Ar lr cr)])) (zp (zx (.bool (r3))) (ygr rfl rfl rfl (yaJ (b := g) (o := 0) (cells := #[(ii r), (.slice Ar lr cr)]) rfl rfl yan rfl rfl (yaC (hS.bx 7 rfl) (Nat.le_of_ble_eq_true rfl)) ?_)))); intro w4 e1; replace hS := hS.bstn 7 rfl 0 [(ii r), (.slice Ar lr cr)] e1; clear e1; exact zb (zp (za (.bool (r3))) (ybk (ych rfl (rv_n (vs := [(ii r), (.slice Ar lr cr)]) rfl underlying24 rfl yan ⟨Row.cell (hS.bx 7 rfl) (i := 0) rfl, Row.cell (hS.bx 7 rfl) (i := 1) rfl, trivial⟩) (rv_t rfl) ⟨_, _, _, _, _, _, rfl, (hS.sel [8] (by decide)), h⟩)))
def yhM (d : Int) (d2 : List E3) (i : Int) (a : Int) (R : Bool → Prop) : Prop :=
(∃ J2 : Prop, (J2 → ybe d d2 i (fun r r2 r3 =>
ybe d d2 a (fun r4 r5 r6 =>
(∃ J3 : Prop, (J3 → (∃ I2 : Nat → Int → Prop, (∃ m0, I2 m0 0) ∧ ∀ m2 v, I2 m2 v → 
((v < ((([0, 1, 2] : List Nat).length : Nat) : Int) →
((0 ≤ v ∧ v < ((([0, 1, 2] : List Nat).length : Nat) : Int)) ∧
((v = 0 →
((0 ≤ (0 : Int) ∧ (0 : Int) < 2) ∧
yhF d d2 i r a (fun r7 r8 r9 =>
((0 ≤ (1 : Int) ∧ (1 : Int) < 2) ∧
yhK d d2 a r4 i (fun r10 r11 r12 =>
((r9 = true →
((r12 = true →
ycN r7 r8 r10 r11 (fun r13 =>
((r13 = true →
(In64 (v + 1) ∧
∃ m3, m3 < m2 ∧ I2 m3 (v + 1))) ∧
(¬ (r13 = true) →
R false)))) ∧
(¬ (r12 = true) →
R false))) ∧
(¬ (r9 = true) →
R false))))))) ∧
(v = 1 →
((0 ≤ (0 : Int) ∧ (0 : Int) < 2) ∧
yhG d d2 i r2 a (fun r14 r15 r16 =>
((0 ≤ (1 : Int) ∧ (1 : Int) < 2) ∧
yhJ d d2 a r5 i (fun r17 r18 r19 =>
((r16 = true →
((r19 = true →
ycN r14 r15 r17 r18 (fun r20 =>
((r20 = true →
(In64 (v + 1) ∧
∃ m4, m4 < m2 ∧ I2 m4 (v + 1))) ∧
(¬ (r20 = true) →
R false)))) ∧
(¬ (r19 = true) →
R false))) ∧
(¬ (r16 = true) →
R false))))))) ∧
(v = 2 →
((0 ≤ (0 : Int) ∧ (0 : Int) < 2) ∧
yhD d d2 i r a (fun r21 r22 r23 =>
((0 ≤ (1 : Int) ∧ (1 : Int) < 2) ∧
yhE d d2 a r5 i (fun r24 r25 r26 =>
((r23 = true →
((r26 = true →
ycN r21 r22 r24 r25 (fun r27 =>
((r27 = true →
(In64 (v + 1) ∧
∃ m5, m5 < m2 ∧ I2 m5 (v + 1))) ∧
(¬ (r27 = true) →
R false)))) ∧
(¬ (r26 = true) →
R false))) ∧
(¬ (r23 = true) →
R false)))))))))) ∧
(¬ (v < ((([0, 1, 2] : List Nat).length : Nat) : Int)) →
ybW d d2 (fun r28 =>
((0 ≤ i ∧ i < ((r28.length : Nat) : Int)) ∧
((0 ≤ (0 : Int) ∧ (0 : Int) < 2) ∧
((0 ≤ (1 : Int) ∧ (1 : Int) < 2) ∧
((((gx r28 i.toNat).1) = ((gx r28 i.toNat).2) →
ycd (fun r29 =>
R r29)) ∧
(¬ (((gx r28 i.toNat).1) = ((gx r28 i.toNat).2)) →
yfY d d2 i (fun r30 r31 r32 =>
yfZ r30 r31 ((gx r28 i.toNat).1) ((gx r28 i.toNat).2) (fun r33 r34 r35 =>
ya0 d d2 i (fun r36 r37 r38 =>
(In64 (r32 + r35) ∧
(In64 ((r32 + r35) + r38) ∧
((((r32 + r35) + r38) = 0 →
ycN r33 r34 r36 r37 (fun r39 =>
((r39 = true →
ycd (fun r40 =>
R r40)) ∧
(¬ (r39 = true) →
R false)))) ∧
(¬ (((r32 + r35) + r38) = 0) →
R false))))))))))))))))) ∧
((r3 = 0 →
((r6 = 0 →
((((r.length : Nat) : Int) ≤ a →
R false) ∧
(¬ (((r.length : Nat) : Int) ≤ a) →
((((r2.length : Nat) : Int) ≤ a →
R false) ∧
(¬ (((r2.length : Nat) : Int) ≤ a) →
((((r4.length : Nat) : Int) ≤ i →
R false) ∧
(¬ (((r4.length : Nat) : Int) ≤ i) →
((((r5.length : Nat) : Int) ≤ i →
R false) ∧
(¬ (((r5.length : Nat) : Int) ≤ i) →
J3))))))))) ∧
(¬ (r6 = 0) →
R false))) ∧
(¬ (r3 = 0) →
R false)))))) ∧
ygH d d2 i (fun r54 =>
((r54 = true →
ygH d d2 a (fun r55 =>
((r55 = true →
((i = a →
ycd (fun r56 =>
R r56)) ∧
(¬ (i = a) →
J2))) ∧
(¬ (r55 = true) →
ycd (fun r57 =>
R r57))))) ∧
(¬ (r54 = true) →
ycd (fun r58 =>
R r58)))))
theorem pok_l12_ContractOrders {O : Nat → Prop} {w : World} {d d2 i a Ad ld cd} {R : Bool → Prop} (h : yhM d d2 i a R) (hO : ∀ k, O k → k < w.heap.size) (hA0 : (FP.sl c3 Ad ld cd d2).P O w) :
    Calls Try.prog 10 #[(.agg #[(ii d), (.slice Ad ld cd)]), (ii i), (ii a)] w fun e w' => ∃ r59, e = .returned (.bool (r59)) ∧ Sep w no O w' (rl []) ∧ R r59 := by
  unfold yhM at h; have hS : Sep w no O w (rl [Res.ro (FP.sl c3 Ad ld cd d2)]) := Sep.startl hO [(FP.sl c3 Ad ld cd d2)] ⟨hA0, trivial⟩; refine yaq (l := [(.agg #[(ii d), (.slice Ad ld cd)]), (ii i), (ii a)]) func10 rfl ntmps10 (Nat.le_of_ble_eq_true rfl) (zs (zn (yb5 (v := (.agg #[(ii d), (.slice Ad ld cd)])) rfl ?_))); intro g w2 hN; replace hS : Sep w no O w2 (stl _ 1 (Res.box 24 g [(ii d), (.slice Ad ld cd)])) := hS.new 1 rfl hN; clear hN; refine zb (zn (yb5 (v := (ii i)) rfl ?_)); intro g2 w3 hN; replace hS : Sep w no O w3 (stl _ 2 (Res.box 3 g2 [(ii i)])) := hS.new 2 rfl hN; clear hN; refine zb (zn (yb5 (v := (ii a)) rfl ?_)); intro g3 w4 hN; replace hS : Sep w no O w4 (stl _ 3 (Res.box 3 g3 [(ii a)])) := hS.new 3 rfl hN; clear hN; refine zb (zq (za (.bool (false))) (yaa (yaf (yaf ?_)))); obtain ⟨J2, hJ, h⟩ := h; refine ycZ (fun E ds w' => J2 ∧ ds = [] ∧ E 3 = (Value.pointer (some (⟨g, 0, none⟩ : Addr))) ∧ E 4 = (Value.pointer (some (⟨g2, 0, none⟩ : Addr))) ∧ E 5 = (Value.pointer (some (⟨g3, 0, none⟩ : Addr))) ∧ Sep w no O w' (rl [Res.box 24 g [(ii d), (.slice Ad ld cd)], Res.ro (FP.sl c3 Ad ld cd d2), Res.box 3 g2 [(ii i)], Res.box 3 g3 [(ii a)]])) ?_ ?_
  · clear h hS; rintro E ds w5 ⟨h, rfl, hE3, hE4, hE5, hS⟩; replace h := hJ h; refine zs (zq (yaz (vs := [(ii d), (.slice Ad ld cd)]) hE3 underlying24 rfl yan ⟨Row.cell (hS.bx 0 rfl) (i := 0) rfl, Row.cell (hS.bx 0 rfl) (i := 1) rfl, trivial⟩) (zq (yaK hE4 underlying3 rfl (Row.cell (hS.bx 2 rfl) (i := 0) rfl)) (zn (yak rfl (am2 rfl rfl) enter_13 ((ycC h (yaF _) (hS.rdr 1 rfl)).mono ?_))))); rintro _ w6 ⟨r, r2, r3, Ar, lr, cr, Ar2, lr2, cr2, rfl, hC, h⟩; replace hS := hS.call2 (hC.widen (ybv (yat (fI .i64) _ _ _ _ _) (ybv (yat (fI .i64) _ _ _ _ _) ybE)) hS.blt) 4 0 5 1 rfl rfl (by decide) (by decide); clear hC; refine ⟨_, rfl, ?_⟩; refine zb (zq (zm (.tuple #[(.slice Ar lr cr), (.slice Ar2 lr2 cr2), (ii r3)])) (zq (zx (.slice Ar lr cr)) (zq (zx (.slice Ar2 lr2 cr2)) (zq (zx (ii r3)) (zn (ybg yfH ?_)))))); intro g4 w7 hN; replace hS : Sep w no O w7 (stl _ 6 (Res.box 27 g4 [(.slice none 0 0)])) := hS.new 6 rfl hN; clear hN; refine zb (zn (ybg yfH ?_)); intro g5 w8 hN; replace hS : Sep w no O w8 (stl _ 7 (Res.box 27 g5 [(.slice none 0 0)])) := hS.new 7 rfl hN; clear hN; refine zb (zo (zt (.slice Ar lr cr) yfH (hS.bwr 6 rfl (j := 0) rfl) ?_)); intro w9 e1; replace hS := hS.bst 6 rfl 0 (.slice Ar lr cr) e1; clear e1; refine zb (zo (zt (.slice Ar2 lr2 cr2) yfH (hS.bwr 7 rfl (j := 0) rfl) ?_)); intro w10 e1; replace hS := hS.bst 7 rfl 0 (.slice Ar2 lr2 cr2) e1; clear e1; refine zb (zq (za (ii r3)) (yaa (zs (zq (yaz (vs := [(ii d), (.slice Ad ld cd)]) hE3 underlying24 rfl yan ⟨Row.cell (hS.bx 0 rfl) (i := 0) rfl, Row.cell (hS.bx 0 rfl) (i := 1) rfl, trivial⟩) (zq (yaK hE5 underlying3 rfl (Row.cell (hS.bx 3 rfl) (i := 0) rfl)) (zn (yak rfl (am2 rfl rfl) enter_13 ((ycC h (yaF _) (hS.rdr 1 rfl)).mono ?_)))))))); rintro _ w11 ⟨r4, r5, r6, Ar3, lr3, cr3, Ar4, lr4, cr4, rfl, hC, h⟩; replace hS := hS.call2 (hC.widen (ybv (yat (fI .i64) _ _ _ _ _) (ybv (yat (fI .i64) _ _ _ _ _) ybE)) hS.blt) 8 0 9 1 rfl rfl (by decide) (by decide); clear hC; refine ⟨_, rfl, ?_⟩; refine zb (zq (zm (.tuple #[(.slice Ar3 lr3 cr3), (.slice Ar4 lr4 cr4), (ii r6)])) (zq (zx (.slice Ar3 lr3 cr3)) (zq (zx (.slice Ar4 lr4 cr4)) (zq (zx (ii r6)) (zn (ybg yfH ?_)))))); intro g6 w12 hN; replace hS : Sep w no O w12 (stl _ 10 (Res.box 27 g6 [(.slice none 0 0)])) := hS.new 10 rfl hN; clear hN; refine zb (zn (ybg yfH ?_)); intro g7 w13 hN; replace hS : Sep w no O w13 (stl _ 11 (Res.box 27 g7 [(.slice none 0 0)])) := hS.new 11 rfl hN; clear hN; refine zb (zo (zt (.slice Ar3 lr3 cr3) yfH (hS.bwr 10 rfl (j := 0) rfl) ?_)); intro w14 e1; replace hS := hS.bst 10 rfl 0 (.slice Ar3 lr3 cr3) e1; clear e1; refine zb (zo (zt (.slice Ar4 lr4 cr4) yfH (hS.bwr 11 rfl (j := 0) rfl) ?_)); intro w15 e1; replace hS := hS.bst 11 rfl 0 (.slice Ar4 lr4 cr4) e1; clear e1; refine zb (zq (za (ii r6)) (yaa (yaf (yaf ?_)))); obtain ⟨J3, hJ, h⟩ := h; refine ycZ (fun E ds w' => J3 ∧ ds = [] ∧ E 3 = (Value.pointer (some (⟨g, 0, none⟩ : Addr))) ∧ E 4 = (Value.pointer (some (⟨g2, 0, none⟩ : Addr))) ∧ E 5 = (Value.pointer (some (⟨g3, 0, none⟩ : Addr))) ∧ E 7 = (Value.pointer (some (⟨g4, 0, none⟩ : Addr))) ∧ E 8 = (Value.pointer (some (⟨g5, 0, none⟩ : Addr))) ∧ E 10 = (Value.pointer (some (⟨g6, 0, none⟩ : Addr))) ∧ E 11 = (Value.pointer (some (⟨g7, 0, none⟩ : Addr))) ∧ Sep w no O w' (rl [Res.box 24 g [(ii d), (.slice Ad ld cd)], Res.ro (FP.sl c3 Ad ld cd d2), Res.box 3 g2 [(ii i)], Res.box 3 g3 [(ii a)], Res.box 27 g4 [(.slice Ar lr cr)], Res.own cI 3 Ar lr cr r, Res.box 27 g5 [(.slice Ar2 lr2 cr2)], Res.own cI 3 Ar2 lr2 cr2 r2, Res.box 27 g6 [(.slice Ar3 lr3 cr3)], Res.own cI 3 Ar3 lr3 cr3 r4, Res.box 27 g7 [(.slice Ar4 lr4 cr4)], Res.own cI 3 Ar4 lr4 cr4 r5])) ?_ ?_
    · clear h hS; rintro E ds w16 ⟨h, rfl, hE3, hE4, hE5, hE7, hE8, hE10, hE11, hS⟩; replace h := hJ h; refine zs (zq (yhX (am0) (am1 hE3)) (zn (ybg info_65 ?_))); intro g8 w17 hN; replace hS : Sep w no O w17 (stl _ 12 (Res.box 65 g8 [Value.nilFunc])) := hS.new 12 rfl hN; clear hN; refine zb (zo (zt (.func (Fn.func 43) #[] #[(.pointer (some (⟨g, 0, none⟩ : Addr)))]) info_65 (hS.bwr 12 rfl (j := 0) rfl) ?_)); intro w18 e1; replace hS := hS.bst 12 rfl 0 (.func (Fn.func 43) #[] #[(.pointer (some (⟨g, 0, none⟩ : Addr)))]) e1; clear e1; refine zb (yaa (zs (zq (yhX (am0) (am4 rfl hE4 hE7 hE5)) (zq (yhX (am0) (am4 rfl hE5 hE10 hE4)) (zn (yb9 (l := [(0, (.func (Fn.func 44) #[] #[(.pointer (some (⟨g8, 0, none⟩ : Addr))), (.pointer (some (⟨g2, 0, none⟩ : Addr))), (.pointer (some (⟨g4, 0, none⟩ : Addr))), (.pointer (some (⟨g3, 0, none⟩ : Addr)))])), (1, (.func (Fn.func 45) #[] #[(.pointer (some (⟨g8, 0, none⟩ : Addr))), (.pointer (some (⟨g3, 0, none⟩ : Addr))), (.pointer (some (⟨g6, 0, none⟩ : Addr))), (.pointer (some (⟨g2, 0, none⟩ : Addr)))]))]) (cells := [(.func (Fn.func 44) #[] #[(.pointer (some (⟨g8, 0, none⟩ : Addr))), (.pointer (some (⟨g2, 0, none⟩ : Addr))), (.pointer (some (⟨g4, 0, none⟩ : Addr))), (.pointer (some (⟨g3, 0, none⟩ : Addr)))]), (.func (Fn.func 45) #[] #[(.pointer (some (⟨g8, 0, none⟩ : Addr))), (.pointer (some (⟨g3, 0, none⟩ : Addr))), (.pointer (some (⟨g6, 0, none⟩ : Addr))), (.pointer (some (⟨g2, 0, none⟩ : Addr)))])]) (bp2 rfl rfl) underlying68 yhO yhZ (by kernel_rfl) ?_)))))); refine zb (zq (yhX (am0) (am4 rfl hE4 hE8 hE5)) (zq (yhX (am0) (am4 rfl hE5 hE11 hE4)) (zn (yb9 (l := [(0, (.func (Fn.func 46) #[] #[(.pointer (some (⟨g8, 0, none⟩ : Addr))), (.pointer (some (⟨g2, 0, none⟩ : Addr))), (.pointer (some (⟨g5, 0, none⟩ : Addr))), (.pointer (some (⟨g3, 0, none⟩ : Addr)))])), (1, (.func (Fn.func 47) #[] #[(.pointer (some (⟨g8, 0, none⟩ : Addr))), (.pointer (some (⟨g3, 0, none⟩ : Addr))), (.pointer (some (⟨g7, 0, none⟩ : Addr))), (.pointer (some (⟨g2, 0, none⟩ : Addr)))]))]) (cells := [(.func (Fn.func 46) #[] #[(.pointer (some (⟨g8, 0, none⟩ : Addr))), (.pointer (some (⟨g2, 0, none⟩ : Addr))), (.pointer (some (⟨g5, 0, none⟩ : Addr))), (.pointer (some (⟨g3, 0, none⟩ : Addr)))]), (.func (Fn.func 47) #[] #[(.pointer (some (⟨g8, 0, none⟩ : Addr))), (.pointer (some (⟨g3, 0, none⟩ : Addr))), (.pointer (some (⟨g7, 0, none⟩ : Addr))), (.pointer (some (⟨g2, 0, none⟩ : Addr)))])]) (bp2 rfl rfl) underlying68 yhO yhZ (by kernel_rfl) ?_)))); refine zb (zq (yhX (am0) (am4 rfl hE4 hE7 hE5)) (zq (yhX (am0) (am4 rfl hE5 hE11 hE4)) (zn (yb9 (l := [(0, (.func (Fn.func 48) #[] #[(.pointer (some (⟨g8, 0, none⟩ : Addr))), (.pointer (some (⟨g2, 0, none⟩ : Addr))), (.pointer (some (⟨g4, 0, none⟩ : Addr))), (.pointer (some (⟨g3, 0, none⟩ : Addr)))])), (1, (.func (Fn.func 49) #[] #[(.pointer (some (⟨g8, 0, none⟩ : Addr))), (.pointer (some (⟨g3, 0, none⟩ : Addr))), (.pointer (some (⟨g7, 0, none⟩ : Addr))), (.pointer (some (⟨g2, 0, none⟩ : Addr)))]))]) (cells := [(.func (Fn.func 48) #[] #[(.pointer (some (⟨g8, 0, none⟩ : Addr))), (.pointer (some (⟨g2, 0, none⟩ : Addr))), (.pointer (some (⟨g4, 0, none⟩ : Addr))), (.pointer (some (⟨g3, 0, none⟩ : Addr)))]), (.func (Fn.func 49) #[] #[(.pointer (some (⟨g8, 0, none⟩ : Addr))), (.pointer (some (⟨g3, 0, none⟩ : Addr))), (.pointer (some (⟨g7, 0, none⟩ : Addr))), (.pointer (some (⟨g2, 0, none⟩ : Addr)))])]) (bp2 rfl rfl) underlying68 yhO yhZ (by kernel_rfl) ?_)))); refine zb (zn (yaU (l := [(0, (.agg #[(.func (Fn.func 44) #[] #[(.pointer (some (⟨g8, 0, none⟩ : Addr))), (.pointer (some (⟨g2, 0, none⟩ : Addr))), (.pointer (some (⟨g4, 0, none⟩ : Addr))), (.pointer (some (⟨g3, 0, none⟩ : Addr)))]), (.func (Fn.func 45) #[] #[(.pointer (some (⟨g8, 0, none⟩ : Addr))), (.pointer (some (⟨g3, 0, none⟩ : Addr))), (.pointer (some (⟨g6, 0, none⟩ : Addr))), (.pointer (some (⟨g2, 0, none⟩ : Addr)))])])), (1, (.agg #[(.func (Fn.func 46) #[] #[(.pointer (some (⟨g8, 0, none⟩ : Addr))), (.pointer (some (⟨g2, 0, none⟩ : Addr))), (.pointer (some (⟨g5, 0, none⟩ : Addr))), (.pointer (some (⟨g3, 0, none⟩ : Addr)))]), (.func (Fn.func 47) #[] #[(.pointer (some (⟨g8, 0, none⟩ : Addr))), (.pointer (some (⟨g3, 0, none⟩ : Addr))), (.pointer (some (⟨g7, 0, none⟩ : Addr))), (.pointer (some (⟨g2, 0, none⟩ : Addr)))])])), (2, (.agg #[(.func (Fn.func 48) #[] #[(.pointer (some (⟨g8, 0, none⟩ : Addr))), (.pointer (some (⟨g2, 0, none⟩ : Addr))), (.pointer (some (⟨g4, 0, none⟩ : Addr))), (.pointer (some (⟨g3, 0, none⟩ : Addr)))]), (.func (Fn.func 49) #[] #[(.pointer (some (⟨g8, 0, none⟩ : Addr))), (.pointer (some (⟨g3, 0, none⟩ : Addr))), (.pointer (some (⟨g7, 0, none⟩ : Addr))), (.pointer (some (⟨g2, 0, none⟩ : Addr)))])]))]) (cells := [(.func (Fn.func 44) #[] #[(.pointer (some (⟨g8, 0, none⟩ : Addr))), (.pointer (some (⟨g2, 0, none⟩ : Addr))), (.pointer (some (⟨g4, 0, none⟩ : Addr))), (.pointer (some (⟨g3, 0, none⟩ : Addr)))]), (.func (Fn.func 45) #[] #[(.pointer (some (⟨g8, 0, none⟩ : Addr))), (.pointer (some (⟨g3, 0, none⟩ : Addr))), (.pointer (some (⟨g6, 0, none⟩ : Addr))), (.pointer (some (⟨g2, 0, none⟩ : Addr)))]), (.func (Fn.func 46) #[] #[(.pointer (some (⟨g8, 0, none⟩ : Addr))), (.pointer (some (⟨g2, 0, none⟩ : Addr))), (.pointer (some (⟨g5, 0, none⟩ : Addr))), (.pointer (some (⟨g3, 0, none⟩ : Addr)))]), (.func (Fn.func 47) #[] #[(.pointer (some (⟨g8, 0, none⟩ : Addr))), (.pointer (some (⟨g3, 0, none⟩ : Addr))), (.pointer (some (⟨g7, 0, none⟩ : Addr))), (.pointer (some (⟨g2, 0, none⟩ : Addr)))]), (.func (Fn.func 48) #[] #[(.pointer (some (⟨g8, 0, none⟩ : Addr))), (.pointer (some (⟨g2, 0, none⟩ : Addr))), (.pointer (some (⟨g4, 0, none⟩ : Addr))), (.pointer (some (⟨g3, 0, none⟩ : Addr)))]), (.func (Fn.func 49) #[] #[(.pointer (some (⟨g8, 0, none⟩ : Addr))), (.pointer (some (⟨g3, 0, none⟩ : Addr))), (.pointer (some (⟨g7, 0, none⟩ : Addr))), (.pointer (some (⟨g2, 0, none⟩ : Addr)))])]) (bp3 rfl rfl rfl) underlying69 yhO rfl rfl ?_)); intro g9 w19 hN; replace hS := hS.litf (n := 3) 13 rfl (fT 2 [[(.func (Fn.func 44) #[] #[(.pointer (some (⟨g8, 0, none⟩ : Addr))), (.pointer (some (⟨g2, 0, none⟩ : Addr))), (.pointer (some (⟨g4, 0, none⟩ : Addr))), (.pointer (some (⟨g3, 0, none⟩ : Addr)))]), (.func (Fn.func 45) #[] #[(.pointer (some (⟨g8, 0, none⟩ : Addr))), (.pointer (some (⟨g3, 0, none⟩ : Addr))), (.pointer (some (⟨g6, 0, none⟩ : Addr))), (.pointer (some (⟨g2, 0, none⟩ : Addr)))])], [(.func (Fn.func 46) #[] #[(.pointer (some (⟨g8, 0, none⟩ : Addr))), (.pointer (some (⟨g2, 0, none⟩ : Addr))), (.pointer (some (⟨g5, 0, none⟩ : Addr))), (.pointer (some (⟨g3, 0, none⟩ : Addr)))]), (.func (Fn.func 47) #[] #[(.pointer (some (⟨g8, 0, none⟩ : Addr))), (.pointer (some (⟨g3, 0, none⟩ : Addr))), (.pointer (some (⟨g7, 0, none⟩ : Addr))), (.pointer (some (⟨g2, 0, none⟩ : Addr)))])], [(.func (Fn.func 48) #[] #[(.pointer (some (⟨g8, 0, none⟩ : Addr))), (.pointer (some (⟨g2, 0, none⟩ : Addr))), (.pointer (some (⟨g4, 0, none⟩ : Addr))), (.pointer (some (⟨g3, 0, none⟩ : Addr)))]), (.func (Fn.func 49) #[] #[(.pointer (some (⟨g8, 0, none⟩ : Addr))), (.pointer (some (⟨g3, 0, none⟩ : Addr))), (.pointer (some (⟨g7, 0, none⟩ : Addr))), (.pointer (some (⟨g2, 0, none⟩ : Addr)))])]]) hN ([0, 1, 2] : List Nat) rfl (by decide) rfl; clear hN; refine zb (zq (za (.slice (some ⟨g9, 0, none⟩) 3 3)) (yaa (yaf (zs (zq (zm (.slice (some ⟨g9, 0, none⟩) 3 3)) (zq (yay (n := ([0, 1, 2] : List Nat).length) rfl underlying69 (yav (hS.rdo 13 rfl))) (zq (zm (ii 0)) (yaa (yaj ?_))))))))); replace hS := hS.frzb 0 rfl; replace hS := hS.frzb 2 rfl; replace hS := hS.frzb 12 rfl; replace hS := hS.frzb 4 rfl; replace hS := hS.frz 5 rfl; replace hS := hS.frzb 3 rfl; replace hS := hS.frzb 8 rfl; replace hS := hS.frz 9 rfl; replace hS := hS.frzb 6 rfl; replace hS := hS.frz 7 rfl; replace hS := hS.frzb 10 rfl; replace hS := hS.frz 11 rfl; obtain ⟨I2, ⟨m0, h0⟩, hr⟩ := h
      refine yaO (fun m E ds w' => ∃ v, I2 m v ∧ ds = [] ∧ E 3 = (Value.pointer (some (⟨g, 0, none⟩ : Addr))) ∧ E 4 = (Value.pointer (some (⟨g2, 0, none⟩ : Addr))) ∧ E 99 = (Value.slice (some ⟨g9, 0, none⟩) 3 3) ∧ E 100 = (ii ((([0, 1, 2] : List Nat).length : Nat) : Int)) ∧ E 101 = (ii v) ∧ Sep w no O w' (rl [Res.ro (FP.bx 24 g [(ii d), (.slice Ad ld cd)]), Res.ro (FP.sl c3 Ad ld cd d2), Res.ro (FP.bx 3 g2 [(ii i)]), Res.own (fT 2 [[(.func (Fn.func 44) #[] #[(.pointer (some (⟨g8, 0, none⟩ : Addr))), (.pointer (some (⟨g2, 0, none⟩ : Addr))), (.pointer (some (⟨g4, 0, none⟩ : Addr))), (.pointer (some (⟨g3, 0, none⟩ : Addr)))]), (.func (Fn.func 45) #[] #[(.pointer (some (⟨g8, 0, none⟩ : Addr))), (.pointer (some (⟨g3, 0, none⟩ : Addr))), (.pointer (some (⟨g6, 0, none⟩ : Addr))), (.pointer (some (⟨g2, 0, none⟩ : Addr)))])], [(.func (Fn.func 46) #[] #[(.pointer (some (⟨g8, 0, none⟩ : Addr))), (.pointer (some (⟨g2, 0, none⟩ : Addr))), (.pointer (some (⟨g5, 0, none⟩ : Addr))), (.pointer (some (⟨g3, 0, none⟩ : Addr)))]), (.func (Fn.func 47) #[] #[(.pointer (some (⟨g8, 0, none⟩ : Addr))), (.pointer (some (⟨g3, 0, none⟩ : Addr))), (.pointer (some (⟨g7, 0, none⟩ : Addr))), (.pointer (some (⟨g2, 0, none⟩ : Addr)))])], [(.func (Fn.func 48) #[] #[(.pointer (some (⟨g8, 0, none⟩ : Addr))), (.pointer (some (⟨g2, 0, none⟩ : Addr))), (.pointer (some (⟨g4, 0, none⟩ : Addr))), (.pointer (some (⟨g3, 0, none⟩ : Addr)))]), (.func (Fn.func 49) #[] #[(.pointer (some (⟨g8, 0, none⟩ : Addr))), (.pointer (some (⟨g3, 0, none⟩ : Addr))), (.pointer (some (⟨g7, 0, none⟩ : Addr))), (.pointer (some (⟨g2, 0, none⟩ : Addr)))])]]).cod 68 (some ⟨g9, 0, none⟩) 3 3 ([0, 1, 2] : List Nat), Res.ro (FP.bx 65 g8 [(.func (Fn.func 43) #[] #[(.pointer (some (⟨g, 0, none⟩ : Addr)))])]), Res.ro (FP.bx 27 g4 [(.slice Ar lr cr)]), Res.ro (FP.sl cI Ar lr cr r), Res.ro (FP.bx 3 g3 [(ii a)]), Res.ro (FP.bx 27 g6 [(.slice Ar3 lr3 cr3)]), Res.ro (FP.sl cI Ar3 lr3 cr3 r4), Res.ro (FP.bx 27 g5 [(.slice Ar2 lr2 cr2)]), Res.ro (FP.sl cI Ar2 lr2 cr2 r2), Res.ro (FP.bx 27 g7 [(.slice Ar4 lr4 cr4)]), Res.ro (FP.sl cI Ar4 lr4 cr4 r5)])) m0 ⟨_, h0, rfl, hE3, hE4, rfl, rfl, rfl, (hS.sel [0, 1, 2, 13, 12, 4, 5, 3, 8, 9, 6, 7, 10, 11] (by decide))⟩ ?_; clear h0 hS; rintro m2 E ds w20 ⟨v, h, rfl, hE3, hE4, hE99, hE100, hE101, hS⟩ again; replace h := hr m2 v h; clear hr; refine zs (zq (ycI hE101 hE100) (yaa (yaf ?_))); by_cases hp : v < ((([0, 1, 2] : List Nat).length : Nat) : Int)
      · replace h := h.1 hp; refine zc hp (yah (yaf (yaj (zs ?_)))); obtain ⟨hx, h⟩ := h; refine zq (ycn hE99 hE101 underlying69 yhO (yaN (hS.rdo 3 rfl) hx)) ?_; rcases (show v = 0 ∨ v = 1 ∨ v = 2 by have hx_ := hx; simp only [List.length_cons, List.length_nil] at hx_; omega) with hk | hk | hk
        · replace h := h.1 hk; refine zq (yaz (vs := [(.func (Fn.func 44) #[] #[(.pointer (some (⟨g8, 0, none⟩ : Addr))), (.pointer (some (⟨g2, 0, none⟩ : Addr))), (.pointer (some (⟨g4, 0, none⟩ : Addr))), (.pointer (some (⟨g3, 0, none⟩ : Addr)))]), (.func (Fn.func 45) #[] #[(.pointer (some (⟨g8, 0, none⟩ : Addr))), (.pointer (some (⟨g3, 0, none⟩ : Addr))), (.pointer (some (⟨g6, 0, none⟩ : Addr))), (.pointer (some (⟨g2, 0, none⟩ : Addr)))])]) rfl underlying68 rfl yhO (ydN (x := 0) (hS.rdo 3 rfl) hx (fun _ => by rw [hk]; rfl))) ?_; refine zn (ybg yhO ?_); intro g10 w21 hN; replace hS : Sep w no O w21 (stl _ 14 (Res.box 68 g10 [Value.nilFunc, Value.nilFunc])) := hS.new 14 rfl hN; clear hN; refine zb (zo (yaJ (b := g10) (o := 0) (cells := #[(.func (Fn.func 44) #[] #[(.pointer (some (⟨g8, 0, none⟩ : Addr))), (.pointer (some (⟨g2, 0, none⟩ : Addr))), (.pointer (some (⟨g4, 0, none⟩ : Addr))), (.pointer (some (⟨g3, 0, none⟩ : Addr)))]), (.func (Fn.func 45) #[] #[(.pointer (some (⟨g8, 0, none⟩ : Addr))), (.pointer (some (⟨g3, 0, none⟩ : Addr))), (.pointer (some (⟨g6, 0, none⟩ : Addr))), (.pointer (some (⟨g2, 0, none⟩ : Addr)))])]) rfl rfl yhO rfl rfl (yaC (hS.bx 14 rfl) (Nat.le_of_ble_eq_true rfl)) ?_)); intro w22 e1; replace hS := hS.bstn 14 rfl 0 [(.func (Fn.func 44) #[] #[(.pointer (some (⟨g8, 0, none⟩ : Addr))), (.pointer (some (⟨g2, 0, none⟩ : Addr))), (.pointer (some (⟨g4, 0, none⟩ : Addr))), (.pointer (some (⟨g3, 0, none⟩ : Addr)))]), (.func (Fn.func 45) #[] #[(.pointer (some (⟨g8, 0, none⟩ : Addr))), (.pointer (some (⟨g3, 0, none⟩ : Addr))), (.pointer (some (⟨g6, 0, none⟩ : Addr))), (.pointer (some (⟨g2, 0, none⟩ : Addr)))])] e1; clear e1; refine zb (yaa (zs ?_)); obtain ⟨hx2, h⟩ := h; refine zq (yaA rfl rfl underlying68 yhZ hx2) (zq (zl underlying67 (Row.cell (hS.bx 14 rfl) (i := 0) rfl)) (zn (ycS (vs := #[]) (us := #[(.pointer (some (⟨g8, 0, none⟩ : Addr))), (.pointer (some (⟨g2, 0, none⟩ : Addr))), (.pointer (some (⟨g4, 0, none⟩ : Addr))), (.pointer (some (⟨g3, 0, none⟩ : Addr)))]) rfl (am0) enter_44 ((yaT (by simp) (yhW h (yaF _) (FP.sub _ (hS.ro 4 rfl) (fun _ _ h => h.elim) : FP.P _ no _) (FP.sub _ (hS.ro 0 rfl) (fun _ _ h => h.elim) : FP.P _ no _) (FP.sub _ (hS.ro 1 rfl) (fun _ _ h => h.elim) : FP.P _ no _) (FP.sub _ (hS.ro 2 rfl) (fun _ _ h => h.elim) : FP.P _ no _) (FP.sub _ (hS.ro 5 rfl) (fun _ _ h => h.elim) : FP.P _ no _) (FP.sub _ (hS.ro 6 rfl) (fun _ _ h => h.elim) : FP.P _ no _) (FP.sub _ (hS.ro 7 rfl) (fun _ _ h => h.elim) : FP.P _ no _))).mono ?_)))); rintro _ w23 ⟨r7, r8, r9, Ar5, lr5, cr5, rfl, hC, h⟩; replace hS := hS.call1 (hC.widen (ybv (yat (fP (fI .i64) (fP (fI .i64) (fI .i64))) _ _ _ _ _) ybE) hS.blt) 15 0 rfl; clear hC; refine ⟨_, rfl, ?_⟩; refine zb (zq (zm (.tuple #[(.agg #[(ii r7), (.slice Ar5 lr5 cr5)]), (.bool (r9))])) (zq (zx (.agg #[(ii r7), (.slice Ar5 lr5 cr5)])) (zq (zx (.bool (r9))) (zn (ybg yan ?_))))); intro g11 w24 hN; replace hS : Sep w no O w24 (stl _ 16 (Res.box 24 g11 [(ii 0), (.slice none 0 0)])) := hS.new 16 rfl hN; clear hN; refine zb (zo (yaJ (b := g11) (o := 0) (cells := #[(ii r7), (.slice Ar5 lr5 cr5)]) rfl rfl yan rfl rfl (yaC (hS.bx 16 rfl) (Nat.le_of_ble_eq_true rfl)) ?_)); intro w25 e1; replace hS := hS.bstn 16 rfl 0 [(ii r7), (.slice Ar5 lr5 cr5)] e1; clear e1; refine zb (zq (za (.bool (r9))) (yaa (zs ?_))); obtain ⟨hx3, h⟩ := h; refine zq (yaA rfl rfl underlying68 yhZ hx3) (zq (zl underlying67 (Row.cell (hS.bx 14 rfl) (i := 1) rfl)) (zn (ycS (vs := #[]) (us := #[(.pointer (some (⟨g8, 0, none⟩ : Addr))), (.pointer (some (⟨g3, 0, none⟩ : Addr))), (.pointer (some (⟨g6, 0, none⟩ : Addr))), (.pointer (some (⟨g2, 0, none⟩ : Addr)))]) rfl (am0) enter_45 ((yaT (by simp) (yhV h (yaF _) (FP.sub _ (hS.ro 4 rfl) (fun _ _ h => h.elim) : FP.P _ no _) (FP.sub _ (hS.ro 0 rfl) (fun _ _ h => h.elim) : FP.P _ no _) (FP.sub _ (hS.ro 1 rfl) (fun _ _ h => h.elim) : FP.P _ no _) (FP.sub _ (hS.ro 7 rfl) (fun _ _ h => h.elim) : FP.P _ no _) (FP.sub _ (hS.ro 8 rfl) (fun _ _ h => h.elim) : FP.P _ no _) (FP.sub _ (hS.ro 9 rfl) (fun _ _ h => h.elim) : FP.P _ no _) (FP.sub _ (hS.ro 2 rfl) (fun _ _ h => h.elim) : FP.P _ no _))).mono ?_)))); rintro _ w26 ⟨r10, r11, r12, Ar6, lr6, cr6, rfl, hC, h⟩; replace hS := hS.call1 (hC.widen (ybv (yat (fP (fI .i64) (fP (fI .i64) (fI .i64))) _ _ _ _ _) ybE) hS.blt) 17 0 rfl; clear hC; refine ⟨_, rfl, ?_⟩; refine zb (zq (zm (.tuple #[(.agg #[(ii r10), (.slice Ar6 lr6 cr6)]), (.bool (r12))])) (zq (zx (.agg #[(ii r10), (.slice Ar6 lr6 cr6)])) (zq (zx (.bool (r12))) (zn (ybg yan ?_))))); intro g12 w27 hN; replace hS : Sep w no O w27 (stl _ 18 (Res.box 24 g12 [(ii 0), (.slice none 0 0)])) := hS.new 18 rfl hN; clear hN; refine zb (zo (yaJ (b := g12) (o := 0) (cells := #[(ii r10), (.slice Ar6 lr6 cr6)]) rfl rfl yan rfl rfl (yaC (hS.bx 18 rfl) (Nat.le_of_ble_eq_true rfl)) ?_)); intro w28 e1; replace hS := hS.bstn 18 rfl 0 [(ii r10), (.slice Ar6 lr6 cr6)] e1; clear e1; refine zb (zq (za (.bool (r12))) (yaa (zs (zq (zm (.bool (r9))) (zq (ygz rfl) (zq (zm (.bool (!(r9)))) ?_)))))); by_cases hp2 : r9 = true
          · replace h := h.1 hp2; refine rl_q (yad rfl (yac rfl (congrArg Value.bool (congrArg Bool.not hp2)))) rfl rfl (zm (.bool (r12))) (rl_q (yad rfl (yac rfl (congrArg Value.bool (congrArg Bool.not hp2)))) rfl rfl (ygz rfl) (zq (yap (v := (.bool (!(r12)))) (congrArg Value.bool (congrArg Bool.not hp2)) rfl) (zq (zm (.bool (!(r12)))) ?_))); by_cases hp3 : r12 = true
            · replace h := h.1 hp3; refine rl_q (yad rfl (yac rfl (congrArg Value.bool (congrArg Bool.not hp3)))) rfl rfl (yaz (vs := [(ii r7), (.slice Ar5 lr5 cr5)]) rfl underlying24 rfl yan ⟨Row.cell (hS.bx 16 rfl) (i := 0) rfl, Row.cell (hS.bx 16 rfl) (i := 1) rfl, trivial⟩) (rl_q (yad rfl (yac rfl (congrArg Value.bool (congrArg Bool.not hp3)))) rfl rfl (yaz (vs := [(ii r10), (.slice Ar6 lr6 cr6)]) rfl underlying24 rfl yan ⟨Row.cell (hS.bx 18 rfl) (i := 0) rfl, Row.cell (hS.bx 18 rfl) (i := 1) rfl, trivial⟩) (rl_n (yad rfl (yac rfl (congrArg Value.bool (congrArg Bool.not hp3)))) rfl rfl rfl (yak rfl (am2 rfl rfl) ygq ((yep h (yaF _) (hS.rdo 15 rfl) (hS.rdo 17 rfl)).mono ?_)))); rintro _ w29 ⟨r13, rfl, hC, h⟩; replace hS := hS.pur hC.pure; clear hC; refine ⟨_, rfl, ?_⟩; refine zb (rl_q (yad rfl (yac rfl (congrArg Value.bool (congrArg Bool.not hp3)))) rfl rfl (ygz rfl) (zq (yap (v := (.bool (!(r13)))) (congrArg Value.bool (congrArg Bool.not hp3)) rfl) (yaa ?_))); by_cases hp4 : r13 = true
              · replace h := h.1 hp4; refine ya7 (congrArg Value.bool (congrArg Bool.not hp4)) (yah (yam (zr ?_))); obtain ⟨hi, h⟩ := h; refine zq (ycv hE101 rfl hi) (zq (zm (ii (v + 1))) (yaa ?_)); obtain ⟨mq, hlt, h⟩ := h; exact again mq _ _ _ ⟨_, h, rfl, hE3, hE4, hE99, hE100, rfl, (hS.sel [0, 1, 2, 3, 4, 5, 6, 7, 8, 9, 10, 11, 12, 13] (by decide))⟩ hlt
              · replace h := h.2 hp4; exact yaE (congrArg Value.bool (congrArg Bool.not (Bool.eq_false_iff.2 hp4))) (zs (zq (za (.bool (false))) (yaa (yai rfl rfl ⟨_, rfl, (hS.sel [] (by decide)), h⟩))))
            · replace h := h.2 hp3; exact rl_p (yab rfl (yac rfl (congrArg Value.bool (congrArg Bool.not (Bool.eq_false_iff.2 hp3)))) rfl) rfl (rl_p (yab rfl (yac rfl (congrArg Value.bool (congrArg Bool.not (Bool.eq_false_iff.2 hp3)))) rfl) rfl (rl_p (yab rfl (yac rfl (congrArg Value.bool (congrArg Bool.not (Bool.eq_false_iff.2 hp3)))) rfl) rfl (rl_p (yab rfl (yac rfl (congrArg Value.bool (congrArg Bool.not (Bool.eq_false_iff.2 hp3)))) rfl) rfl (zq (yaw (v := (.bool (true))) (congrArg Value.bool (congrArg Bool.not (Bool.eq_false_iff.2 hp3))) rfl) (yaa (yaE rfl (zs (zq (za (.bool (false))) (yaa (yai rfl rfl ⟨_, rfl, (hS.sel [] (by decide)), h⟩))))))))))
          · replace h := h.2 hp2; exact rl_p (yab rfl (yac rfl (congrArg Value.bool (congrArg Bool.not (Bool.eq_false_iff.2 hp2)))) rfl) rfl (rl_p (yab rfl (yac rfl (congrArg Value.bool (congrArg Bool.not (Bool.eq_false_iff.2 hp2)))) rfl) rfl (zq (yaw (v := (.bool (true))) (congrArg Value.bool (congrArg Bool.not (Bool.eq_false_iff.2 hp2))) rfl) (zq (zm (.bool (true))) (rl_p (yab rfl (yac rfl rfl) rfl) rfl (rl_p (yab rfl (yac rfl rfl) rfl) rfl (rl_p (yab rfl (yac rfl rfl) rfl) rfl (rl_p (yab rfl (yac rfl rfl) rfl) rfl (zq (yaw (v := (.bool (true))) rfl rfl) (yaa (yaE rfl (zs (zq (za (.bool (false))) (yaa (yai rfl rfl ⟨_, rfl, (hS.sel [] (by decide)), h⟩))))))))))))))
        · replace h := h.2.1 hk; refine zq (yaz (vs := [(.func (Fn.func 46) #[] #[(.pointer (some (⟨g8, 0, none⟩ : Addr))), (.pointer (some (⟨g2, 0, none⟩ : Addr))), (.pointer (some (⟨g5, 0, none⟩ : Addr))), (.pointer (some (⟨g3, 0, none⟩ : Addr)))]), (.func (Fn.func 47) #[] #[(.pointer (some (⟨g8, 0, none⟩ : Addr))), (.pointer (some (⟨g3, 0, none⟩ : Addr))), (.pointer (some (⟨g7, 0, none⟩ : Addr))), (.pointer (some (⟨g2, 0, none⟩ : Addr)))])]) rfl underlying68 rfl yhO (ydN (x := 1) (hS.rdo 3 rfl) hx (fun _ => by rw [hk]; rfl))) ?_; refine zn (ybg yhO ?_); intro g13 w30 hN; replace hS : Sep w no O w30 (stl _ 14 (Res.box 68 g13 [Value.nilFunc, Value.nilFunc])) := hS.new 14 rfl hN; clear hN; refine zb (zo (yaJ (b := g13) (o := 0) (cells := #[(.func (Fn.func 46) #[] #[(.pointer (some (⟨g8, 0, none⟩ : Addr))), (.pointer (some (⟨g2, 0, none⟩ : Addr))), (.pointer (some (⟨g5, 0, none⟩ : Addr))), (.pointer (some (⟨g3, 0, none⟩ : Addr)))]), (.func (Fn.func 47) #[] #[(.pointer (some (⟨g8, 0, none⟩ : Addr))), (.pointer (some (⟨g3, 0, none⟩ : Addr))), (.pointer (some (⟨g7, 0, none⟩ : Addr))), (.pointer (some (⟨g2, 0, none⟩ : Addr)))])]) rfl rfl yhO rfl rfl (yaC (hS.bx 14 rfl) (Nat.le_of_ble_eq_true rfl)) ?_)); intro w31 e1; replace hS := hS.bstn 14 rfl 0 [(.func (Fn.func 46) #[] #[(.pointer (some (⟨g8, 0, none⟩ : Addr))), (.pointer (some (⟨g2, 0, none⟩ : Addr))), (.pointer (some (⟨g5, 0, none⟩ : Addr))), (.pointer (some (⟨g3, 0, none⟩ : Addr)))]), (.func (Fn.func 47) #[] #[(.pointer (some (⟨g8, 0, none⟩ : Addr))), (.pointer (some (⟨g3, 0, none⟩ : Addr))), (.pointer (some (⟨g7, 0, none⟩ : Addr))), (.pointer (some (⟨g2, 0, none⟩ : Addr)))])] e1; clear e1; refine zb (yaa (zs ?_)); obtain ⟨hx4, h⟩ := h; refine zq (yaA rfl rfl underlying68 yhZ hx4) (zq (zl underlying67 (Row.cell (hS.bx 14 rfl) (i := 0) rfl)) (zn (ycS (vs := #[]) (us := #[(.pointer (some (⟨g8, 0, none⟩ : Addr))), (.pointer (some (⟨g2, 0, none⟩ : Addr))), (.pointer (some (⟨g5, 0, none⟩ : Addr))), (.pointer (some (⟨g3, 0, none⟩ : Addr)))]) rfl (am0) enter_46 ((yaT (by simp) (yhY h (yaF _) (FP.sub _ (hS.ro 4 rfl) (fun _ _ h => h.elim) : FP.P _ no _) (FP.sub _ (hS.ro 0 rfl) (fun _ _ h => h.elim) : FP.P _ no _) (FP.sub _ (hS.ro 1 rfl) (fun _ _ h => h.elim) : FP.P _ no _) (FP.sub _ (hS.ro 2 rfl) (fun _ _ h => h.elim) : FP.P _ no _) (FP.sub _ (hS.ro 10 rfl) (fun _ _ h => h.elim) : FP.P _ no _) (FP.sub _ (hS.ro 11 rfl) (fun _ _ h => h.elim) : FP.P _ no _) (FP.sub _ (hS.ro 7 rfl) (fun _ _ h => h.elim) : FP.P _ no _))).mono ?_)))); rintro _ w32 ⟨r14, r15, r16, Ar7, lr7, cr7, rfl, hC, h⟩; replace hS := hS.call1 (hC.widen (ybv (yat (fP (fI .i64) (fP (fI .i64) (fI .i64))) _ _ _ _ _) ybE) hS.blt) 15 0 rfl; clear hC; refine ⟨_, rfl, ?_⟩; refine zb (zq (zm (.tuple #[(.agg #[(ii r14), (.slice Ar7 lr7 cr7)]), (.bool (r16))])) (zq (zx (.agg #[(ii r14), (.slice Ar7 lr7 cr7)])) (zq (zx (.bool (r16))) (zn (ybg yan ?_))))); intro g14 w33 hN; replace hS : Sep w no O w33 (stl _ 16 (Res.box 24 g14 [(ii 0), (.slice none 0 0)])) := hS.new 16 rfl hN; clear hN; refine zb (zo (yaJ (b := g14) (o := 0) (cells := #[(ii r14), (.slice Ar7 lr7 cr7)]) rfl rfl yan rfl rfl (yaC (hS.bx 16 rfl) (Nat.le_of_ble_eq_true rfl)) ?_)); intro w34 e1; replace hS := hS.bstn 16 rfl 0 [(ii r14), (.slice Ar7 lr7 cr7)] e1; clear e1; refine zb (zq (za (.bool (r16))) (yaa (zs ?_))); obtain ⟨hx5, h⟩ := h; refine zq (yaA rfl rfl underlying68 yhZ hx5) (zq (zl underlying67 (Row.cell (hS.bx 14 rfl) (i := 1) rfl)) (zn (ycS (vs := #[]) (us := #[(.pointer (some (⟨g8, 0, none⟩ : Addr))), (.pointer (some (⟨g3, 0, none⟩ : Addr))), (.pointer (some (⟨g7, 0, none⟩ : Addr))), (.pointer (some (⟨g2, 0, none⟩ : Addr)))]) rfl (am0) enter_47 ((yaT (by simp) (yhU h (yaF _) (FP.sub _ (hS.ro 4 rfl) (fun _ _ h => h.elim) : FP.P _ no _) (FP.sub _ (hS.ro 0 rfl) (fun _ _ h => h.elim) : FP.P _ no _) (FP.sub _ (hS.ro 1 rfl) (fun _ _ h => h.elim) : FP.P _ no _) (FP.sub _ (hS.ro 7 rfl) (fun _ _ h => h.elim) : FP.P _ no _) (FP.sub _ (hS.ro 12 rfl) (fun _ _ h => h.elim) : FP.P _ no _) (FP.sub _ (hS.ro 13 rfl) (fun _ _ h => h.elim) : FP.P _ no _) (FP.sub _ (hS.ro 2 rfl) (fun _ _ h => h.elim) : FP.P _ no _))).mono ?_)))); rintro _ w35 ⟨r17, r18, r19, Ar8, lr8, cr8, rfl, hC, h⟩; replace hS := hS.call1 (hC.widen (ybv (yat (fP (fI .i64) (fP (fI .i64) (fI .i64))) _ _ _ _ _) ybE) hS.blt) 17 0 rfl; clear hC; refine ⟨_, rfl, ?_⟩; refine zb (zq (zm (.tuple #[(.agg #[(ii r17), (.slice Ar8 lr8 cr8)]), (.bool (r19))])) (zq (zx (.agg #[(ii r17), (.slice Ar8 lr8 cr8)])) (zq (zx (.bool (r19))) (zn (ybg yan ?_))))); intro g15 w36 hN; replace hS : Sep w no O w36 (stl _ 18 (Res.box 24 g15 [(ii 0), (.slice none 0 0)])) := hS.new 18 rfl hN; clear hN; refine zb (zo (yaJ (b := g15) (o := 0) (cells := #[(ii r17), (.slice Ar8 lr8 cr8)]) rfl rfl yan rfl rfl (yaC (hS.bx 18 rfl) (Nat.le_of_ble_eq_true rfl)) ?_)); intro w37 e1; replace hS := hS.bstn 18 rfl 0 [(ii r17), (.slice Ar8 lr8 cr8)] e1; clear e1; refine zb (zq (za (.bool (r19))) (yaa (zs (zq (zm (.bool (r16))) (zq (ygz rfl) (zq (zm (.bool (!(r16)))) ?_)))))); by_cases hp5 : r16 = true
          · replace h := h.1 hp5; refine rl_q (yad rfl (yac rfl (congrArg Value.bool (congrArg Bool.not hp5)))) rfl rfl (zm (.bool (r19))) (rl_q (yad rfl (yac rfl (congrArg Value.bool (congrArg Bool.not hp5)))) rfl rfl (ygz rfl) (zq (yap (v := (.bool (!(r19)))) (congrArg Value.bool (congrArg Bool.not hp5)) rfl) (zq (zm (.bool (!(r19)))) ?_))); by_cases hp6 : r19 = true
            · replace h := h.1 hp6; refine rl_q (yad rfl (yac rfl (congrArg Value.bool (congrArg Bool.not hp6)))) rfl rfl (yaz (vs := [(ii r14), (.slice Ar7 lr7 cr7)]) rfl underlying24 rfl yan ⟨Row.cell (hS.bx 16 rfl) (i := 0) rfl, Row.cell (hS.bx 16 rfl) (i := 1) rfl, trivial⟩) (rl_q (yad rfl (yac rfl (congrArg Value.bool (congrArg Bool.not hp6)))) rfl rfl (yaz (vs := [(ii r17), (.slice Ar8 lr8 cr8)]) rfl underlying24 rfl yan ⟨Row.cell (hS.bx 18 rfl) (i := 0) rfl, Row.cell (hS.bx 18 rfl) (i := 1) rfl, trivial⟩) (rl_n (yad rfl (yac rfl (congrArg Value.bool (congrArg Bool.not hp6)))) rfl rfl rfl (yak rfl (am2 rfl rfl) ygq ((yep h (yaF _) (hS.rdo 15 rfl) (hS.rdo 17 rfl)).mono ?_)))); rintro _ w38 ⟨r20, rfl, hC, h⟩; replace hS := hS.pur hC.pure; clear hC; refine ⟨_, rfl, ?_⟩; refine zb (rl_q (yad rfl (yac rfl (congrArg Value.bool (congrArg Bool.not hp6)))) rfl rfl (ygz rfl) (zq (yap (v := (.bool (!(r20)))) (congrArg Value.bool (congrArg Bool.not hp6)) rfl) (yaa ?_))); by_cases hp7 : r20 = true
              · replace h := h.1 hp7; refine ya7 (congrArg Value.bool (congrArg Bool.not hp7)) (yah (yam (zr ?_))); obtain ⟨hi2, h⟩ := h; refine zq (ycv hE101 rfl hi2) (zq (zm (ii (v + 1))) (yaa ?_)); obtain ⟨mq, hlt, h⟩ := h; exact again mq _ _ _ ⟨_, h, rfl, hE3, hE4, hE99, hE100, rfl, (hS.sel [0, 1, 2, 3, 4, 5, 6, 7, 8, 9, 10, 11, 12, 13] (by decide))⟩ hlt
              · replace h := h.2 hp7; exact yaE (congrArg Value.bool (congrArg Bool.not (Bool.eq_false_iff.2 hp7))) (zs (zq (za (.bool (false))) (yaa (yai rfl rfl ⟨_, rfl, (hS.sel [] (by decide)), h⟩))))
            · replace h := h.2 hp6; exact rl_p (yab rfl (yac rfl (congrArg Value.bool (congrArg Bool.not (Bool.eq_false_iff.2 hp6)))) rfl) rfl (rl_p (yab rfl (yac rfl (congrArg Value.bool (congrArg Bool.not (Bool.eq_false_iff.2 hp6)))) rfl) rfl (rl_p (yab rfl (yac rfl (congrArg Value.bool (congrArg Bool.not (Bool.eq_false_iff.2 hp6)))) rfl) rfl (rl_p (yab rfl (yac rfl (congrArg Value.bool (congrArg Bool.not (Bool.eq_false_iff.2 hp6)))) rfl) rfl (zq (yaw (v := (.bool (true))) (congrArg Value.bool (congrArg Bool.not (Bool.eq_false_iff.2 hp6))) rfl) (yaa (yaE rfl (zs (zq (za (.bool (false))) (yaa (yai rfl rfl ⟨_, rfl, (hS.sel [] (by decide)), h⟩))))))))))
          · replace h := h.2 hp5; exact rl_p (yab rfl (yac rfl (congrArg Value.bool (congrArg Bool.not (Bool.eq_false_iff.2 hp5)))) rfl) rfl (rl_p (yab rfl (yac rfl (congrArg Value.bool (congrArg Bool.not (Bool.eq_false_iff.2 hp5)))) rfl) rfl (zq (yaw (v := (.bool (true))) (congrArg Value.bool (congrArg Bool.not (Bool.eq_false_iff.2 hp5))) rfl) (zq (zm (.bool (true))) (rl_p (yab rfl (yac rfl rfl) rfl) rfl (rl_p (yab rfl (yac rfl rfl) rfl) rfl (rl_p (yab rfl (yac rfl rfl) rfl) rfl (rl_p (yab rfl (yac rfl rfl) rfl) rfl (zq (yaw (v := (.bool (true))) rfl rfl) (yaa (yaE rfl (zs (zq (za (.bool (false))) (yaa (yai rfl rfl ⟨_, rfl, (hS.sel [] (by decide)), h⟩))))))))))))))
        · replace h := h.2.2 hk; refine zq (yaz (vs := [(.func (Fn.func 48) #[] #[(.pointer (some (⟨g8, 0, none⟩ : Addr))), (.pointer (some (⟨g2, 0, none⟩ : Addr))), (.pointer (some (⟨g4, 0, none⟩ : Addr))), (.pointer (some (⟨g3, 0, none⟩ : Addr)))]), (.func (Fn.func 49) #[] #[(.pointer (some (⟨g8, 0, none⟩ : Addr))), (.pointer (some (⟨g3, 0, none⟩ : Addr))), (.pointer (some (⟨g7, 0, none⟩ : Addr))), (.pointer (some (⟨g2, 0, none⟩ : Addr)))])]) rfl underlying68 rfl yhO (ydN (x := 2) (hS.rdo 3 rfl) hx (fun _ => by rw [hk]; rfl))) ?_; refine zn (ybg yhO ?_); intro g16 w39 hN; replace hS : Sep w no O w39 (stl _ 14 (Res.box 68 g16 [Value.nilFunc, Value.nilFunc])) := hS.new 14 rfl hN; clear hN; refine zb (zo (yaJ (b := g16) (o := 0) (cells := #[(.func (Fn.func 48) #[] #[(.pointer (some (⟨g8, 0, none⟩ : Addr))), (.pointer (some (⟨g2, 0, none⟩ : Addr))), (.pointer (some (⟨g4, 0, none⟩ : Addr))), (.pointer (some (⟨g3, 0, none⟩ : Addr)))]), (.func (Fn.func 49) #[] #[(.pointer (some (⟨g8, 0, none⟩ : Addr))), (.pointer (some (⟨g3, 0, none⟩ : Addr))), (.pointer (some (⟨g7, 0, none⟩ : Addr))), (.pointer (some (⟨g2, 0, none⟩ : Addr)))])]) rfl rfl yhO rfl rfl (yaC (hS.bx 14 rfl) (Nat.le_of_ble_eq_true rfl)) ?_)); intro w40 e1; replace hS := hS.bstn 14 rfl 0 [(.func (Fn.func 48) #[] #[(.pointer (some (⟨g8, 0, none⟩ : Addr))), (.pointer (some (⟨g2, 0, none⟩ : Addr))), (.pointer (some (⟨g4, 0, none⟩ : Addr))), (.pointer (some (⟨g3, 0, none⟩ : Addr)))]), (.func (Fn.func 49) #[] #[(.pointer (some (⟨g8, 0, none⟩ : Addr))), (.pointer (some (⟨g3, 0, none⟩ : Addr))), (.pointer (some (⟨g7, 0, none⟩ : Addr))), (.pointer (some (⟨g2, 0, none⟩ : Addr)))])] e1; clear e1; refine zb (yaa (zs ?_)); obtain ⟨hx6, h⟩ := h; refine zq (yaA rfl rfl underlying68 yhZ hx6) (zq (zl underlying67 (Row.cell (hS.bx 14 rfl) (i := 0) rfl)) (zn (ycS (vs := #[]) (us := #[(.pointer (some (⟨g8, 0, none⟩ : Addr))), (.pointer (some (⟨g2, 0, none⟩ : Addr))), (.pointer (some (⟨g4, 0, none⟩ : Addr))), (.pointer (some (⟨g3, 0, none⟩ : Addr)))]) rfl (am0) enter_48 ((yaT (by simp) (yhT h (yaF _) (FP.sub _ (hS.ro 4 rfl) (fun _ _ h => h.elim) : FP.P _ no _) (FP.sub _ (hS.ro 0 rfl) (fun _ _ h => h.elim) : FP.P _ no _) (FP.sub _ (hS.ro 1 rfl) (fun _ _ h => h.elim) : FP.P _ no _) (FP.sub _ (hS.ro 2 rfl) (fun _ _ h => h.elim) : FP.P _ no _) (FP.sub _ (hS.ro 5 rfl) (fun _ _ h => h.elim) : FP.P _ no _) (FP.sub _ (hS.ro 6 rfl) (fun _ _ h => h.elim) : FP.P _ no _) (FP.sub _ (hS.ro 7 rfl) (fun _ _ h => h.elim) : FP.P _ no _))).mono ?_)))); rintro _ w41 ⟨r21, r22, r23, Ar9, lr9, cr9, rfl, hC, h⟩; replace hS := hS.call1 (hC.widen (ybv (yat (fP (fI .i64) (fP (fI .i64) (fI .i64))) _ _ _ _ _) ybE) hS.blt) 15 0 rfl; clear hC; refine ⟨_, rfl, ?_⟩; refine zb (zq (zm (.tuple #[(.agg #[(ii r21), (.slice Ar9 lr9 cr9)]), (.bool (r23))])) (zq (zx (.agg #[(ii r21), (.slice Ar9 lr9 cr9)])) (zq (zx (.bool (r23))) (zn (ybg yan ?_))))); intro g17 w42 hN; replace hS : Sep w no O w42 (stl _ 16 (Res.box 24 g17 [(ii 0), (.slice none 0 0)])) := hS.new 16 rfl hN; clear hN; refine zb (zo (yaJ (b := g17) (o := 0) (cells := #[(ii r21), (.slice Ar9 lr9 cr9)]) rfl rfl yan rfl rfl (yaC (hS.bx 16 rfl) (Nat.le_of_ble_eq_true rfl)) ?_)); intro w43 e1; replace hS := hS.bstn 16 rfl 0 [(ii r21), (.slice Ar9 lr9 cr9)] e1; clear e1; refine zb (zq (za (.bool (r23))) (yaa (zs ?_))); obtain ⟨hx7, h⟩ := h; refine zq (yaA rfl rfl underlying68 yhZ hx7) (zq (zl underlying67 (Row.cell (hS.bx 14 rfl) (i := 1) rfl)) (zn (ycS (vs := #[]) (us := #[(.pointer (some (⟨g8, 0, none⟩ : Addr))), (.pointer (some (⟨g3, 0, none⟩ : Addr))), (.pointer (some (⟨g7, 0, none⟩ : Addr))), (.pointer (some (⟨g2, 0, none⟩ : Addr)))]) rfl (am0) enter_49 ((yaT (by simp) (yhS h (yaF _) (FP.sub _ (hS.ro 4 rfl) (fun _ _ h => h.elim) : FP.P _ no _) (FP.sub _ (hS.ro 0 rfl) (fun _ _ h => h.elim) : FP.P _ no _) (FP.sub _ (hS.ro 1 rfl) (fun _ _ h => h.elim) : FP.P _ no _) (FP.sub _ (hS.ro 7 rfl) (fun _ _ h => h.elim) : FP.P _ no _) (FP.sub _ (hS.ro 12 rfl) (fun _ _ h => h.elim) : FP.P _ no _) (FP.sub _ (hS.ro 13 rfl) (fun _ _ h => h.elim) : FP.P _ no _) (FP.sub _ (hS.ro 2 rfl) (fun _ _ h => h.elim) : FP.P _ no _))).mono ?_)))); rintro _ w44 ⟨r24, r25, r26, Ar10, lr10, cr10, rfl, hC, h⟩; replace hS := hS.call1 (hC.widen (ybv (yat (fP (fI .i64) (fP (fI .i64) (fI .i64))) _ _ _ _ _) ybE) hS.blt) 17 0 rfl; clear hC; refine ⟨_, rfl, ?_⟩; refine zb (zq (zm (.tuple #[(.agg #[(ii r24), (.slice Ar10 lr10 cr10)]), (.bool (r26))])) (zq (zx (.agg #[(ii r24), (.slice Ar10 lr10 cr10)])) (zq (zx (.bool (r26))) (zn (ybg yan ?_))))); intro g18 w45 hN; replace hS : Sep w no O w45 (stl _ 18 (Res.box 24 g18 [(ii 0), (.slice none 0 0)])) := hS.new 18 rfl hN; clear hN; refine zb (zo (yaJ (b := g18) (o := 0) (cells := #[(ii r24), (.slice Ar10 lr10 cr10)]) rfl rfl yan rfl rfl (yaC (hS.bx 18 rfl) (Nat.le_of_ble_eq_true rfl)) ?_)); intro w46 e1; replace hS := hS.bstn 18 rfl 0 [(ii r24), (.slice Ar10 lr10 cr10)] e1; clear e1; refine zb (zq (za (.bool (r26))) (yaa (zs (zq (zm (.bool (r23))) (zq (ygz rfl) (zq (zm (.bool (!(r23)))) ?_)))))); by_cases hp8 : r23 = true
          · replace h := h.1 hp8; refine rl_q (yad rfl (yac rfl (congrArg Value.bool (congrArg Bool.not hp8)))) rfl rfl (zm (.bool (r26))) (rl_q (yad rfl (yac rfl (congrArg Value.bool (congrArg Bool.not hp8)))) rfl rfl (ygz rfl) (zq (yap (v := (.bool (!(r26)))) (congrArg Value.bool (congrArg Bool.not hp8)) rfl) (zq (zm (.bool (!(r26)))) ?_))); by_cases hp9 : r26 = true
            · replace h := h.1 hp9; refine rl_q (yad rfl (yac rfl (congrArg Value.bool (congrArg Bool.not hp9)))) rfl rfl (yaz (vs := [(ii r21), (.slice Ar9 lr9 cr9)]) rfl underlying24 rfl yan ⟨Row.cell (hS.bx 16 rfl) (i := 0) rfl, Row.cell (hS.bx 16 rfl) (i := 1) rfl, trivial⟩) (rl_q (yad rfl (yac rfl (congrArg Value.bool (congrArg Bool.not hp9)))) rfl rfl (yaz (vs := [(ii r24), (.slice Ar10 lr10 cr10)]) rfl underlying24 rfl yan ⟨Row.cell (hS.bx 18 rfl) (i := 0) rfl, Row.cell (hS.bx 18 rfl) (i := 1) rfl, trivial⟩) (rl_n (yad rfl (yac rfl (congrArg Value.bool (congrArg Bool.not hp9)))) rfl rfl rfl (yak rfl (am2 rfl rfl) ygq ((yep h (yaF _) (hS.rdo 15 rfl) (hS.rdo 17 rfl)).mono ?_)))); rintro _ w47 ⟨r27, rfl, hC, h⟩; replace hS := hS.pur hC.pure; clear hC; refine ⟨_, rfl, ?_⟩; refine zb (rl_q (yad rfl (yac rfl (congrArg Value.bool (congrArg Bool.not hp9)))) rfl rfl (ygz rfl) (zq (yap (v := (.bool (!(r27)))) (congrArg Value.bool (congrArg Bool.not hp9)) rfl) (yaa ?_))); by_cases hp10 : r27 = true
              · replace h := h.1 hp10; refine ya7 (congrArg Value.bool (congrArg Bool.not hp10)) (yah (yam (zr ?_))); obtain ⟨hi3, h⟩ := h; refine zq (ycv hE101 rfl hi3) (zq (zm (ii (v + 1))) (yaa ?_)); obtain ⟨mq, hlt, h⟩ := h; exact again mq _ _ _ ⟨_, h, rfl, hE3, hE4, hE99, hE100, rfl, (hS.sel [0, 1, 2, 3, 4, 5, 6, 7, 8, 9, 10, 11, 12, 13] (by decide))⟩ hlt
              · replace h := h.2 hp10; exact yaE (congrArg Value.bool (congrArg Bool.not (Bool.eq_false_iff.2 hp10))) (zs (zq (za (.bool (false))) (yaa (yai rfl rfl ⟨_, rfl, (hS.sel [] (by decide)), h⟩))))
            · replace h := h.2 hp9; exact rl_p (yab rfl (yac rfl (congrArg Value.bool (congrArg Bool.not (Bool.eq_false_iff.2 hp9)))) rfl) rfl (rl_p (yab rfl (yac rfl (congrArg Value.bool (congrArg Bool.not (Bool.eq_false_iff.2 hp9)))) rfl) rfl (rl_p (yab rfl (yac rfl (congrArg Value.bool (congrArg Bool.not (Bool.eq_false_iff.2 hp9)))) rfl) rfl (rl_p (yab rfl (yac rfl (congrArg Value.bool (congrArg Bool.not (Bool.eq_false_iff.2 hp9)))) rfl) rfl (zq (yaw (v := (.bool (true))) (congrArg Value.bool (congrArg Bool.not (Bool.eq_false_iff.2 hp9))) rfl) (yaa (yaE rfl (zs (zq (za (.bool (false))) (yaa (yai rfl rfl ⟨_, rfl, (hS.sel [] (by decide)), h⟩))))))))))
          · replace h := h.2 hp8; exact rl_p (yab rfl (yac rfl (congrArg Value.bool (congrArg Bool.not (Bool.eq_false_iff.2 hp8)))) rfl) rfl (rl_p (yab rfl (yac rfl (congrArg Value.bool (congrArg Bool.not (Bool.eq_false_iff.2 hp8)))) rfl) rfl (zq (yaw (v := (.bool (true))) (congrArg Value.bool (congrArg Bool.not (Bool.eq_false_iff.2 hp8))) rfl) (zq (zm (.bool (true))) (rl_p (yab rfl (yac rfl rfl) rfl) rfl (rl_p (yab rfl (yac rfl rfl) rfl) rfl (rl_p (yab rfl (yac rfl rfl) rfl) rfl (rl_p (yab rfl (yac rfl rfl) rfl) rfl (zq (yaw (v := (.bool (true))) rfl rfl) (yaa (yaE rfl (zs (zq (za (.bool (false))) (yaa (yai rfl rfl ⟨_, rfl, (hS.sel [] (by decide)), h⟩))))))))))))))
      · replace h := h.2 hp; refine zd hp (yaL rfl (yaf (wt_drawT (.one 0 [] (.one 2 [] (.both (.one 1 [2] (.one 3 [] (.one 4 [] (.one 5 [0, 2, 3, 4] (.one 6 [] .nil))))) (.one 5 [0, 2] (.one 1 [2] (.one 3 [] (.one 4 [] (.one 6 [] .nil)))))))) yar (by kernel_rfl) (by kernel_rfl) ?_))); replace hS := hS.drew; refine rt_q rfl rfl rfl rfl (yaz (vs := [(ii d), (.slice Ad ld cd)]) hE3 underlying24 rfl yan ⟨Row.cell (hS.bxr 0 rfl) (i := 0) rfl, Row.cell (hS.bxr 0 rfl) (i := 1) rfl, trivial⟩) (rt_q rfl rfl rfl rfl (yaK hE4 underlying3 rfl (Row.cell (hS.bxr 2 rfl) (i := 0) rfl)) (rt_both ?_ ?_))
        · refine rt_n rfl rfl rfl rfl rfl (yak rfl (am1 rfl) ygp ((ydA h (yaF _) (hS.rdr 1 rfl)).mono ?_)); rintro _ w48 ⟨r28, Ar11, lr11, cr11, rfl, hC, h⟩; replace hS := hS.call1 (hC.widen (ybv (yat (fP (fI .i64) (fI .i64)) _ _ _ _ _) ybE) hS.blt) 14 0 rfl; clear hC; refine ⟨_, rfl, ?_⟩; refine ⟨⟨fun _ => (yaK hE4 underlying3 rfl (Row.cell (hS.bxr 2 rfl) (i := 0) rfl)), ⟨fun hh => Bool.noConfusion (show false = true from hh), trivial⟩⟩, ?_⟩; obtain ⟨hx8, h⟩ := h; refine rt_q rfl rfl rfl rfl (zi underlying46 yal (yaN (hS.rdo 14 rfl) hx8)) (rt_q rfl rfl rfl rfl (yaz (vs := [(ii ((gx r28 i.toNat).1)), (ii ((gx r28 i.toNat).2))]) rfl underlying45 rfl yal (ydN (hS.rdo 14 rfl) hx8 (fun q => yaS q))) ?_); refine rt_n rfl rfl rfl rfl rfl (ybg yal ?_); intro g19 w49 hN; replace hS : Sep w no O w49 (stl _ 15 (Res.box 45 g19 [(ii 0), (ii 0)])) := hS.new 15 rfl hN; clear hN; refine ⟨⟨fun _ => (yaz (vs := [(ii ((gx r28 i.toNat).1)), (ii ((gx r28 i.toNat).2))]) rfl underlying45 rfl yal (ydN (hS.rdo 14 rfl) hx8 (fun q => yaS q))), ⟨fun _ => (zi underlying46 yal (yaN (hS.rdo 14 rfl) hx8)), ⟨fun _ => (yaK hE4 underlying3 rfl (Row.cell (hS.bxr 2 rfl) (i := 0) rfl)), ⟨fun _ => (yaz (vs := [(ii d), (.slice Ad ld cd)]) hE3 underlying24 rfl yan ⟨Row.cell (hS.bxr 0 rfl) (i := 0) rfl, Row.cell (hS.bxr 0 rfl) (i := 1) rfl, trivial⟩), trivial⟩⟩⟩⟩, ?_⟩; refine rt_n0 rfl rfl rfl rfl (yaJ (b := g19) (o := 0) (cells := #[(ii ((gx r28 i.toNat).1)), (ii ((gx r28 i.toNat).2))]) rfl rfl yal rfl rfl (yaC (hS.bx 15 rfl) (Nat.le_of_ble_eq_true rfl)) ?_); intro w50 e1; replace hS := hS.bstn 15 rfl 0 [(ii ((gx r28 i.toNat).1)), (ii ((gx r28 i.toNat).2))] e1; clear e1; refine zb (rt_end (yaf (zs ?_))); obtain ⟨hx9, h⟩ := h; refine zq (yaA rfl rfl underlying45 yag hx9) (zq (zl underlying3 (Row.cell (hS.bx 15 rfl) (i := 0) rfl)) ?_); obtain ⟨hx10, h⟩ := h; refine zq (yaA rfl rfl underlying45 yag hx10) (zq (zl underlying3 (Row.cell (hS.bx 15 rfl) (i := 1) rfl)) (zq zE (yaa ?_))); by_cases hp11 : ((gx r28 i.toNat).1) = ((gx r28 i.toNat).2)
          · replace h := h.1 hp11; refine zc hp11 (zs (zn (yak rfl (am0) ygJ ((ydZ h (yaF _)).mono ?_)))); rintro _ w51 ⟨r29, rfl, hC, h⟩; replace hS := hS.pur hC.pure; clear hC; refine ⟨_, rfl, ?_⟩; exact zb (zq (za (.bool (r29))) (yaa (yai rfl rfl ⟨_, rfl, (hS.sel [] (by decide)), h⟩)))
          · replace h := h.2 hp11; refine zd hp11 (yah (zs (zq (yaz (vs := [(ii d), (.slice Ad ld cd)]) hE3 underlying24 rfl yan ⟨Row.cell (hS.bxr 0 rfl) (i := 0) rfl, Row.cell (hS.bxr 0 rfl) (i := 1) rfl, trivial⟩) (zq (yaK hE4 underlying3 rfl (Row.cell (hS.bxr 2 rfl) (i := 0) rfl)) (zn (yak rfl (am2 rfl rfl) yh0 ((ygj h (yaF _) (hS.rdr 1 rfl)).mono ?_))))))); rintro _ w52 ⟨r30, r31, r32, Ar12, lr12, cr12, rfl, hC, h⟩; replace hS := hS.call1 (hC.widen (ybv (yat (fP (fI .i64) (fP (fI .i64) (fI .i64))) _ _ _ _ _) ybE) hS.blt) 16 0 rfl; clear hC; refine ⟨_, rfl, ?_⟩; refine zb (zq (zm (.tuple #[(.agg #[(ii r30), (.slice Ar12 lr12 cr12)]), (ii r32)])) (zq (zx (.agg #[(ii r30), (.slice Ar12 lr12 cr12)])) (zq (zx (ii r32)) (zn (ybg yan ?_))))); intro g20 w53 hN; replace hS : Sep w no O w53 (stl _ 17 (Res.box 24 g20 [(ii 0), (.slice none 0 0)])) := hS.new 17 rfl hN; clear hN; refine zb (zo (yaJ (b := g20) (o := 0) (cells := #[(ii r30), (.slice Ar12 lr12 cr12)]) rfl rfl yan rfl rfl (yaC (hS.bx 17 rfl) (Nat.le_of_ble_eq_true rfl)) ?_)); intro w54 e1; replace hS := hS.bstn 17 rfl 0 [(ii r30), (.slice Ar12 lr12 cr12)] e1; clear e1; refine zb (zq (za (ii r32)) (yaa (zs (zq (yaz (vs := [(ii r30), (.slice Ar12 lr12 cr12)]) rfl underlying24 rfl yan ⟨Row.cell (hS.bx 17 rfl) (i := 0) rfl, Row.cell (hS.bx 17 rfl) (i := 1) rfl, trivial⟩) (zq (yaA rfl rfl underlying45 yag hx9) (zq (zl underlying3 (Row.cell (hS.bx 15 rfl) (i := 0) rfl)) (zq (yaA rfl rfl underlying45 yag hx10) (zq (zl underlying3 (Row.cell (hS.bx 15 rfl) (i := 1) rfl)) (zn (yak rfl (am3 rfl rfl rfl) enter_41 ((ygl h (yaF _) (hS.rdo 16 rfl)).mono ?_))))))))))); rintro _ w55 ⟨r33, r34, r35, Ar13, lr13, cr13, rfl, hC, h⟩; replace hS := hS.call1 (hC.widen (ybv (yat (fP (fI .i64) (fP (fI .i64) (fI .i64))) _ _ _ _ _) ybE) hS.blt) 18 0 rfl; clear hC; refine ⟨_, rfl, ?_⟩; refine zb (zq (zm (.tuple #[(.agg #[(ii r33), (.slice Ar13 lr13 cr13)]), (ii r35)])) (zq (zx (.agg #[(ii r33), (.slice Ar13 lr13 cr13)])) (zq (zx (ii r35)) (zn (ybg yan ?_))))); intro g21 w56 hN; replace hS : Sep w no O w56 (stl _ 19 (Res.box 24 g21 [(ii 0), (.slice none 0 0)])) := hS.new 19 rfl hN; clear hN; refine zb (zo (yaJ (b := g21) (o := 0) (cells := #[(ii r33), (.slice Ar13 lr13 cr13)]) rfl rfl yan rfl rfl (yaC (hS.bx 19 rfl) (Nat.le_of_ble_eq_true rfl)) ?_)); intro w57 e1; replace hS := hS.bstn 19 rfl 0 [(ii r33), (.slice Ar13 lr13 cr13)] e1; clear e1; refine zb (zq (za (ii r35)) (yaa (zs (zq (yaz (vs := [(ii d), (.slice Ad ld cd)]) hE3 underlying24 rfl yan ⟨Row.cell (hS.bxr 0 rfl) (i := 0) rfl, Row.cell (hS.bxr 0 rfl) (i := 1) rfl, trivial⟩) (zq (yaK hE4 underlying3 rfl (Row.cell (hS.bxr 2 rfl) (i := 0) rfl)) (zn (yak rfl (am2 rfl rfl) yhR ((ycr h (yaF _) (hS.rdr 1 rfl)).mono ?_)))))))); rintro _ w58 ⟨r36, r37, r38, Ar14, lr14, cr14, rfl, hC, h⟩; replace hS := hS.call1 (hC.widen (ybv (yat (fP (fI .i64) (fP (fI .i64) (fI .i64))) _ _ _ _ _) ybE) hS.blt) 20 0 rfl; clear hC; refine ⟨_, rfl, ?_⟩; refine zb (zq (zm (.tuple #[(.agg #[(ii r36), (.slice Ar14 lr14 cr14)]), (ii r38)])) (zq (zx (.agg #[(ii r36), (.slice Ar14 lr14 cr14)])) (zq (zx (ii r38)) (zn (ybg yan ?_))))); intro g22 w59 hN; replace hS : Sep w no O w59 (stl _ 21 (Res.box 24 g22 [(ii 0), (.slice none 0 0)])) := hS.new 21 rfl hN; clear hN; refine zb (zo (yaJ (b := g22) (o := 0) (cells := #[(ii r36), (.slice Ar14 lr14 cr14)]) rfl rfl yan rfl rfl (yaC (hS.bx 21 rfl) (Nat.le_of_ble_eq_true rfl)) ?_)); intro w60 e1; replace hS := hS.bstn 21 rfl 0 [(ii r36), (.slice Ar14 lr14 cr14)] e1; clear e1; refine zb (zq (za (ii r38)) (yaa (zs (zq (zm (ii r32)) (zq (zm (ii r35)) ?_))))); obtain ⟨hi4, h⟩ := h; refine zq (zA hi4) (zq (zm (ii r38)) ?_); obtain ⟨hi5, h⟩ := h; refine zq (zA hi5) (zq zE (zq (zm (.bool (decide (((r32 + r35) + r38) = 0)))) ?_)); by_cases hp12 : ((r32 + r35) + r38) = 0
            · replace h := h.1 hp12; refine rl_q (yad rfl (yac rfl (congrArg Value.bool (decide_eq_true hp12)))) rfl rfl (yaz (vs := [(ii r33), (.slice Ar13 lr13 cr13)]) rfl underlying24 rfl yan ⟨Row.cell (hS.bx 19 rfl) (i := 0) rfl, Row.cell (hS.bx 19 rfl) (i := 1) rfl, trivial⟩) (rl_q (yad rfl (yac rfl (congrArg Value.bool (decide_eq_true hp12)))) rfl rfl (yaz (vs := [(ii r36), (.slice Ar14 lr14 cr14)]) rfl underlying24 rfl yan ⟨Row.cell (hS.bx 21 rfl) (i := 0) rfl, Row.cell (hS.bx 21 rfl) (i := 1) rfl, trivial⟩) (rl_n (yad rfl (yac rfl (congrArg Value.bool (decide_eq_true hp12)))) rfl rfl rfl (yak rfl (am2 rfl rfl) ygq ((yep h (yaF _) (hS.rdo 18 rfl) (hS.rdo 20 rfl)).mono ?_)))); rintro _ w61 ⟨r39, rfl, hC, h⟩; replace hS := hS.pur hC.pure; clear hC; refine ⟨_, rfl, ?_⟩; refine zb (zq (yaw (v := (.bool (r39))) (congrArg Value.bool (decide_eq_true hp12)) rfl) (zq (zm (.bool (r39))) ?_)); by_cases hp13 : r39 = true
              · replace h := h.1 hp13; refine rl_n (yad rfl (yac rfl (congrArg Value.bool hp13))) rfl rfl rfl (yak rfl (am0) ygJ ((ydZ h (yaF _)).mono ?_)); rintro _ w62 ⟨r40, rfl, hC, h⟩; replace hS := hS.pur hC.pure; clear hC; refine ⟨_, rfl, ?_⟩; exact zb (zq (yaw (v := (.bool (r40))) (congrArg Value.bool hp13) rfl) (zq (za (.bool (r40))) (yaa (yai rfl rfl ⟨_, rfl, (hS.sel [] (by decide)), h⟩))))
              · replace h := h.2 hp13; exact rl_p (yab rfl (yac rfl (congrArg Value.bool (Bool.eq_false_iff.2 hp13))) rfl) rfl (zq (yap (v := (.bool (false))) (congrArg Value.bool (Bool.eq_false_iff.2 hp13)) rfl) (zq (za (.bool (false))) (yaa (yai rfl rfl ⟨_, rfl, (hS.sel [] (by decide)), h⟩))))
            · replace h := h.2 hp12; exact rl_p (yab rfl (yac rfl (congrArg Value.bool (decide_eq_false hp12))) rfl) rfl (rl_p (yab rfl (yac rfl (congrArg Value.bool (decide_eq_false hp12))) rfl) rfl (rl_p (yab rfl (yac rfl (congrArg Value.bool (decide_eq_false hp12))) rfl) rfl (zq (yap (v := (.bool (false))) (congrArg Value.bool (decide_eq_false hp12)) rfl) (zq (zm (.bool (false))) (rl_p (yab rfl (yac rfl rfl) rfl) rfl (zq (yap (v := (.bool (false))) rfl rfl) (zq (za (.bool (false))) (yaa (yai rfl rfl ⟨_, rfl, (hS.sel [] (by decide)), h⟩)))))))))
        refine rt_n rfl rfl rfl rfl rfl (ybg yal ?_); intro g23 w63 hN; replace hS : Sep w no O w63 (stl _ 14 (Res.box 45 g23 [(ii 0), (ii 0)])) := hS.new 14 rfl hN; clear hN; refine ⟨⟨fun _ => (yaK hE4 underlying3 rfl (Row.cell (hS.bxr 2 rfl) (i := 0) rfl)), ⟨fun _ => (yaz (vs := [(ii d), (.slice Ad ld cd)]) hE3 underlying24 rfl yan ⟨Row.cell (hS.bxr 0 rfl) (i := 0) rfl, Row.cell (hS.bxr 0 rfl) (i := 1) rfl, trivial⟩), trivial⟩⟩, ?_⟩; refine rt_n rfl rfl rfl rfl rfl (yak rfl (am1 rfl) ygp ((ydA h (yaF _) (hS.rdr 1 rfl)).mono ?_)); rintro _ w64 ⟨r41, Ar15, lr15, cr15, rfl, hC, h⟩; replace hS := hS.call1 (hC.widen (ybv (yat (fP (fI .i64) (fI .i64)) _ _ _ _ _) ybE) hS.blt) 15 0 rfl; clear hC; refine ⟨_, rfl, ?_⟩; refine ⟨⟨fun _ => (yaK hE4 underlying3 rfl (Row.cell (hS.bxr 2 rfl) (i := 0) rfl)), ⟨fun hh => Bool.noConfusion (show false = true from hh), trivial⟩⟩, ?_⟩; obtain ⟨hx11, h⟩ := h; refine rt_q rfl rfl rfl rfl (zi underlying46 yal (yaN (hS.rdo 15 rfl) hx11)) (rt_q rfl rfl rfl rfl (yaz (vs := [(ii ((gx r41 i.toNat).1)), (ii ((gx r41 i.toNat).2))]) rfl underlying45 rfl yal (ydN (hS.rdo 15 rfl) hx11 (fun q => yaS q))) ?_); refine rt_n0 rfl rfl rfl rfl (yaJ (b := g23) (o := 0) (cells := #[(ii ((gx r41 i.toNat).1)), (ii ((gx r41 i.toNat).2))]) rfl rfl yal rfl rfl (yaC (hS.bx 14 rfl) (Nat.le_of_ble_eq_true rfl)) ?_); intro w65 e1; replace hS := hS.bstn 14 rfl 0 [(ii ((gx r41 i.toNat).1)), (ii ((gx r41 i.toNat).2))] e1; clear e1; refine zb (rt_end (yaf (zs ?_))); obtain ⟨hx12, h⟩ := h; refine zq (yaA rfl rfl underlying45 yag hx12) (zq (zl underlying3 (Row.cell (hS.bx 14 rfl) (i := 0) rfl)) ?_); obtain ⟨hx13, h⟩ := h; refine zq (yaA rfl rfl underlying45 yag hx13) (zq (zl underlying3 (Row.cell (hS.bx 14 rfl) (i := 1) rfl)) (zq zE (yaa ?_))); by_cases hp14 : ((gx r41 i.toNat).1) = ((gx r41 i.toNat).2)
        · replace h := h.1 hp14; refine zc hp14 (zs (zn (yak rfl (am0) ygJ ((ydZ h (yaF _)).mono ?_)))); rintro _ w66 ⟨r42, rfl, hC, h⟩; replace hS := hS.pur hC.pure; clear hC; refine ⟨_, rfl, ?_⟩; exact zb (zq (za (.bool (r42))) (yaa (yai rfl rfl ⟨_, rfl, (hS.sel [] (by decide)), h⟩)))
        · replace h := h.2 hp14; refine zd hp14 (yah (zs (zq (yaz (vs := [(ii d), (.slice Ad ld cd)]) hE3 underlying24 rfl yan ⟨Row.cell (hS.bxr 0 rfl) (i := 0) rfl, Row.cell (hS.bxr 0 rfl) (i := 1) rfl, trivial⟩) (zq (yaK hE4 underlying3 rfl (Row.cell (hS.bxr 2 rfl) (i := 0) rfl)) (zn (yak rfl (am2 rfl rfl) yh0 ((ygj h (yaF _) (hS.rdr 1 rfl)).mono ?_))))))); rintro _ w67 ⟨r43, r44, r45, Ar16, lr16, cr16, rfl, hC, h⟩; replace hS := hS.call1 (hC.widen (ybv (yat (fP (fI .i64) (fP (fI .i64) (fI .i64))) _ _ _ _ _) ybE) hS.blt) 16 0 rfl; clear hC; refine ⟨_, rfl, ?_⟩; refine zb (zq (zm (.tuple #[(.agg #[(ii r43), (.slice Ar16 lr16 cr16)]), (ii r45)])) (zq (zx (.agg #[(ii r43), (.slice Ar16 lr16 cr16)])) (zq (zx (ii r45)) (zn (ybg yan ?_))))); intro g24 w68 hN; replace hS : Sep w no O w68 (stl _ 17 (Res.box 24 g24 [(ii 0), (.slice none 0 0)])) := hS.new 17 rfl hN; clear hN; refine zb (zo (yaJ (b := g24) (o := 0) (cells := #[(ii r43), (.slice Ar16 lr16 cr16)]) rfl rfl yan rfl rfl (yaC (hS.bx 17 rfl) (Nat.le_of_ble_eq_true rfl)) ?_)); intro w69 e1; replace hS := hS.bstn 17 rfl 0 [(ii r43), (.slice Ar16 lr16 cr16)] e1; clear e1; refine zb (zq (za (ii r45)) (yaa (zs (zq (yaz (vs := [(ii r43), (.slice Ar16 lr16 cr16)]) rfl underlying24 rfl yan ⟨Row.cell (hS.bx 17 rfl) (i := 0) rfl, Row.cell (hS.bx 17 rfl) (i := 1) rfl, trivial⟩) (zq (yaA rfl rfl underlying45 yag hx12) (zq (zl underlying3 (Row.cell (hS.bx 14 rfl) (i := 0) rfl)) (zq (yaA rfl rfl underlying45 yag hx13) (zq (zl underlying3 (Row.cell (hS.bx 14 rfl) (i := 1) rfl)) (zn (yak rfl (am3 rfl rfl rfl) enter_41 ((ygl h (yaF _) (hS.rdo 16 rfl)).mono ?_))))))))))); rintro _ w70 ⟨r46, r47, r48, Ar17, lr17, cr17, rfl, hC, h⟩; replace hS := hS.call1 (hC.widen (ybv (yat (fP (fI .i64) (fP (fI .i64) (fI .i64))) _ _ _ _ _) ybE) hS.blt) 18 0 rfl; clear hC; refine ⟨_, rfl, ?_⟩; refine zb (zq (zm (.tuple #[(.agg #[(ii r46), (.slice Ar17 lr17 cr17)]), (ii r48)])) (zq (zx (.agg #[(ii r46), (.slice Ar17 lr17 cr17)])) (zq (zx (ii r48)) (zn (ybg yan ?_))))); intro g25 w71 hN; replace hS : Sep w no O w71 (stl _ 19 (Res.box 24 g25 [(ii 0), (.slice none 0 0)])) := hS.new 19 rfl hN; clear hN; refine zb (zo (yaJ (b := g25) (o := 0) (cells := #[(ii r46), (.slice Ar17 lr17 cr17)]) rfl rfl yan rfl rfl (yaC (hS.bx 19 rfl) (Nat.le_of_ble_eq_true rfl)) ?_)); intro w72 e1; replace hS := hS.bstn 19 rfl 0 [(ii r46), (.slice Ar17 lr17 cr17)] e1; clear e1; refine zb (zq (za (ii r48)) (yaa (zs (zq (yaz (vs := [(ii d), (.slice Ad ld cd)]) hE3 underlying24 rfl yan ⟨Row.cell (hS.bxr 0 rfl) (i := 0) rfl, Row.cell (hS.bxr 0 rfl) (i := 1) rfl, trivial⟩) (zq (yaK hE4 underlying3 rfl (Row.cell (hS.bxr 2 rfl) (i := 0) rfl)) (zn (yak rfl (am2 rfl rfl) yhR ((ycr h (yaF _) (hS.rdr 1 rfl)).mono ?_)))))))); rintro _ w73 ⟨r49, r50, r51, Ar18, lr18, cr18, rfl, hC, h⟩; replace hS := hS.call1 (hC.widen (ybv (yat (fP (fI .i64) (fP (fI .i64) (fI .i64))) _ _ _ _ _) ybE) hS.blt) 20 0 rfl; clear hC; refine ⟨_, rfl, ?_⟩; refine zb (zq (zm (.tuple #[(.agg #[(ii r49), (.slice Ar18 lr18 cr18)]), (ii r51)])) (zq (zx (.agg #[(ii r49), (.slice Ar18 lr18 cr18)])) (zq (zx (ii r51)) (zn (ybg yan ?_))))); intro g26 w74 hN; replace hS : Sep w no O w74 (stl _ 21 (Res.box 24 g26 [(ii 0), (.slice none 0 0)])) := hS.new 21 rfl hN; clear hN; refine zb (zo (yaJ (b := g26) (o := 0) (cells := #[(ii r49), (.slice Ar18 lr18 cr18)]) rfl rfl yan rfl rfl (yaC (hS.bx 21 rfl) (Nat.le_of_ble_eq_true rfl)) ?_)); intro w75 e1; replace hS := hS.bstn 21 rfl 0 [(ii r49), (.slice Ar18 lr18 cr18)] e1; clear e1; refine zb (zq (za (ii r51)) (yaa (zs (zq (zm (ii r45)) (zq (zm (ii r48)) ?_))))); obtain ⟨hi6, h⟩ := h; refine zq (zA hi6) (zq (zm (ii r51)) ?_); obtain ⟨hi7, h⟩ := h; refine zq (zA hi7) (zq zE (zq (zm (.bool (decide (((r45 + r48) + r51) = 0)))) ?_)); by_cases hp15 : ((r45 + r48) + r51) = 0
          · replace h := h.1 hp15; refine rl_q (yad rfl (yac rfl (congrArg Value.bool (decide_eq_true hp15)))) rfl rfl (yaz (vs := [(ii r46), (.slice Ar17 lr17 cr17)]) rfl underlying24 rfl yan ⟨Row.cell (hS.bx 19 rfl) (i := 0) rfl, Row.cell (hS.bx 19 rfl) (i := 1) rfl, trivial⟩) (rl_q (yad rfl (yac rfl (congrArg Value.bool (decide_eq_true hp15)))) rfl rfl (yaz (vs := [(ii r49), (.slice Ar18 lr18 cr18)]) rfl underlying24 rfl yan ⟨Row.cell (hS.bx 21 rfl) (i := 0) rfl, Row.cell (hS.bx 21 rfl) (i := 1) rfl, trivial⟩) (rl_n (yad rfl (yac rfl (congrArg Value.bool (decide_eq_true hp15)))) rfl rfl rfl (yak rfl (am2 rfl rfl) ygq ((yep h (yaF _) (hS.rdo 18 rfl) (hS.rdo 20 rfl)).mono ?_)))); rintro _ w76 ⟨r52, rfl, hC, h⟩; replace hS := hS.pur hC.pure; clear hC; refine ⟨_, rfl, ?_⟩; refine zb (zq (yaw (v := (.bool (r52))) (congrArg Value.bool (decide_eq_true hp15)) rfl) (zq (zm (.bool (r52))) ?_)); by_cases hp16 : r52 = true
            · replace h := h.1 hp16; refine rl_n (yad rfl (yac rfl (congrArg Value.bool hp16))) rfl rfl rfl (yak rfl (am0) ygJ ((ydZ h (yaF _)).mono ?_)); rintro _ w77 ⟨r53, rfl, hC, h⟩; replace hS := hS.pur hC.pure; clear hC; refine ⟨_, rfl, ?_⟩; exact zb (zq (yaw (v := (.bool (r53))) (congrArg Value.bool hp16) rfl) (zq (za (.bool (r53))) (yaa (yai rfl rfl ⟨_, rfl, (hS.sel [] (by decide)), h⟩))))
            · replace h := h.2 hp16; exact rl_p (yab rfl (yac rfl (congrArg Value.bool (Bool.eq_false_iff.2 hp16))) rfl) rfl (zq (yap (v := (.bool (false))) (congrArg Value.bool (Bool.eq_false_iff.2 hp16)) rfl) (zq (za (.bool (false))) (yaa (yai rfl rfl ⟨_, rfl, (hS.sel [] (by decide)), h⟩))))
          · replace h := h.2 hp15; exact rl_p (yab rfl (yac rfl (congrArg Value.bool (decide_eq_false hp15))) rfl) rfl (rl_p (yab rfl (yac rfl (congrArg Value.bool (decide_eq_false hp15))) rfl) rfl (rl_p (yab rfl (yac rfl (congrArg Value.bool (decide_eq_false hp15))) rfl) rfl (zq (yap (v := (.bool (false))) (congrArg Value.bool (decide_eq_false hp15)) rfl) (zq (zm (.bool (false))) (rl_p (yab rfl (yac rfl rfl) rfl) rfl (zq (yap (v := (.bool (false))) rfl rfl) (zq (za (.bool (false))) (yaa (yai rfl rfl ⟨_, rfl, (hS.sel [] (by decide)), h⟩)))))))))
    clear hJ; intro j2; refine zr (zq (zm (ii r3)) (zq zN (zq (zm (.bool (!(decide (r3 = 0))))) ?_))); by_cases hp17 : r3 = 0
    · replace h := h.1 hp17; refine rl_q (yad rfl (yac rfl (congrArg Value.bool (congrArg Bool.not (decide_eq_true hp17))))) rfl rfl (zm (ii r6)) (rl_q (yad rfl (yac rfl (congrArg Value.bool (congrArg Bool.not (decide_eq_true hp17))))) rfl rfl zN (zq (yap (v := (.bool (!(decide (r6 = 0))))) (congrArg Value.bool (congrArg Bool.not (decide_eq_true hp17))) rfl) (zq (zm (.bool (!(decide (r6 = 0))))) ?_))); by_cases hp18 : r6 = 0
      · replace h := h.1 hp18; refine rl_q (yad rfl (yac rfl (congrArg Value.bool (congrArg Bool.not (decide_eq_true hp18))))) rfl rfl (zl underlying27 (Row.cell (hS.bx 6 rfl) (i := 0) rfl)) (rl_q (yad rfl (yac rfl (congrArg Value.bool (congrArg Bool.not (decide_eq_true hp18))))) rfl rfl (yay (n := r.length) rfl underlying27 (yav (hS.rdo 4 rfl))) (rl_q (yad rfl (yac rfl (congrArg Value.bool (congrArg Bool.not (decide_eq_true hp18))))) rfl rfl (yaK hE5 underlying3 rfl (Row.cell (hS.bx 3 rfl) (i := 0) rfl)) (rl_q (yad rfl (yac rfl (congrArg Value.bool (congrArg Bool.not (decide_eq_true hp18))))) rfl rfl (v_leq rfl rfl) (zq (yap (v := (.bool (decide (((r.length : Nat) : Int) ≤ a)))) (congrArg Value.bool (congrArg Bool.not (decide_eq_true hp18))) rfl) (zq (zm (.bool (decide (((r.length : Nat) : Int) ≤ a)))) ?_))))); by_cases hp19 : ((r.length : Nat) : Int) ≤ a
        · replace h := h.1 hp19; exact rl_p (yab rfl (yac rfl (congrArg Value.bool (decide_eq_true hp19))) rfl) rfl (rl_p (yab rfl (yac rfl (congrArg Value.bool (decide_eq_true hp19))) rfl) rfl (rl_p (yab rfl (yac rfl (congrArg Value.bool (decide_eq_true hp19))) rfl) rfl (rl_p (yab rfl (yac rfl (congrArg Value.bool (decide_eq_true hp19))) rfl) rfl (zq (yaw (v := (.bool (true))) (congrArg Value.bool (decide_eq_true hp19)) rfl) (zq (zm (.bool (true))) (rl_p (yab rfl (yac rfl rfl) rfl) rfl (rl_p (yab rfl (yac rfl rfl) rfl) rfl (rl_p (yab rfl (yac rfl rfl) rfl) rfl (rl_p (yab rfl (yac rfl rfl) rfl) rfl (zq (yaw (v := (.bool (true))) rfl rfl) (zq (zm (.bool (true))) (rl_p (yab rfl (yac rfl rfl) rfl) rfl (rl_p (yab rfl (yac rfl rfl) rfl) rfl (rl_p (yab rfl (yac rfl rfl) rfl) rfl (rl_p (yab rfl (yac rfl rfl) rfl) rfl (zq (yaw (v := (.bool (true))) rfl rfl) (yaa (yaE rfl (zs (zq (za (.bool (false))) (yaa (yai rfl rfl ⟨_, rfl, (hS.sel [] (by decide)), h⟩))))))))))))))))))))))
        · replace h := h.2 hp19; refine rl_q (yad rfl (yac rfl (congrArg Value.bool (decide_eq_false hp19)))) rfl rfl (zl underlying27 (Row.cell (hS.bx 7 rfl) (i := 0) rfl)) (rl_q (yad rfl (yac rfl (congrArg Value.bool (decide_eq_false hp19)))) rfl rfl (yay (n := r2.length) rfl underlying27 (yav (hS.rdo 5 rfl))) (rl_q (yad rfl (yac rfl (congrArg Value.bool (decide_eq_false hp19)))) rfl rfl (yaK hE5 underlying3 rfl (Row.cell (hS.bx 3 rfl) (i := 0) rfl)) (rl_q (yad rfl (yac rfl (congrArg Value.bool (decide_eq_false hp19)))) rfl rfl (v_leq rfl rfl) (zq (yap (v := (.bool (decide (((r2.length : Nat) : Int) ≤ a)))) (congrArg Value.bool (decide_eq_false hp19)) rfl) (zq (zm (.bool (decide (((r2.length : Nat) : Int) ≤ a)))) ?_))))); by_cases hp20 : ((r2.length : Nat) : Int) ≤ a
          · replace h := h.1 hp20; exact rl_p (yab rfl (yac rfl (congrArg Value.bool (decide_eq_true hp20))) rfl) rfl (rl_p (yab rfl (yac rfl (congrArg Value.bool (decide_eq_true hp20))) rfl) rfl (rl_p (yab rfl (yac rfl (congrArg Value.bool (decide_eq_true hp20))) rfl) rfl (rl_p (yab rfl (yac rfl (congrArg Value.bool (decide_eq_true hp20))) rfl) rfl (zq (yaw (v := (.bool (true))) (congrArg Value.bool (decide_eq_true hp20)) rfl) (zq (zm (.bool (true))) (rl_p (yab rfl (yac rfl rfl) rfl) rfl (rl_p (yab rfl (yac rfl rfl) rfl) rfl (rl_p (yab rfl (yac rfl rfl) rfl) rfl (rl_p (yab rfl (yac rfl rfl) rfl) rfl (zq (yaw (v := (.bool (true))) rfl rfl) (yaa (yaE rfl (zs (zq (za (.bool (false))) (yaa (yai rfl rfl ⟨_, rfl, (hS.sel [] (by decide)), h⟩))))))))))))))))
          · replace h := h.2 hp20; refine rl_q (yad rfl (yac rfl (congrArg Value.bool (decide_eq_false hp20)))) rfl rfl (zl underlying27 (Row.cell (hS.bx 10 rfl) (i := 0) rfl)) (rl_q (yad rfl (yac rfl (congrArg Value.bool (decide_eq_false hp20)))) rfl rfl (yay (n := r4.length) rfl underlying27 (yav (hS.rdo 8 rfl))) (rl_q (yad rfl (yac rfl (congrArg Value.bool (decide_eq_false hp20)))) rfl rfl (yaK hE4 underlying3 rfl (Row.cell (hS.bx 2 rfl) (i := 0) rfl)) (rl_q (yad rfl (yac rfl (congrArg Value.bool (decide_eq_false hp20)))) rfl rfl (v_leq rfl rfl) (zq (yap (v := (.bool (decide (((r4.length : Nat) : Int) ≤ i)))) (congrArg Value.bool (decide_eq_false hp20)) rfl) (zq (zm (.bool (decide (((r4.length : Nat) : Int) ≤ i)))) ?_))))); by_cases hp21 : ((r4.length : Nat) : Int) ≤ i
            · replace h := h.1 hp21; exact rl_p (yab rfl (yac rfl (congrArg Value.bool (decide_eq_true hp21))) rfl) rfl (rl_p (yab rfl (yac rfl (congrArg Value.bool (decide_eq_true hp21))) rfl) rfl (rl_p (yab rfl (yac rfl (congrArg Value.bool (decide_eq_true hp21))) rfl) rfl (rl_p (yab rfl (yac rfl (congrArg Value.bool (decide_eq_true hp21))) rfl) rfl (zq (yaw (v := (.bool (true))) (congrArg Value.bool (decide_eq_true hp21)) rfl) (yaa (yaE rfl (zs (zq (za (.bool (false))) (yaa (yai rfl rfl ⟨_, rfl, (hS.sel [] (by decide)), h⟩))))))))))
            · replace h := h.2 hp21; refine rl_q (yad rfl (yac rfl (congrArg Value.bool (decide_eq_false hp21)))) rfl rfl (zl underlying27 (Row.cell (hS.bx 11 rfl) (i := 0) rfl)) (rl_q (yad rfl (yac rfl (congrArg Value.bool (decide_eq_false hp21)))) rfl rfl (yay (n := r5.length) rfl underlying27 (yav (hS.rdo 9 rfl))) (rl_q (yad rfl (yac rfl (congrArg Value.bool (decide_eq_false hp21)))) rfl rfl (yaK hE4 underlying3 rfl (Row.cell (hS.bx 2 rfl) (i := 0) rfl)) (rl_q (yad rfl (yac rfl (congrArg Value.bool (decide_eq_false hp21)))) rfl rfl (v_leq rfl rfl) (zq (yap (v := (.bool (decide (((r5.length : Nat) : Int) ≤ i)))) (congrArg Value.bool (decide_eq_false hp21)) rfl) (yaa ?_))))); by_cases hp22 : ((r5.length : Nat) : Int) ≤ i
              · replace h := h.1 hp22; exact zc hp22 (zs (zq (za (.bool (false))) (yaa (yai rfl rfl ⟨_, rfl, (hS.sel [] (by decide)), h⟩))))
              · replace h := h.2 hp22; exact zd hp22 (yah (j2 _ _ _ ⟨h, rfl, hE3, hE4, hE5, rfl, rfl, rfl, rfl, (hS.sel [0, 1, 2, 3, 6, 4, 7, 5, 10, 8, 11, 9] (by decide))⟩))
      · replace h := h.2 hp18; exact rl_p (yab rfl (yac rfl (congrArg Value.bool (congrArg Bool.not (decide_eq_false hp18)))) rfl) rfl (rl_p (yab rfl (yac rfl (congrArg Value.bool (congrArg Bool.not (decide_eq_false hp18)))) rfl) rfl (rl_p (yab rfl (yac rfl (congrArg Value.bool (congrArg Bool.not (decide_eq_false hp18)))) rfl) rfl (rl_p (yab rfl (yac rfl (congrArg Value.bool (congrArg Bool.not (decide_eq_false hp18)))) rfl) rfl (zq (yaw (v := (.bool (true))) (congrArg Value.bool (congrArg Bool.not (decide_eq_false hp18))) rfl) (zq (zm (.bool (true))) (rl_p (yab rfl (yac rfl rfl) rfl) rfl (rl_p (yab rfl (yac rfl rfl) rfl) rfl (rl_p (yab rfl (yac rfl rfl) rfl) rfl (rl_p (yab rfl (yac rfl rfl) rfl) rfl (zq (yaw (v := (.bool (true))) rfl rfl) (zq (zm (.bool (true))) (rl_p (yab rfl (yac rfl rfl) rfl) rfl (rl_p (yab rfl (yac rfl rfl) rfl) rfl (rl_p (yab rfl (yac rfl rfl) rfl) rfl (rl_p (yab rfl (yac rfl rfl) rfl) rfl (zq (yaw (v := (.bool (true))) rfl rfl) (zq (zm (.bool (true))) (rl_p (yab rfl (yac rfl rfl) rfl) rfl (rl_p (yab rfl (yac rfl rfl) rfl) rfl (rl_p (yab rfl (yac rfl rfl) rfl) rfl (rl_p (yab rfl (yac rfl rfl) rfl) rfl (zq (yaw (v := (.bool (true))) rfl rfl) (yaa (yaE rfl (zs (zq (za (.bool (false))) (yaa (yai rfl rfl ⟨_, rfl, (hS.sel [] (by decide)), h⟩))))))))))))))))))))))))))))
    · replace h := h.2 hp17; exact rl_p (yab rfl (yac rfl (congrArg Value.bool (congrArg Bool.not (decide_eq_false hp17)))) rfl) rfl (rl_p (yab rfl (yac rfl (congrArg Value.bool (congrArg Bool.not (decide_eq_false hp17)))) rfl) rfl (zq (yaw (v := (.bool (true))) (congrArg Value.bool (congrArg Bool.not (decide_eq_false hp17))) rfl) (zq (zm (.bool (true))) (rl_p (yab rfl (yac rfl rfl) rfl) rfl (rl_p (yab rfl (yac rfl rfl) rfl) rfl (rl_p (yab rfl (yac rfl rfl) rfl) rfl (rl_p (yab rfl (yac rfl rfl) rfl) rfl (zq (yaw (v := (.bool (true))) rfl rfl) (zq (zm (.bool (true))) (rl_p (yab rfl (yac rfl rfl) rfl) rfl (rl_p (yab rfl (yac rfl rfl) rfl) rfl (rl_p (yab rfl (yac rfl rfl) rfl) rfl (rl_p (yab rfl (yac rfl rfl) rfl) rfl (zq (yaw (v := (.bool (true))) rfl rfl) (zq (zm (.bool (true))) (rl_p (yab rfl (yac rfl rfl) rfl) rfl (rl_p (yab rfl (yac rfl rfl) rfl) rfl (rl_p (yab rfl (yac rfl rfl) rfl) rfl (rl_p (yab rfl (yac rfl rfl) rfl) rfl (zq (yaw (v := (.bool (true))) rfl rfl) (zq (zm (.bool (true))) (rl_p (yab rfl (yac rfl rfl) rfl) rfl (rl_p (yab rfl (yac rfl rfl) rfl) rfl (rl_p (yab rfl (yac rfl rfl) rfl) rfl (rl_p (yab rfl (yac rfl rfl) rfl) rfl (zq (yaw (v := (.bool (true))) rfl rfl) (yaa (yaE rfl (zs (zq (za (.bool (false))) (yaa (yai rfl rfl ⟨_, rfl, (hS.sel [] (by decide)), h⟩))))))))))))))))))))))))))))))))
  clear hJ; intro j; refine zr (zq (yaz (vs := [(ii d), (.slice Ad ld cd)]) rfl underlying24 rfl yan ⟨Row.cell (hS.bx 1 rfl) (i := 0) rfl, Row.cell (hS.bx 1 rfl) (i := 1) rfl, trivial⟩) (zq (zl underlying3 (Row.cell (hS.bx 2 rfl) (i := 0) rfl)) (zn (yak rfl (am2 rfl rfl) enter_19 ((yh6 h (yaF _) (hS.rdr 0 rfl)).mono ?_))))); rintro _ w78 ⟨r54, rfl, hC, h⟩; replace hS := hS.pur hC.pure; clear hC; refine ⟨_, rfl, ?_⟩; refine zb (zq (ygz rfl) (zq (zm (.bool (!(r54)))) ?_)); by_cases hp23 : r54 = true
  · replace h := h.1 hp23; refine rl_q (yad rfl (yac rfl (congrArg Value.bool (congrArg Bool.not hp23)))) rfl rfl (yaz (vs := [(ii d), (.slice Ad ld cd)]) rfl underlying24 rfl yan ⟨Row.cell (hS.bx 1 rfl) (i := 0) rfl, Row.cell (hS.bx 1 rfl) (i := 1) rfl, trivial⟩) (rl_q (yad rfl (yac rfl (congrArg Value.bool (congrArg Bool.not hp23)))) rfl rfl (zl underlying3 (Row.cell (hS.bx 3 rfl) (i := 0) rfl)) (rl_n (yad rfl (yac rfl (congrArg Value.bool (congrArg Bool.not hp23)))) rfl rfl rfl (yak rfl (am2 rfl rfl) enter_19 ((yh6 h (yaF _) (hS.rdr 0 rfl)).mono ?_)))); rintro _ w79 ⟨r55, rfl, hC, h⟩; replace hS := hS.pur hC.pure; clear hC; refine ⟨_, rfl, ?_⟩; refine zb (rl_q (yad rfl (yac rfl (congrArg Value.bool (congrArg Bool.not hp23)))) rfl rfl (ygz rfl) (zq (yap (v := (.bool (!(r55)))) (congrArg Value.bool (congrArg Bool.not hp23)) rfl) (zq (zm (.bool (!(r55)))) ?_))); by_cases hp24 : r55 = true
    · replace h := h.1 hp24; refine rl_q (yad rfl (yac rfl (congrArg Value.bool (congrArg Bool.not hp24)))) rfl rfl (zl underlying3 (Row.cell (hS.bx 2 rfl) (i := 0) rfl)) (rl_q (yad rfl (yac rfl (congrArg Value.bool (congrArg Bool.not hp24)))) rfl rfl (zl underlying3 (Row.cell (hS.bx 3 rfl) (i := 0) rfl)) (rl_q (yad rfl (yac rfl (congrArg Value.bool (congrArg Bool.not hp24)))) rfl rfl zE (zq (yap (v := (.bool (decide (i = a)))) (congrArg Value.bool (congrArg Bool.not hp24)) rfl) (yaa ?_)))); by_cases hp25 : i = a
      · replace h := h.1 hp25; refine zc hp25 (zs (zn (yak rfl (am0) ygJ ((ydZ h (yaF _)).mono ?_)))); rintro _ w80 ⟨r56, rfl, hC, h⟩; replace hS := hS.pur hC.pure; clear hC; refine ⟨_, rfl, ?_⟩; exact zb (zq (za (.bool (r56))) (yaa (yai rfl rfl ⟨_, rfl, (hS.sel [] (by decide)), h⟩)))
      · replace h := h.2 hp25; exact zd hp25 (yah (j _ _ _ ⟨h, rfl, rfl, rfl, rfl, (hS.sel [1, 0, 2, 3] (by decide))⟩))
    · replace h := h.2 hp24; refine rl_p (yab rfl (yac rfl (congrArg Value.bool (congrArg Bool.not (Bool.eq_false_iff.2 hp24)))) rfl) rfl (rl_p (yab rfl (yac rfl (congrArg Value.bool (congrArg Bool.not (Bool.eq_false_iff.2 hp24)))) rfl) rfl (rl_p (yab rfl (yac rfl (congrArg Value.bool (congrArg Bool.not (Bool.eq_false_iff.2 hp24)))) rfl) rfl (zq (yaw (v := (.bool (true))) (congrArg Value.bool (congrArg Bool.not (Bool.eq_false_iff.2 hp24))) rfl) (yaa (yaE rfl (zs (zn (yak rfl (am0) ygJ ((ydZ h (yaF _)).mono ?_))))))))); rintro _ w81 ⟨r57, rfl, hC, h⟩; replace hS := hS.pur hC.pure; clear hC; refine ⟨_, rfl, ?_⟩; exact zb (zq (za (.bool (r57))) (yaa (yai rfl rfl ⟨_, rfl, (hS.sel [] (by decide)), h⟩)))
  · replace h := h.2 hp23; refine rl_p (yab rfl (yac rfl (congrArg Value.bool (congrArg Bool.not (Bool.eq_false_iff.2 hp23)))) rfl) rfl (rl_p (yab rfl (yac rfl (congrArg Value.bool (congrArg Bool.not (Bool.eq_false_iff.2 hp23)))) rfl) rfl (rl_p (yab rfl (yac rfl (congrArg Value.bool (congrArg Bool.not (Bool.eq_false_iff.2 hp23)))) rfl) rfl (rl_p (yab rfl (yac rfl (congrArg Value.bool (congrArg Bool.not (Bool.eq_false_iff.2 hp23)))) rfl) rfl (zq (yaw (v := (.bool (true))) (congrArg Value.bool (congrArg Bool.not (Bool.eq_false_iff.2 hp23))) rfl) (zq (zm (.bool (true))) (rl_p (yab rfl (yac rfl rfl) rfl) rfl (rl_p (yab rfl (yac rfl rfl) rfl) rfl (rl_p (yab rfl (yac rfl rfl) rfl) rfl (zq (yaw (v := (.bool (true))) rfl rfl) (yaa (yaE rfl (zs (zn (yak rfl (am0) ygJ ((ydZ h (yaF _)).mono ?_))))))))))))))); rintro _ w82 ⟨r58, rfl, hC, h⟩; replace hS := hS.pur hC.pure; clear hC; refine ⟨_, rfl, ?_⟩; exact zb (zq (za (.bool (r58))) (yaa (yai rfl rfl ⟨_, rfl, (hS.sel [] (by decide)), h⟩)))
end Go.Proofs.Ytinoedockljfeaa

/- The law on orders: single edges deleted and contracted one after the other. -/
namespace Go.Proofs.Ytinoedockljfeaa
open Go Go.RowKit Go.Shelf Go.Proofs.Try
set_option linter.unusedVariables false
set_option linter.unusedSimpArgs false
set_option maxRecDepth 100000
theorem yh5 {d : Nat} {l m : List (Int × Int)} (h : l.Perm m) : made d l = made d m := by
  have e : cntE l = cntE m := by funext a b; unfold cntE; rw [h.countP_eq]
  have e2 : rowT d l = rowT d m := by unfold rowT; rw [e]
  unfold made tabE; rw [e2]
theorem yh4 {E : List (Int × Int)} {m : Nat} (h : m < E.length) : (gx E m :: othF E m).Perm E := by
  unfold othF
  have e : E = E.take m ++ gx E m :: E.drop (m + 1) := by
    rw [ybx h, ← List.drop_eq_getElem_cons h, List.take_append_drop]
  conv => rhs; rw [e]
  exact List.perm_middle.symm
theorem mn_comm (a b : Int) : mnF a b = mnF b a := by unfold mnF; split <;> split <;> omega
theorem mx_comm (a b : Int) : mxF a b = mxF b a := by unfold mxF; split <;> split <;> omega
theorem snd_snd (f g : Int → Int) (x : Int × Int) : sndF f (sndF g x) = sndF (fun v => f (g v)) x := by
  unfold sndF
  have h : (mnF (g x.1) (g x.2) = g x.1 ∧ mxF (g x.1) (g x.2) = g x.2) ∨ (mnF (g x.1) (g x.2) = g x.2 ∧ mxF (g x.1) (g x.2) = g x.1) := by
    unfold mnF mxF; split <;> split <;> omega
  rcases h with ⟨h1, h2⟩ | ⟨h1, h2⟩
  · simp only [h1, h2]
  · simp only [h1, h2, mn_comm (f (g x.2)), mx_comm (f (g x.2))]
section
variable {k : Nat} {es : List E3} {E : List (Int × Int)} {m : Nat}
theorem sgl_of (G : GrOk k es E) (hm : m < E.length) : sglF k es m = 0 := by
  unfold sglF
  rw [if_neg (fun z => z G.g), G.e, if_neg (by omega)]
theorem c_del (G : GrOk k es E) (hl : es.length ≤ 40) (hm : m < E.length) {R : Int → List E3 → Int → Prop} (h : R k (made k (othF E m)) 0) : yfY k es m R := by
  have hs := sgl_of G hm
  refine p_c_Delete hl (fun z => absurd hs z) fun _ => ?_
  rw [Int.toNat_natCast, Int.toNat_natCast, G.e]; exact h
theorem c_con (G : GrOk k es E) (hl : es.length ≤ 40) (hm : m < E.length) (hE : E.length ≤ 9) {R : Int → List E3 → Int → Prop} (h : R (conD k (gx E m)) (made (conD k (gx E m)) (conL E m)) 0) : ya0 k es m R := by
  have hs := sgl_of G hm
  refine yen hl (fun z => absurd hs z) (fun _ z => absurd z ?_) fun _ _ => ?_
  · rw [Int.toNat_natCast, G.e]; exact yh7 (by rw [yh1 hm]; omega)
  · rw [Int.toNat_natCast, Int.toNat_natCast, G.e]; exact h
theorem del_gr (G : GrOk k es E) (hE : E.length ≤ 9) (hm : m < E.length) : GrOk k (made k (othF E m)) (othF E m) ∧ (made k (othF E m)).length ≤ 40 := by
  have hoe : yaI (made k (othF E m)) = othF E m := ends_made (G.ok.oth m) (fun x hx => G.le x ((ygR _ _).subset hx)) (G.sorted.sublist (ygR _ _))
  have h := made_gr G.one G.few (oth_few G m)
  rw [hoe] at h
  have := yht (G.ok.oth m)
  rw [ygg hm] at this
  exact ⟨h, by omega⟩
theorem conL_le (E : List (Int × Int)) (m : Nat) : ∀ x ∈ conL E m, x.1 ≤ x.2 := fun x hx => by
  unfold conL at hx
  obtain ⟨y, _, rfl⟩ := List.mem_map.1 hx
  unfold sndF mnF mxF; simp only; split <;> omega
theorem con_gr (G : GrOk k es E) (hE : E.length ≤ 9) (hm : m < E.length) : GrOk (conD k (gx E m)) (made (conD k (gx E m)) (conL E m)) (yaI (made (conD k (gx E m)) (conL E m))) ∧ (made (conD k (gx E m)) (conL E m)).length ≤ 40 ∧
    (yaI (made (conD k (gx E m)) (conL E m))).Perm (conL E m) ∧ (yaI (made (conD k (gx E m)) (conL E m))).Pairwise leP ∧ (yaI (made (conD k (gx E m)) (conL E m))).length ≤ 9 := by
  obtain ⟨hd1, hd2, hok⟩ := conD_in G.ok G.le hm G.few
  have hp := yhA hok (conL_le E m)
  have hpl := hp.length_eq
  have hml := yht hok
  rw [yh1 hm] at hpl hml
  exact ⟨made_gr hd1 hd2 (yh7 (by rw [yh1 hm]; omega)), by omega, hp, ygU, by omega⟩
end
section
variable {k : Nat} {es : List E3} {E X : List (Int × Int)} {e f : Nat}
theorem oth_inv (he : e < E.length) (hX : E.Perm (gx E e :: gx E f :: X)) : (othF E e).Perm (gx E f :: X) := ((yh4 he).trans hX).cons_inv
theorem les_at (he : e < E.length) (hf : f < E.length) (hne : e ≠ f) : ∃ f' : Nat, gi (lesF E.length e) f = f' ∧ f' < (othF E e).length ∧ gx (othF E e) f' = gx E f := by
  have := oth_at (m := e) hf (fun z => hne z.symm)
  refine ⟨_, ?_, ?_, this⟩
  · rw [gi_lesF hf, if_neg (fun z => hne z.symm)]; split <;> omega
  · rw [ygg he]; split <;> omega
theorem oth2_inv (he : e < E.length) (hX : E.Perm (gx E e :: gx E f :: X)) {f' : Nat} (hf' : f' < (othF E e).length) (hg : gx (othF E e) f' = gx E f) : (othF (othF E e) f').Perm X := by
  have h1 := (yh4 hf').trans (oth_inv he hX)
  rw [hg] at h1
  exact h1.cons_inv
theorem sho_at (he : e < E.length) (hf : f < E.length) (hne : e ≠ f) {Y : List (Int × Int)} (hp : Y.Perm (conL E e)) (hY : Y.Pairwise leP) : ∃ f' : Nat, gi (shoF (E.map (sndF (mvF (gx E e).1 (gx E e).2))) E.length e) f = f' ∧ f' < Y.length ∧ gx Y f' = sndF (mvF (gx E e).1 (gx E e).2) (gx E f) := by
  have hp2 : Y.Perm (othF (E.map (sndF (mvF (gx E e).1 (gx E e).2))) e) := by rw [← oth_map]; exact hp
  have hl : (E.map (sndF (mvF (gx E e).1 (gx E e).2))).length = E.length := List.length_map _
  obtain ⟨h1, h2⟩ := num_at (s := f) (by rw [hl]; exact hf) (fun z => hne z.symm) hp2 hY
  rw [hl] at h1 h2
  refine ⟨_, ?_, h1, h2.trans ?_⟩
  · rw [gi_shoF hf, if_neg (fun z => hne z.symm)]
  · rw [ybx (by rw [hl]; exact hf), ybx hf]; simp
theorem con_inv (he : e < E.length) (hX : E.Perm (gx E e :: gx E f :: X)) {Y : List (Int × Int)} (hp : Y.Perm (conL E e)) {f' : Nat} (hf' : f' < Y.length) (hg : gx Y f' = sndF (mvF (gx E e).1 (gx E e).2) (gx E f)) : (othF Y f').Perm (X.map (sndF (mvF (gx E e).1 (gx E e).2))) := by
  have h1 := (yh4 hf').trans (hp.trans ((oth_inv he hX).map _))
  rw [hg, List.map_cons] at h1
  exact h1.cons_inv
variable {R : Int → List E3 → Bool → Prop}
theorem o_dd (G : GrOk k es E) (hl : es.length ≤ 40) (hE : E.length ≤ 9) (he : e < E.length) (hf : f < E.length) (hne : e ≠ f) (hX : E.Perm (gx E e :: gx E f :: X)) (h : R k (made k X) true) : yhF k es e (lesF E.length e) f R := by
  obtain ⟨f', h1, h2, h3⟩ := les_at he hf hne
  obtain ⟨G1, hl1⟩ := del_gr G hE he
  have hlen := yeh E.length e
  refine ⟨⟨by omega, by omega⟩, ?_⟩
  rw [Int.toNat_natCast, h1]
  refine c_del G hl he ⟨fun _ => c_del G1 hl1 h2 ?_, fun z => absurd rfl z⟩
  rw [yh5 (oth2_inv he hX h2 h3)]
  exact h
theorem o_dc (G : GrOk k es E) (hl : es.length ≤ 40) (hE : E.length ≤ 9) (he : e < E.length) (hf : f < E.length) (hne : e ≠ f) (hX : E.Perm (gx E e :: gx E f :: X)) (h : R (conD k (gx E f)) (made (conD k (gx E f)) (X.map (sndF (mvF (gx E f).1 (gx E f).2)))) true) : yhD k es e (lesF E.length e) f R := by
  obtain ⟨f', h1, h2, h3⟩ := les_at he hf hne
  obtain ⟨G1, hl1⟩ := del_gr G hE he
  have hlen := yeh E.length e
  have ho := ygg he
  refine ⟨⟨by omega, by omega⟩, ?_⟩
  rw [Int.toNat_natCast, h1]
  refine c_del G hl he ⟨fun _ => c_con G1 hl1 h2 (by omega) ?_, fun z => absurd rfl z⟩
  unfold conL
  rw [h3, yh5 ((oth2_inv he hX h2 h3).map _)]
  exact h
theorem o_cc (G : GrOk k es E) (hl : es.length ≤ 40) (hE : E.length ≤ 9) (he : e < E.length) (hf : f < E.length) (hne : e ≠ f) (hX : E.Perm (gx E e :: gx E f :: X)) {q : Int × Int} (hq : sndF (mvF (gx E e).1 (gx E e).2) (gx E f) = q)
    (h : R (conD (conD k (gx E e)) q) (made (conD (conD k (gx E e)) q) ((X.map (sndF (mvF (gx E e).1 (gx E e).2))).map (sndF (mvF q.1 q.2)))) true) : yhG k es e (shoF (E.map (sndF (mvF (gx E e).1 (gx E e).2))) E.length e) f R := by
  obtain ⟨G1, hl1, hp, hY, hY9⟩ := con_gr G hE he
  obtain ⟨f', h1, h2, h3⟩ := sho_at he hf hne hp hY
  have hlen := yh3 (E.map (sndF (mvF (gx E e).1 (gx E e).2))) E.length e
  refine ⟨⟨by omega, by omega⟩, ?_⟩
  rw [Int.toNat_natCast, h1]
  refine c_con G hl he hE ⟨fun _ => ?_, fun z => absurd rfl z⟩
  generalize made (conD k (gx E e)) (conL E e) = M at *
  generalize yaI M = Y at *
  refine c_con G1 hl1 h2 hY9 ?_
  have h4 := con_inv he hX hp h2 h3
  unfold conL
  rw [h3, hq, yh5 (h4.map _)]
  exact h
theorem o_cd (G : GrOk k es E) (hl : es.length ≤ 40) (hE : E.length ≤ 9) (he : e < E.length) (hf : f < E.length) (hne : e ≠ f) (hX : E.Perm (gx E e :: gx E f :: X))
    (h : R (conD k (gx E e)) (made (conD k (gx E e)) (X.map (sndF (mvF (gx E e).1 (gx E e).2)))) true) : yhE k es e (shoF (E.map (sndF (mvF (gx E e).1 (gx E e).2))) E.length e) f R := by
  obtain ⟨G1, hl1, hp, hY, hY9⟩ := con_gr G hE he
  obtain ⟨f', h1, h2, h3⟩ := sho_at he hf hne hp hY
  have hlen := yh3 (E.map (sndF (mvF (gx E e).1 (gx E e).2))) E.length e
  refine ⟨⟨by omega, by omega⟩, ?_⟩
  rw [Int.toNat_natCast, h1]
  refine c_con G hl he hE ⟨fun _ => c_del G1 hl1 h2 ?_, fun z => absurd rfl z⟩
  rw [yh5 (con_inv he hX hp h2 h3)]
  exact h
end
def finB : Bool := (List.range 6).all fun a => (List.range 6).all fun b => (List.range 6).all fun c => (List.range 6).all fun d => decide (b < a) || decide (d < c) ||
  ((List.range 6).all fun v => decide (mvF (sndF (mvF (a : Nat) (b : Nat)) ((c : Nat), (d : Nat))).1 (sndF (mvF (a : Nat) (b : Nat)) ((c : Nat), (d : Nat))).2 (mvF a b (v : Nat)) = mvF (sndF (mvF (c : Nat) (d : Nat)) ((a : Nat), (b : Nat))).1 (sndF (mvF (c : Nat) (d : Nat)) ((a : Nat), (b : Nat))).2 (mvF c d (v : Nat)))) &&
  (List.range 7).all fun k => decide (conD (conD k ((a : Nat), (b : Nat))) (sndF (mvF (a : Nat) (b : Nat)) ((c : Nat), (d : Nat))) = conD (conD k ((c : Nat), (d : Nat))) (sndF (mvF (c : Nat) (d : Nat)) ((a : Nat), (b : Nat))))
theorem finB_true : finB = true := by decide +kernel
theorem fin_all {a b c d : Nat} (ha : a < 6) (hb : b < 6) (hc : c < 6) (hd : d < 6) (hab : a ≤ b) (hcd : c ≤ d) :
    (∀ v : Nat, v < 6 → mvF (sndF (mvF (a : Nat) (b : Nat)) ((c : Nat), (d : Nat))).1 (sndF (mvF (a : Nat) (b : Nat)) ((c : Nat), (d : Nat))).2 (mvF a b (v : Nat)) = mvF (sndF (mvF (c : Nat) (d : Nat)) ((a : Nat), (b : Nat))).1 (sndF (mvF (c : Nat) (d : Nat)) ((a : Nat), (b : Nat))).2 (mvF c d (v : Nat))) ∧
    ∀ k : Nat, k < 7 → conD (conD k ((a : Nat), (b : Nat))) (sndF (mvF (a : Nat) (b : Nat)) ((c : Nat), (d : Nat))) = conD (conD k ((c : Nat), (d : Nat))) (sndF (mvF (c : Nat) (d : Nat)) ((a : Nat), (b : Nat))) := by
  have h := finB_true
  unfold finB at h
  have h := List.all_eq_true.1 h a (List.mem_range.2 ha)
  have h := List.all_eq_true.1 h b (List.mem_range.2 hb)
  have h := List.all_eq_true.1 h c (List.mem_range.2 hc)
  have h := List.all_eq_true.1 h d (List.mem_range.2 hd)
  rw [decide_eq_false (show ¬ b < a by omega), decide_eq_false (show ¬ d < c by omega), Bool.false_or, Bool.false_or, Bool.and_eq_true] at h
  exact ⟨fun v hv => of_decide_eq_true (List.all_eq_true.1 h.1 v (List.mem_range.2 hv)), fun k hk => of_decide_eq_true (List.all_eq_true.1 h.2 k (List.mem_range.2 hk))⟩
theorem cc_same {k : Nat} {E X : List (Int × Int)} {x y : Int × Int} (hk : k ≤ 6) (hx : (0 ≤ x.1 ∧ x.1 < k) ∧ 0 ≤ x.2 ∧ x.2 < k) (hy : (0 ≤ y.1 ∧ y.1 < k) ∧ 0 ≤ y.2 ∧ y.2 < k) (hxl : x.1 ≤ x.2) (hyl : y.1 ≤ y.2) (hX : yc4 k X) :
    conD (conD k x) (sndF (mvF x.1 x.2) y) = conD (conD k y) (sndF (mvF y.1 y.2) x) ∧
    (X.map (sndF (mvF x.1 x.2))).map (sndF (mvF (sndF (mvF x.1 x.2) y).1 (sndF (mvF x.1 x.2) y).2)) = (X.map (sndF (mvF y.1 y.2))).map (sndF (mvF (sndF (mvF y.1 y.2) x).1 (sndF (mvF y.1 y.2) x).2)) := by
  obtain ⟨x1, x2⟩ := x
  obtain ⟨y1, y2⟩ := y
  simp only at hx hy hxl hyl ⊢
  obtain ⟨a, rfl⟩ : ∃ n : Nat, x1 = n := ⟨x1.toNat, by omega⟩
  obtain ⟨b, rfl⟩ : ∃ n : Nat, x2 = n := ⟨x2.toNat, by omega⟩
  obtain ⟨c, rfl⟩ : ∃ n : Nat, y1 = n := ⟨y1.toNat, by omega⟩
  obtain ⟨d, rfl⟩ : ∃ n : Nat, y2 = n := ⟨y2.toNat, by omega⟩
  obtain ⟨h1, h2⟩ := fin_all (a := a) (b := b) (c := c) (d := d) (by omega) (by omega) (by omega) (by omega) (by omega) (by omega)
  refine ⟨h2 k (by omega), ?_⟩
  rw [List.map_map, List.map_map]
  refine List.map_congr_left fun z hz => ?_
  have hz := hX z hz
  rw [Function.comp_apply, Function.comp_apply, snd_snd, snd_snd]
  have e1 := h1 z.1.toNat (by omega)
  have e2 := h1 z.2.toNat (by omega)
  rw [show ((z.1.toNat : Nat) : Int) = z.1 by omega] at e1
  rw [show ((z.2.toNat : Nat) : Int) = z.2 by omega] at e2
  unfold sndF at e1 e2 ⊢
  simp only at e1 e2 ⊢
  rw [e1, e2]
theorem mv_ok {d : Nat} {x : Int × Int} (h : (0 ≤ x.1 ∧ x.1 < d) ∧ 0 ≤ x.2 ∧ x.2 < d) (hl : x.1 ≤ x.2) {X : List (Int × Int)} (hX : yc4 d X) : yc4 (conD d x) (X.map (sndF (mvF x.1 x.2))) :=
  sndF_ok hX fun v hv => mvF_in h.1.1 hl h.2.2 hv
theorem mv_one {d : Nat} {x y : Int × Int} (h : (0 ≤ x.1 ∧ x.1 < d) ∧ 0 ≤ x.2 ∧ x.2 < d) (hl : x.1 ≤ x.2) (hy : (0 ≤ y.1 ∧ y.1 < d) ∧ 0 ≤ y.2 ∧ y.2 < d) : (0 ≤ (sndF (mvF x.1 x.2) y).1 ∧ (sndF (mvF x.1 x.2) y).1 < conD d x) ∧ 0 ≤ (sndF (mvF x.1 x.2) y).2 ∧ (sndF (mvF x.1 x.2) y).2 < conD d x :=
  mv_ok h hl (X := [y]) (fun z hz => by rw [List.mem_singleton.1 hz]; exact hy) _ (by simp)
theorem snd_le (f : Int → Int) (y : Int × Int) : (sndF f y).1 ≤ (sndF f y).2 := by
  unfold sndF mnF mxF; simp only; split <;> omega
section
variable {n : Int} {es : List E3} {e f : Int}
theorem p_orders : yhM n es e f fun r => r = true := by
  refine ⟨∃ k m t, RtG n es e k m ∧ RtG n es f k t ∧ m ≠ t, ?_, yh8 (fun k m H => ⟨fun _ => yh8 (fun k' t H' => ⟨fun _ => ⟨fun _ => yeX rfl, fun hne => ?_⟩, fun q => absurd rfl q⟩) ⟨fun q => (by cases q), fun _ => yeX rfl⟩, fun q => absurd rfl q⟩) ⟨fun q => (by cases q), fun _ => yeX rfl⟩⟩
  case refine_2 =>
    have h1 := H.hn; have h2 := H'.hn; have h3 := H.he; have h4 := H'.he
    have : k' = k := by omega
    subst this
    exact ⟨k', m, t, H, H', by omega⟩
  rintro ⟨k, m, t, H, H', hne⟩
  have hs := H.sgl
  have hs' := H'.sgl
  have hfw := H.few
  have ht := H'.hm
  have het := H'.he
  obtain ⟨rfl, rfl, G, hl, hk, hE, hm⟩ := H
  subst het
  refine ydV hl (fun _ => by omega) (fun z => absurd hs z) fun _ => ?_
  refine ydV hl (fun _ => by omega) (fun z => absurd hs' z) fun _ => ?_
  rw [Int.toNat_natCast, Int.toNat_natCast]
  generalize hEE : yaI es = E at *
  have h1l := yeh E.length m
  have h2l := yh3 (E.map (sndF (mvF (gx E m).1 (gx E m).2))) E.length m
  have h3l := yeh E.length t
  have h4l := yh3 (E.map (sndF (mvF (gx E t).1 (gx E t).2))) E.length t
  refine ⟨True, fun _ => ?_, ⟨fun _ => ⟨fun _ => ⟨fun z => by omega, fun _ => ⟨fun z => by omega, fun _ => ⟨fun z => by omega, fun _ => ⟨fun z => by omega, fun _ => trivial⟩⟩⟩⟩, fun z => absurd rfl z⟩, fun z => absurd rfl z⟩⟩
  have hgm : gx E m ∈ E := by rw [ybx hm]; exact List.getElem_mem hm
  have hgt : gx E t ∈ E := by rw [ybx ht]; exact List.getElem_mem ht
  obtain ⟨f0, _, hf0, hf1⟩ := les_at hm ht hne
  have hX : E.Perm (gx E m :: gx E t :: othF (othF E m) f0) := by
    refine (yh4 hm).symm.trans (List.Perm.cons _ ?_)
    rw [← hf1]; exact (yh4 hf0).symm
  generalize othF (othF E m) f0 = X at hX
  have hX' : E.Perm (gx E t :: gx E m :: X) := hX.trans (List.Perm.swap _ _ _)
  have hXok : yc4 k X := fun z hz => G.ok z (hX.mem_iff.2 (by simp [hz]))
  have hXl : X.length ≤ 9 := by have := hX.length_eq; simp at this; omega
  obtain ⟨cc1, cc2⟩ := cc_same (E := E) hk (G.ok _ hgm) (G.ok _ hgt) (G.le _ hgm) (G.le _ hgt) hXok
  have hmv : ∀ x : Int × Int, x ∈ E → yc4 (conD k x) (X.map (sndF (mvF x.1 x.2))) := fun x hx => by
    have h := G.ok x hx
    exact sndF_ok hXok fun v hv => mvF_in h.1.1 (G.le x hx) h.2.2 hv
  refine ⟨fun q v => Cnt 3 (fun _ => True) q v, Cnt.start trivial, ?_⟩
  rintro q _ ⟨i, rfl, rfl, hi, _⟩
  refine ⟨fun hlt => ?_, fun hge => ?_⟩
  · have hlt : i < 3 := by simp at hlt; omega
    refine ⟨⟨by omega, by simp; omega⟩, fun z => ?_, fun z => ?_, fun z => ?_⟩
    · refine ⟨⟨by decide, by decide⟩, o_dd G hl hE hm ht hne hX ⟨⟨by decide, by decide⟩, o_dd G hl hE ht hm (fun z => hne z.symm) hX' ⟨fun _ => ⟨fun _ => ygA ?_ rfl ⟨fun _ => Cnt.next hlt (by omega) trivial, fun q => absurd rfl q⟩, fun q => absurd rfl q⟩, fun q => absurd rfl q⟩⟩⟩
      have := yht hXok; omega
    · refine ⟨⟨by decide, by decide⟩, o_cc G hl hE hm ht hne hX rfl ⟨⟨by decide, by decide⟩, o_cc G hl hE ht hm (fun z => hne z.symm) hX' rfl ?_⟩⟩
      rw [cc1, cc2]
      refine ⟨fun _ => ⟨fun _ => ygA ?_ rfl ⟨fun _ => Cnt.next hlt (by omega) trivial, fun q => absurd rfl q⟩, fun q => absurd rfl q⟩, fun q => absurd rfl q⟩
      have h1 := mv_ok (mv_one (G.ok _ hgt) (G.le _ hgt) (G.ok _ hgm)) (snd_le _ _) (mv_ok (G.ok _ hgt) (G.le _ hgt) hXok)
      have := yht h1
      rw [List.length_map, List.length_map] at this
      omega
    · refine ⟨⟨by decide, by decide⟩, o_dc G hl hE hm ht hne hX ⟨⟨by decide, by decide⟩, o_cd G hl hE ht hm (fun z => hne z.symm) hX' ⟨fun _ => ⟨fun _ => ygA ?_ rfl ⟨fun _ => Cnt.next hlt (by omega) trivial, fun q => absurd rfl q⟩, fun q => absurd rfl q⟩, fun q => absurd rfl q⟩⟩⟩
      have := yht (hmv _ hgt)
      rw [List.length_map] at this; omega
  · have hgx := G.ok _ hgm
    have hlx := G.le _ hgm
    obtain ⟨G1, hl1⟩ := del_gr G hE hm
    obtain ⟨_, hl2, _⟩ := con_gr G hE hm
    refine p_ends8 G (by omega) ⟨⟨by omega, by omega⟩, ⟨by decide, by decide⟩, ⟨by decide, by decide⟩, fun _ => yeX rfl, fun z => ?_⟩
    simp only [Int.toNat_natCast] at z ⊢
    refine c_del G hl hm ?_
    have e1 : mrgF k (made k (othF E m)) (gx E m).1 (gx E m).2 = 0 := by
      unfold mrgF
      rw [if_neg (fun q => q G1.g), if_neg (by omega), if_neg z]
    have e2 : mrgL (made k (othF E m)) (gx E m).1 (gx E m).2 = conL E m := by
      unfold mrgL conL
      rw [G1.e, (ygQ hlx).1, (ygQ hlx).2]
    have e3 : conD k (gx E m) = k - 1 := by unfold conD; rw [if_neg z]
    refine ygB hl1 (fun q => absurd e1 q) (fun _ q => absurd q ?_) fun _ _ => ?_
    · rw [e2]; exact yh7 (by rw [yh1 hm]; omega)
    refine c_con G hl hm hE ?_
    rw [e2, Int.toNat_natCast, ← e3, show (k : Int) - 1 = (conD k (gx E m) : Int) by omega]
    exact ⟨⟨by omega, by omega⟩, ⟨by omega, by omega⟩, fun _ => ygA (by omega) rfl ⟨fun _ => yeX rfl, fun q => absurd rfl q⟩, fun q => absurd rfl q⟩
end
end Go.Proofs.Ytinoedockljfeaa
