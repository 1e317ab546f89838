/- Texts laid together: Cs, Ct, Cu, Cv. -/
import Derived.Test.YtinoedockljfeaaK5
/- What Singles comes to: a stable sort of few numbers; program and reference. -/
namespace Go.Proofs.Ytinoedockljfeaa
open Go Go.RowKit Go.Shelf Go.Proofs.Try
set_option linter.unusedVariables false
set_option linter.unusedSimpArgs false
theorem swap_list (P S : List Int) (x y : Int) : ((P ++ y :: x :: S).set (P.length + 1) y).set P.length x = P ++ x :: y :: S := by
  rw [List.set_append_right _ _ (by omega), show P.length + 1 - P.length = 1 by omega, List.set_append_right _ _ (Nat.le_refl _), Nat.sub_self]
  rfl
theorem gi_app (P : List Int) (x : Int) (S : List Int) : gi (P ++ x :: S) P.length = x := by
  rw [ybl (by simp)]; simp
theorem gi_app1 (P : List Int) (x y : Int) (S : List Int) : gi (P ++ y :: x :: S) (P.length + 1) = x := by
  rw [ybl (by simp)]; simp [List.getElem_append]
theorem p_insertion {data : List Int} {F : Int → Int → (Int → Prop) → Prop} {c : Int → Int → Int} {lt : Int → Int → Prop} (hl : data.length ≤ 1000) (hF : ∀ x ∈ data, ∀ y ∈ data, ∀ R' : Int → Prop, R' (c x y) → F x y R')
    (h1 : ∀ x ∈ data, ∀ y ∈ data, c x y < 0 → lt x y) (h2 : data.Pairwise fun x y => ¬ c y x < 0 → lt x y) (ht : ∀ x y z, lt x y → lt y z → lt x z) {R : List Int → Prop} (h : ∀ y : List Int, y.Perm data → y.Pairwise lt → R y) {b : Int} (hb : b = data.length) : yaG data 0 b F R := by
  subst hb
  refine ⟨⟨by decide, by decide⟩, ?_⟩
  by_cases h0 : data = []
  · subst h0
    refine ⟨fun m i d => i = 1 ∧ d = [], ⟨0, rfl, rfl⟩, ?_⟩
    rintro m i d ⟨rfl, rfl⟩
    exact ⟨fun q => by simp at q, fun _ => h [] (List.Perm.refl _) List.Pairwise.nil⟩
  have hpos : 0 < data.length := List.length_pos_iff.2 h0
  refine ⟨fun m i d2 => ∃ (k : Nat) (A : List Int), i = k ∧ 1 ≤ k ∧ k + m = data.length ∧ d2 = A ++ data.drop k ∧ A.Perm (data.take k) ∧ A.Pairwise lt, ⟨data.length - 1, 1, data.take 1, rfl, by omega, by omega, (List.take_append_drop 1 data).symm, List.Perm.refl _, ?_⟩, ?_⟩
  · cases data with
    | nil => exact absurd rfl h0
    | cons x t => simp
  rintro m i d2 ⟨k, A, rfl, hk1, hkm, rfl, hA, hAs⟩
  have hAl : A.length = k := by rw [hA.length_eq, List.length_take]; omega
  refine ⟨fun hlt => ?_, fun hge => ?_⟩
  · have hkl : k < data.length := by omega
    obtain ⟨x, hx⟩ : ∃ x, data.drop k = x :: data.drop (k + 1) := ⟨_, List.drop_eq_getElem_cons hkl⟩
    have hxm : x ∈ data := List.mem_of_mem_drop (by rw [hx]; simp)
    have hAm : ∀ y ∈ A, y ∈ data := fun y hy => List.mem_of_mem_take (hA.subset hy)
    have hbefore : ∀ y ∈ A, ¬ c x y < 0 → lt y x := fun y hy => by
      have h3 := h2
      rw [← List.take_append_drop k data, hx, List.pairwise_append] at h3
      exact h3.2.2 y (hA.subset hy) x (by simp)
    refine ⟨fun m3 j d3 => ∃ (p : Nat) (P S : List Int), j = p ∧ m3 = p ∧ P.length = p ∧ A = P ++ S ∧ d3 = P ++ x :: (S ++ data.drop (k + 1)) ∧ ∀ y ∈ S, lt x y, ⟨k, k, A, [], rfl, rfl, hAl, by simp, by rw [hx]; simp, by simp⟩, ?_⟩
    rintro m3 j d3 ⟨p, P, S, rfl, hmp, hP, hPS, rfl, hS⟩
    have hPl : P.length + S.length = k := by rw [← hAl, hPS, List.length_append]
    have hdone : (∀ y ∈ P, lt y x) → In64 ((k : Int) + 1) ∧ ∃ m5, m5 < m ∧ ∃ (k2 : Nat) (A : List Int), ((k : Int) + 1) = k2 ∧ 1 ≤ k2 ∧ k2 + m5 = data.length ∧ P ++ x :: (S ++ data.drop (k + 1)) = A ++ data.drop k2 ∧ A.Perm (data.take k2) ∧ A.Pairwise lt := by
      intro hPx
      refine ⟨⟨by omega, by omega⟩, m - 1, by omega, k + 1, P ++ x :: S, by omega, by omega, by omega, by simp, ?_, ?_⟩
      · have e1 : data.take (k + 1) = data.take k ++ [x] := by
          rw [List.take_add_one, List.getElem?_eq_getElem hkl]
          have : data[k] = x := by rw [List.drop_eq_getElem_cons hkl] at hx; exact (List.cons.inj hx).1
          rw [this]; rfl
        rw [e1]
        refine List.Perm.trans List.perm_middle ?_
        rw [← hPS]
        exact (List.perm_append_singleton x A).symm.trans (hA.append_right [x])
      · rw [hPS, List.pairwise_append] at hAs
        rw [List.pairwise_append, List.pairwise_cons]
        exact ⟨hAs.1, ⟨hS, hAs.2.1⟩, fun y hy z hz => by
          rcases List.mem_cons.1 hz with rfl | hz
          · exact hPx y hy
          · exact hAs.2.2 y hy z hz⟩
    refine ⟨0 < p ∧ ∃ P' y, P = P' ++ [y] ∧ c x y < 0, fun ⟨hp, P', y, hPy, hc⟩ => ?_, fun hp => ?_, fun hp => ?_⟩
    · subst hPy
      have hP' : P'.length = p - 1 := by rw [List.length_append, List.length_singleton] at hP; omega
      have e1 : ((p : Int) - 1).toNat = P'.length := by omega
      have e2 : ((p : Int)).toNat = P'.length + 1 := by omega
      have e3 : (P' ++ [y]) ++ x :: (S ++ data.drop (k + 1)) = P' ++ y :: x :: (S ++ data.drop (k + 1)) := by simp
      have hlen : (P' ++ y :: x :: (S ++ data.drop (k + 1))).length = P'.length + 2 + S.length + (data.length - (k + 1)) := by simp; omega
      rw [e3, e1, e2, gi_app, gi_app1, List.length_set, hlen, swap_list]
      refine ⟨⟨by omega, by omega⟩, ⟨by omega, by omega⟩, ⟨by omega, by omega⟩, ⟨by omega, by omega⟩, p - 1, by omega, p - 1, P', y :: S, by omega, rfl, hP', by rw [hPS]; simp, by simp, fun z hz => ?_⟩
      rcases List.mem_cons.1 hz with rfl | hz
      · exact h1 _ hxm _ (hAm _ (by rw [hPS]; simp)) hc
      · exact hS z hz
    · obtain ⟨P', y, hPy⟩ : ∃ P' y, P = P' ++ [y] := by
        have hne : P ≠ [] := by rintro rfl; simp at hP; omega
        exact ⟨P.dropLast, P.getLast hne, (List.dropLast_concat_getLast hne).symm⟩
      subst hPy
      have hP' : P'.length = p - 1 := by rw [List.length_append, List.length_singleton] at hP; omega
      have e1 : ((p : Int) - 1).toNat = P'.length := by omega
      have e2 : ((p : Int)).toNat = P'.length + 1 := by omega
      have e3 : (P' ++ [y]) ++ x :: (S ++ data.drop (k + 1)) = P' ++ y :: x :: (S ++ data.drop (k + 1)) := by simp
      have hlen : (P' ++ y :: x :: (S ++ data.drop (k + 1))).length = P'.length + 2 + S.length + (data.length - (k + 1)) := by simp; omega
      have hym : y ∈ data := hAm _ (by rw [hPS]; simp)
      rw [e3] at hdone ⊢
      rw [e1, e2, gi_app, gi_app1, hlen]
      refine ⟨⟨by omega, by omega⟩, ⟨by omega, by omega⟩, ⟨by omega, by omega⟩, hF x hxm y hym _ ⟨fun q => ⟨by omega, P', y, rfl, q⟩, fun q => hdone fun z hz => ?_⟩⟩
      have hyx := hbefore y (by rw [hPS]; simp) q
      rcases List.mem_append.1 hz with hz | hz
      · rw [hPS, List.pairwise_append] at hAs
        rw [List.pairwise_append] at hAs
        exact ht _ _ _ (hAs.1.2.2 z hz y (by simp)) hyx
      · rw [List.mem_singleton] at hz; subst hz; exact hyx
    · have hp0 : p = 0 := by omega
      have hPn : P = [] := List.eq_nil_of_length_eq_zero (by omega)
      subst hPn
      exact hdone fun z hz => by simp at hz
  · have e : k = data.length := by omega
    subst e
    rw [List.drop_length, List.append_nil]
    rw [List.take_length] at hA
    exact h A hA hAs
theorem p_stable {data : List Int} {F : Int → Int → (Int → Prop) → Prop} {c : Int → Int → Int} {lt : Int → Int → Prop} (hl : data.length ≤ 19) (hF : ∀ x ∈ data, ∀ y ∈ data, ∀ R' : Int → Prop, R' (c x y) → F x y R')
    (h1 : ∀ x ∈ data, ∀ y ∈ data, c x y < 0 → lt x y) (h2 : data.Pairwise fun x y => ¬ c y x < 0 → lt x y) (ht : ∀ x y z, lt x y → lt y z → lt x z) {R : List Int → Prop} (h : ∀ y : List Int, y.Perm data → y.Pairwise lt → R y) : ya5 data F R := by
  refine ⟨fun m a b d => a = 0 ∧ b = 20 ∧ d = data, ⟨0, rfl, rfl, rfl⟩, ?_⟩
  rintro m a b d ⟨rfl, rfl, rfl⟩
  refine ⟨fun q => by omega, fun _ => p_insertion (by omega) hF h1 h2 ht (fun y hy hs => ⟨fun m b => b = 20, ⟨0, rfl⟩, ?_⟩) rfl⟩
  rintro m b rfl
  exact ⟨fun q => by omega, fun _ => h y hy hs⟩
def bfF (K : List (Int × Int)) (i j : Int) : Prop := ((gx K i.toNat).1 < (gx K j.toNat).1 ∨ (gx K i.toNat).1 = (gx K j.toNat).1 ∧ (gx K i.toNat).2 < (gx K j.toNat).2) ∨ gx K i.toNat = gx K j.toNat ∧ i < j
instance (K : List (Int × Int)) (i j : Int) : Decidable (bfF K i j) := by unfold bfF; exact inferInstance
def lesF (m e : Nat) : List Int := (List.range m).map fun i => if i = e then -1 else if i < e then (i : Int) else (i : Int) - 1
def numF (K : List (Int × Int)) (e i k : Nat) : Nat := (List.range k).countP fun j => decide (j ≠ e ∧ bfF K j i)
def shoF (K : List (Int × Int)) (m e : Nat) : List Int := (List.range m).map fun i => if i = e then -1 else (numF K e i m : Int)
theorem yeh (m e : Nat) : (lesF m e).length = m := by simp [lesF]
theorem numF_succ (K : List (Int × Int)) (e i k : Nat) : numF K e i (k + 1) = numF K e i k + if k ≠ e ∧ bfF K k i then 1 else 0 := by
  unfold numF
  rw [List.range_succ, List.countP_append]
  by_cases q : k ≠ e ∧ bfF K k i
  · rw [if_pos q]; simp [q]
  · rw [if_neg q]; simp [q]
section
variable {n : Int} {es : List E3} {e : Int}
def rstF (e k : Nat) : List Int := ((List.range k).filter fun i => decide (i ≠ e)).map fun i : Nat => (i : Int)
theorem yeN (e k : Nat) : rstF e (k + 1) = rstF e k ++ if k = e then [] else [(k : Int)] := by
  unfold rstF
  rw [List.range_succ, List.filter_append, List.map_append]
  by_cases q : k = e
  · simp [q]
  · simp [q]
theorem rstF_len (e : Nat) : ∀ k, (rstF e k).length = if k ≤ e then k else k - 1
  | 0 => by simp [rstF]
  | k + 1 => by
    rw [yeN, List.length_append, rstF_len e k]
    by_cases q : k = e
    · subst q; rw [if_pos (Nat.le_refl _), if_pos rfl, if_neg (by omega)]; simp
    · rw [if_neg q]
      split
      · rw [if_pos (by omega)]; simp
      · rw [if_neg (by omega)]; simp; omega
theorem yeJ {e k : Nat} {x : Int} : x ∈ rstF e k ↔ ∃ i : Nat, x = i ∧ i < k ∧ i ≠ e := by
  unfold rstF
  simp only [List.mem_map, List.mem_filter, List.mem_range, decide_eq_true_eq]
  constructor
  · rintro ⟨i, ⟨h1, h2⟩, rfl⟩; exact ⟨i, rfl, h1, h2⟩
  · rintro ⟨i, rfl, h1, h2⟩; exact ⟨i, ⟨h1, h2⟩, rfl⟩
theorem ye2 (e k : Nat) : (rstF e k).Pairwise (· < ·) := by
  unfold rstF
  rw [List.pairwise_map]
  exact (List.pairwise_lt_range.filter _).imp fun h => by omega
theorem bfF_trans {K : List (Int × Int)} {x y z : Int} (h1 : bfF K x y) (h2 : bfF K y z) : bfF K x z := by
  unfold bfF at *
  rcases h1 with h1 | ⟨h1, h3⟩
  · rcases h2 with h2 | ⟨h2, h4⟩
    · exact .inl (by omega)
    · rw [← h2]; exact .inl h1
  · rcases h2 with h2 | ⟨h2, h4⟩
    · rw [h1]; exact .inl h2
    · exact .inr ⟨h1.trans h2, by omega⟩
theorem bfF_irr {K : List (Int × Int)} {x : Int} (h : bfF K x x) : False := by
  unfold bfF at h
  rcases h with h | ⟨_, h⟩ <;> omega
theorem cnt_sorted {K : List (Int × Int)} {y : List Int} (hs : y.Pairwise (bfF K)) {j : Nat} (hj : j < y.length) : y.countP (fun x => decide (bfF K x (gi y j))) = j := by
  have e : y = y.take j ++ gi y j :: y.drop (j + 1) := by
    rw [ybl hj, ← List.drop_eq_getElem_cons hj, List.take_append_drop]
  have h2 := hs
  rw [e, List.pairwise_append, List.pairwise_cons] at h2
  generalize hx : gi y j = x at h2 e ⊢
  have h3 : y.countP (fun z => decide (bfF K z x)) = (y.take j).countP (fun z => decide (bfF K z x)) + (x :: y.drop (j + 1)).countP (fun z => decide (bfF K z x)) := by
    conv => lhs; rw [e]
    exact List.countP_append
  rw [h3]
  have a1 : (y.take j).countP (fun z => decide (bfF K z x)) = j := by
    have : (y.take j).countP (fun z => decide (bfF K z x)) = (y.take j).length := List.countP_eq_length.2 fun z hz => decide_eq_true (h2.2.2 z hz x (by simp))
    rw [this, List.length_take]; omega
  have a2 : (x :: y.drop (j + 1)).countP (fun z => decide (bfF K z x)) = 0 := by
    rw [List.countP_eq_zero]
    intro z hz hb
    have hb := of_decide_eq_true hb
    rcases List.mem_cons.1 hz with rfl | hz
    · exact bfF_irr hb
    · exact bfF_irr (bfF_trans hb (h2.2.1.1 z hz))
  rw [a1, a2, Nat.add_zero]
theorem num_rst (K : List (Int × Int)) (e i k : Nat) : numF K e i k = (rstF e k).countP fun x => decide (bfF K x i) := by
  induction k with
  | zero => rfl
  | succ k ih =>
    rw [numF_succ, yeN, List.countP_append, ← ih]
    congr 1
    by_cases q : k = e
    · rw [if_pos q, if_neg (fun z => z.1 q)]; rfl
    · rw [if_neg q]
      by_cases q2 : bfF K k i
      · rw [if_pos ⟨q, q2⟩]; simp [q2]
      · rw [if_neg (fun z => q2 z.2)]; simp [q2]
theorem ydV (hl : es.length ≤ 40) (hsm : yaZ n es = 0 → (yaI es).length ≤ 20) {R : List Int → List Int → Int → Prop} (he : sglF n es e ≠ 0 → R [] [] (sglF n es e))
    (h : sglF n es e = 0 → R (lesF (yaI es).length e.toNat) (shoF ((yaI es).map (sndF (mvF (gx (yaI es) e.toNat).1 (gx (yaI es) e.toNat).2))) (yaI es).length e.toNat) 0) : ybe n es e R := by
  refine ybX (by omega) (fun q => ⟨fun q2 => absurd q2 q, fun _ => he q⟩) fun q => ⟨fun _ => ?_, fun q2 => absurd rfl q2⟩
  replace h := h q
  clear he
  obtain ⟨q1, q2, q3⟩ := ydb q
  obtain ⟨k, rfl, G⟩ := yga q1
  obtain ⟨e, rfl⟩ : ∃ m : Nat, e = m := ⟨e.toNat, by omega⟩
  replace hsm := hsm q1
  have hlen := G.len
  have hee : e < (yaI es).length := by omega
  rw [Int.toNat_natCast] at h
  generalize hEE : yaI es = E at *
  have hxl := G.le (gx E e) (by rw [ybx hee]; exact List.getElem_mem hee)
  have hx := gx_ok G.ok hee
  rw [Int.toNat_natCast]
  refine ⟨⟨by omega, by omega⟩, by decide, by decide, ?_⟩
  unfold yaB
  rw [(mn_id hxl).1, (mn_id hxl).2]
  have hk := G.few
  refine ydx (by omega) (fun y hy R' => by
    have := G.ok y hy
    exact ⟨fun z => ycV (by omega) z, fun z => ycV (by omega) z⟩) ?_
  generalize hK : E.map (sndF (mvF (gx E e).1 (gx E e).2)) = K at h ⊢
  have hKl : K.length = E.length := by rw [← hK, List.length_map]
  refine ⟨fun v v2 => v = List.replicate E.length 0 ∧ v2 = List.replicate E.length 0, ?_, ⟨⟨by omega, by omega⟩, by rw [Int.toNat_natCast]; exact ⟨rfl, rfl⟩⟩, ⟨by omega, by omega⟩, by rw [Int.toNat_natCast]; exact ⟨rfl, rfl⟩⟩
  rintro v v2 ⟨rfl, rfl⟩
  refine ⟨fun q v3 v4 v5 => Cnt E.length (fun i => v3 = rstF e i ∧ v5.length = E.length ∧ ∀ t, t < i → t ≠ e → gi v5 t = if t < e then (t : Int) else (t : Int) - 1) q v4, Cnt.start ⟨rfl, by simp, fun t ht => by omega⟩, ?_⟩
  rintro q v3 _ v5 ⟨i, rfl, rfl, hi, rfl, h5l, h5⟩
  simp only [Int.toNat_natCast]
  have hrs := yeN e i
  have hrl := rstF_len e i
  refine ⟨fun hlt => ⟨fun z => Cnt.next (by omega) (by omega) ⟨?_, h5l, fun t ht hne => h5 t (by omega) hne⟩, fun z => ⟨⟨by omega, by omega⟩, by rw [hrl]; split <;> omega, Cnt.next (by omega) (by omega) ⟨?_, by rw [List.length_set]; exact h5l, fun t ht hne => ?_⟩⟩⟩, fun hge => ?_⟩
  · rw [hrs, if_pos (by omega), List.append_nil]
  · rw [hrs, if_neg (by omega)]
  · rw [ydQ (by omega)]
    by_cases z2 : t = i
    · subst z2
      rw [if_pos rfl, hrl]
      split
      · rw [if_pos (by omega)]
      · rw [if_neg (by omega)]; omega
    · rw [if_neg z2]; exact h5 t (by omega) hne
  · have ei : i = E.length := by omega
    subst ei
    rw [if_neg (by omega)] at hrl
    refine p_stable (lt := bfF K) (c := fun x y => yc6 (gx K x.toNat).1 (gx K x.toNat).2 (gx K y.toNat).1 (gx K y.toNat).2) (by omega) (fun x hx y hy R' hR => ?_) (fun x hx y hy hc => .inl (ycF.1 hc)) ?_ (fun x y z => bfF_trans) fun y hyp hys => ?_
    · obtain ⟨i1, rfl, i2, _⟩ := yeJ.1 hx
      obtain ⟨j1, rfl, j2, _⟩ := yeJ.1 hy
      simp only [Int.toNat_natCast] at hR
      refine ⟨⟨by omega, by omega⟩, by decide, ⟨by omega, by omega⟩, by decide, ?_⟩
      simp only [Int.toNat_natCast]
      exact ycH (ycH (p_cmp_Or2 hR))
    · refine (ye2 e E.length).imp fun {a b} hab hc => ?_
      rw [ycF] at hc
      unfold bfF
      by_cases z : (gx K a.toNat).1 < (gx K b.toNat).1 ∨ (gx K a.toNat).1 = (gx K b.toNat).1 ∧ (gx K a.toNat).2 < (gx K b.toNat).2
      · exact .inl z
      · exact .inr ⟨Prod.ext (by omega) (by omega), hab⟩
    · have hyl : y.length = E.length - 1 := by rw [hyp.length_eq, hrl]
      have hyd : y.Nodup := hyp.nodup_iff.2 ((ye2 e E.length).imp fun h => by omega)
      have hyi : ∀ j, j < y.length → ∃ t : Nat, gi y j = t ∧ t < E.length ∧ t ≠ e := fun j hj => yeJ.1 (hyp.subset (gi_mem hj))
      refine ⟨fun q v6 v7 => Cnt y.length (fun j => v7.length = E.length ∧ ∀ t, t < j → gi v7 (gi y t).toNat = (t : Int)) q v6, Cnt.start ⟨by simp, fun t ht => by omega⟩, ?_⟩
      rintro q _ v7 ⟨j, rfl, rfl, hj, h7l, h7⟩
      simp only [Int.toNat_natCast]
      refine ⟨fun hlt => ?_, fun hge => ?_⟩
      · have hjl : j < y.length := by omega
        obtain ⟨t, ht1, ht2, _⟩ := hyi j hjl
        refine ⟨⟨by omega, by omega⟩, ⟨by omega, by omega⟩, Cnt.next hjl (by omega) ⟨by rw [List.length_set]; exact h7l, fun s hs => ?_⟩⟩
        obtain ⟨u, hu1, hu2, _⟩ := hyi s (by omega)
        rw [ydQ (by omega)]
        by_cases z : s = j
        · subst z; rw [if_pos rfl]
        · have : gi y s ≠ gi y j := fun w => by
            have h9 := List.pairwise_iff_getElem.1 hys s j (by omega) hjl (by omega)
            rw [← ybl (by omega), ← ybl hjl, w] at h9
            exact bfF_irr h9
          rw [if_neg (by omega)]; exact h7 s (by omega)
      · have ej : j = y.length := by omega
        subst ej
        refine ⟨⟨by omega, by omega⟩, ⟨by omega, by omega⟩, ?_⟩
        have e1 : v5.set e (-1) = lesF E.length e := gi_ext (by rw [List.length_set, h5l, yeh]) fun t ht => by
          rw [List.length_set] at ht
          rw [ydQ (by omega), ybl (l := lesF E.length e) (by rw [yeh]; omega)]
          simp only [lesF, List.getElem_map, List.getElem_range]
          by_cases z : t = e
          · rw [if_pos z, if_pos z]
          · rw [if_neg z, if_neg z]; exact h5 t (by omega) z
        have e2 : v7.set e (-1) = shoF K E.length e := gi_ext (by rw [List.length_set, h7l]; simp [shoF]) fun t ht => by
          rw [List.length_set] at ht
          rw [ydQ (by omega), ybl (l := shoF K E.length e) (by simp [shoF]; omega)]
          simp only [shoF, List.getElem_map, List.getElem_range]
          by_cases z : t = e
          · rw [if_pos z, if_pos z]
          · rw [if_neg z, if_neg z]
            have hty : (t : Int) ∈ y := hyp.symm.subset (yeJ.2 ⟨t, rfl, by omega, z⟩)
            obtain ⟨s, hs, hst⟩ := List.mem_iff_getElem.1 hty
            have hgs : gi y s = (t : Int) := by rw [ybl hs]; exact hst
            have h8 := h7 s hs
            rw [hgs, Int.toNat_natCast] at h8
            rw [h8, num_rst]
            have h9 := cnt_sorted hys hs
            rw [hgs, hyp.countP_eq] at h9
            rw [h9]
        rw [e1, e2]; exact h
end
end Go.Proofs.Ytinoedockljfeaa

/- The laws on contract: the program's answers are the reference's. -/
namespace Go.Proofs.Ytinoedockljfeaa
open Go Go.RowKit Go.Shelf Go.Proofs.Try
set_option linter.unusedVariables false
set_option linter.unusedSimpArgs false
theorem few_len {l : List (Int × Int)} (h : l.length ≤ 50) : ¬ Many l := fun ⟨a, b, q⟩ => by have := yfJ l a b; omega
theorem few_of {n : Int} {es : List E3} (h : smallF n es 6 9 = true) : es.length ≤ 40 ∧ (yaZ n es = 0 → n ≤ 6 ∧ (yaI es).length ≤ 9) := by
  unfold smallF at h
  obtain ⟨h1, h2⟩ := of_decide_eq_true h
  refine ⟨h1, fun q2 => ?_⟩
  have h2 := h2 q2
  obtain ⟨k, rfl, G⟩ := yga q2
  rw [G.size] at h2
  omega
theorem p_tri {R : Int → List E3 → Prop} (h : R 3 [(0, 1, 1), (0, 2, 1), (1, 2, 1)]) : ybi R := h
theorem aw_contract {R : Int → List E3 → Int → Prop} (h : R 2 [(0, 1, 2)] 0) : ya0 3 [(0, 1, 1), (0, 2, 1), (1, 2, 1)] 0 R := by
  refine yen (by decide) (fun q => absurd (by decide) q) (fun _ q => absurd q (few_len (by decide))) fun _ _ => ?_
  have key : ∀ x y, x = 2 → y = [(0, 1, 2)] → R x y 0 := by rintro _ _ rfl rfl; exact h
  exact key _ _ (by decide) (by decide)
theorem aw_contract2 {R : Int → List E3 → Int → Prop} (h : R 1 [(0, 0, 1)] 0) : ya0 2 [(0, 1, 2)] 0 R := by
  refine yen (by decide) (fun q => absurd (by decide) q) (fun _ q => absurd q (few_len (by decide))) fun _ _ => ?_
  have key : ∀ x y, x = 1 → y = [(0, 0, 1)] → R x y 0 := by rintro _ _ rfl rfl; exact h
  exact key _ _ (by decide) (by decide)
theorem aw_vertices {R : List Int → Int → Prop} (h : R [0, 0, 1] 0) : ybn 3 [(0, 1, 1), (0, 2, 1), (1, 2, 1)] 0 R := by
  refine ygc (by decide) (fun q => absurd (by decide) q) fun _ => ?_
  have key : ∀ x, x = [0, 0, 1] → R x 0 := by rintro _ rfl; exact h
  exact key _ (by decide)
theorem aw_singles {R : List Int → List Int → Int → Prop} (h : ∀ l, R l [-1, 0, 1] 0) : ybe 3 [(0, 1, 1), (0, 2, 1), (1, 2, 1)] 0 R := by
  refine ydV (by decide) (fun _ => by decide) (fun q => absurd (by decide) q) fun _ => ?_
  have key : ∀ x l, x = [-1, 0, 1] → R l x 0 := by rintro _ l rfl; exact h l
  exact key _ _ (by decide)
def fineG : List E3 := [(0, 3, 1), (0, 4, 1), (1, 3, 1), (1, 5, 1), (2, 4, 1), (2, 5, 1)]
theorem aw_subdivide {R : Int → List E3 → Int → Prop} (h : R 6 fineG 0) : ybj 3 [(0, 1, 1), (0, 2, 1), (1, 2, 1)] 2 R := by
  refine yfw (by decide) (fun q => absurd (by decide) q) fun _ => ?_
  have key : ∀ x y, x = 6 → y = fineG → R x y 0 := by rintro _ _ rfl rfl; exact h
  exact key _ _ (by decide) (by decide)
theorem aw_collect {R : List Int → Int → Prop} (h : R [3, 3] 0) : ybt 3 [(0, 1, 1), (0, 2, 1), (1, 2, 1)] 0 [1, 2, 3] R := by
  refine yfT (by decide) (by decide) (fun q => absurd (by decide) q) (fun _ q => absurd (by decide) q) fun _ _ => ⟨fun _ => ?_, fun q => absurd (by decide) q⟩
  have key : ∀ x, x = [3, 3] → R x 0 := by rintro _ rfl; exact h
  exact key _ (by decide)
theorem ygA {n : Int} {a b : List E3} {R : Bool → Prop} (hl : a.length ≤ 1000000000) (e : a = b) (h : R true) : ycN n a n b R := by
  subst e
  refine ⟨True, fun _ => ⟨Cnt a.length fun _ => True, Cnt.start trivial, ?_⟩, fun _ => ⟨fun _ => trivial, fun q => absurd rfl q⟩, fun q => absurd rfl q⟩
  rintro m _ ⟨k, rfl, rfl, hk, -⟩
  exact ⟨fun hlt => ⟨⟨by omega, by omega⟩, ⟨by omega, by omega⟩, fun _ => Cnt.next (by omega) (by omega) trivial, fun q => absurd rfl q⟩, fun _ => h⟩
theorem p_sameEnds {a b : List (Int × Int)} {R : Bool → Prop} (hl : a.length ≤ 1000000000) (e : a = b) (h : R true) : yci a b R := by
  subst e
  refine ⟨fun _ => ⟨Cnt a.length fun _ => True, Cnt.start trivial, ?_⟩, fun q => absurd rfl q⟩
  rintro m _ ⟨k, rfl, rfl, hk, -⟩
  exact ⟨fun hlt => ⟨⟨by omega, by omega⟩, ⟨by omega, by omega⟩, fun _ => Cnt.next (by omega) (by omega) trivial, fun q => absurd rfl q⟩, fun _ => h⟩
theorem yeX {R : Bool → Prop} (h : R true) : ycd R := by
  refine p_tri (aw_contract (p_tri (aw_vertices (p_tri (aw_singles fun l => aw_contract2 (p_tri (aw_subdivide (p_tri (aw_collect (yds (es := fineG) (by decide) (fun q => absurd (by decide) q) fun _ => ?_))))))))))
  refine ⟨⟨by decide, by decide⟩, ⟨by decide, by decide⟩, ⟨by decide, by decide⟩, ⟨by decide, by decide⟩, ⟨by decide, by decide⟩, ⟨by decide, by decide⟩, fun _ => ?_, fun q => absurd (by decide) q⟩
  refine ygA (by decide) rfl ⟨fun _ => ycX (by decide) ?_, fun q => absurd rfl q⟩
  rw [decide_eq_true (rfl : ([0, 0, 1] : List Int) = [0, 0, 1])]
  refine ⟨fun _ => ycX (by decide) ?_, fun q => absurd rfl q⟩
  rw [decide_eq_true (rfl : ([-1, 0, 1] : List Int) = [-1, 0, 1])]
  refine ⟨fun _ => ygA (by decide) rfl ⟨fun _ => p_sameEnds (by decide) (by decide) ⟨fun _ => ydq (by decide) ?_, fun q => absurd rfl q⟩, fun q => absurd rfl q⟩, fun q => absurd rfl q⟩
  rw [decide_eq_true (rfl : ([3, 3] : List Int) = [3, 3])]
  exact h
end Go.Proofs.Ytinoedockljfeaa

/- The law on what Delete, Contract, Vertices and Merge change. -/
namespace Go.Proofs.Ytinoedockljfeaa
open Go Go.RowKit Go.Shelf Go.Proofs.Try
set_option linter.unusedVariables false
set_option linter.unusedSimpArgs false
section
variable {n : Int} {es : List E3} {e a b : Int}
end
end Go.Proofs.Ytinoedockljfeaa

/- The law on degrees: divisors keep them when they are collected or spread. -/
namespace Go.Proofs.Ytinoedockljfeaa
open Go Go.RowKit Go.Shelf Go.Proofs.Try
set_option linter.unusedVariables false
set_option linter.unusedSimpArgs false
structure RtG (n : Int) (es : List E3) (e : Int) (k m : Nat) : Prop where
  hn : n = k
  he : e = m
  G : GrOk k es (yaI es)
  hl : es.length ≤ 40
  hk : k ≤ 6
  hE : (yaI es).length ≤ 9
  hm : m < (yaI es).length
theorem p_l12_right {n : Int} {es : List E3} {e : Int} {R : Bool → Prop} (h1 : ∀ k m, RtG n es e k m → R true) (h2 : R false) : ygH n es e R := by
  refine p_r08_Few ⟨fun q => ?_, fun _ => h2⟩
  obtain ⟨hl, hs⟩ := few_of q
  refine ye7 (by omega) ⟨fun q2 => ⟨fun q3 => ?_, fun _ => h2⟩, fun _ => h2⟩
  obtain ⟨k, rfl, G⟩ := yga q2
  obtain ⟨hk, hE⟩ := hs q2
  refine p_size8 G (by omega) ?_
  by_cases q4 : e < ((yaI es).length : Int)
  · rw [decide_eq_true q4]
    exact h1 k e.toNat ⟨rfl, by omega, G, hl, by omega, hE, by omega⟩
  · rw [decide_eq_false q4]; exact h2
theorem RtG.sgl {n : Int} {es : List E3} {e : Int} {k m : Nat} (h : RtG n es e k m) : sglF n es e = 0 := by
  obtain ⟨rfl, rfl, G, hl, hk, hE, hm⟩ := h
  unfold sglF
  rw [if_neg (fun z => z G.g), if_neg (by omega)]
theorem RtG.few {n : Int} {es : List E3} {e : Int} {k m : Nat} (h : RtG n es e k m) : ¬ Many (conL (yaI es) m) := by
  apply few_len
  rw [conL_len h.hm]; have := h.hE; omega
theorem ygK {d : List Int} {R : Int → Prop} (hl : d.length ≤ 1000) (hb : ∀ k, k < d.length → -1000000000 ≤ gi d k ∧ gi d k ≤ 1000000000) (h : R (dg d)) : ygD d R := by
  refine ⟨fun m n v => Cnt d.length (fun k => n = sm k (gi d)) m v, Cnt.start rfl, ?_⟩
  rintro m n _ ⟨k, rfl, rfl, hk, rfl⟩
  simp only [Int.toNat_natCast]
  refine ⟨fun hlt => ?_, fun hge => ?_⟩
  · have h1 := sm_bound (B := 1000000000) (by omega) (n := k) (f := gi d) fun i hi => hb i (by omega)
    have h2 := hb k (by omega)
    exact ⟨⟨by omega, hlt⟩, ⟨by omega, by omega⟩, Cnt.next (by omega) (by omega) rfl⟩
  · have : k = d.length := by omega
    subst this; exact h
theorem chp_of {n : Int} {d : List Int} (hl : (d.length : Int) = n) (hb : ∀ k, k < d.length → -1048576 ≤ gi d k ∧ gi d k ≤ 1048576) : chpF n d = 0 := by
  unfold chpF
  rw [if_neg (fun z => z hl), if_neg]
  rintro ⟨x, hx, q⟩
  obtain ⟨k, hk, rfl⟩ := List.getElem_of_mem hx
  have := hb k hk
  rw [ybl hk] at this
  omega
theorem colF_bnd {m : Nat} {f : Int → Int} {d : List Int} (hd : ∀ k, k < d.length → -1000 ≤ gi d k ∧ gi d k ≤ 1000) : ∀ k, k ≤ d.length → ∀ i, i < m → -1000 * (k : Int) ≤ gi (colF m f d k) i ∧ gi (colF m f d k) i ≤ 1000 * (k : Int)
  | 0, _, i, hi => by
    have : gi (colF m f d 0) i = 0 := by rw [colF, ybl (by simpa using hi)]; simp
    omega
  | k + 1, hk, i, hi => by
    have ih := colF_bnd (m := m) (f := f) hd k (by omega)
    have h1 := hd k (by omega)
    have h0 := ih i hi
    rw [colF]
    by_cases q : (f k).toNat < m
    · rw [ydQ (by rw [yd0]; exact q)]
      have h2 := ih _ q
      split <;> omega
    · rw [List.set_eq_of_length_le (by rw [yd0]; omega)]
      omega
theorem colF_sum {m : Nat} {f : Int → Int} {d : List Int} (hf : ∀ k : Nat, k < d.length → (f k).toNat < m) : ∀ k, k ≤ d.length → sm m (gi (colF m f d k)) = sm k (gi d)
  | 0, _ => by
    rw [yaR (g := fun _ => 0), yc7]; · rfl
    intro i hi
    rw [colF, ybl (by simpa using hi)]; simp
  | k + 1, hk => by
    have ih := colF_sum hf k (by omega)
    have hv := hf k (by omega)
    rw [sm, ← ih, colF]
    rw [yaR (g := fun u => gi (colF m f d k) u + if u = (f k).toNat then gi d k else 0), ydn, yfO _ hv]
    intro u hu
    rw [ydQ (by rw [yd0]; exact hv)]
    split
    · rename_i q; rw [q]
    · omega
theorem dg_snoc (d : List Int) (x : Int) : dg (d ++ [x]) = dg d + x := by
  unfold dg
  rw [List.length_append, List.length_singleton, sm, gi_app]
  congr 1
  apply yaR
  intro i hi
  rw [ybl (by simp; omega), ybl hi, List.getElem_append_left hi]
theorem dg_zeros (d : List Int) : ∀ t, dg (d ++ List.replicate t 0) = dg d
  | 0 => by simp
  | t + 1 => by rw [List.replicate_succ', ← List.append_assoc, dg_snoc, dg_zeros d t]; omega
section
variable {n : Int} {es : List E3} {e : Int} {d : List Int}
theorem p_l12_degrees : ygG n es e d fun r => r = true := by
  refine ⟨∃ k m, RtG n es e k m ∧ d.length = k ∧ ∀ j, j < d.length → -1000 ≤ gi d j ∧ gi d j ≤ 1000, ?_, ?_⟩
  · rintro ⟨k, m, H, hdk, hb⟩
    have hs := H.sgl
    have hfw := H.few
    obtain ⟨rfl, rfl, G, hl, hk, hE, hm⟩ := H
    have hc : chpF (k : Int) d = 0 := chp_of (by omega) fun j hj => by have := hb j hj; omega
    obtain ⟨hd1, hd2, hok⟩ := conD_in G.ok G.le hm (by omega)
    have hg := gx_ok G.ok hm
    have hle : (gx (yaI es) m).1 ≤ (gx (yaI es) m).2 := G.le _ (by rw [ybx hm]; exact List.getElem_mem hm)
    have hcl : (cltF (k : Int) es (m : Int) d).length = conD k (gx (yaI es) m) := by unfold cltF; rw [yd0]; simp
    have hfin : ∀ j : Nat, j < d.length → (mvF (gx (yaI es) m).1 (gx (yaI es) m).2 j).toNat < conD k (gx (yaI es) m) := fun j hj => by
      have := mvF_in (k := k) (v := (j : Int)) hg.1.1 (hle) hg.2.2 (by omega)
      unfold conD; omega
    have hsum : dg (cltF (k : Int) es (m : Int) d) = dg d := by
      unfold dg; rw [hcl]; unfold cltF
      simp only [Int.toNat_natCast]
      rw [← hdk, colF_sum (by rw [hdk]; rw [hdk] at hfin; exact hfin) _ (Nat.le_refl _)]
    have hbc : ∀ j, j < (cltF (k : Int) es (m : Int) d).length → -1000000 ≤ gi (cltF (k : Int) es (m : Int) d) j ∧ gi (cltF (k : Int) es (m : Int) d) j ≤ 1000000 := fun j hj => by
      rw [hcl] at hj
      have := colF_bnd (m := conD k (gx (yaI es) m)) (f := mvF (gx (yaI es) m).1 (gx (yaI es) m).2) hb k (by omega) j hj
      unfold cltF; simp only [Int.toNat_natCast]; omega
    have hcc : chpF ((cltF (k : Int) es (m : Int) d).length : Int) (cltF (k : Int) es (m : Int) d) = 0 := chp_of rfl fun j hj => by have := hbc j hj; omega
    refine yfT hl (by omega) (fun z => absurd hs z) (fun _ z => absurd hc z) fun _ _ => ⟨fun _ => ?_, fun z => absurd hcc z⟩
    refine yen hl (fun z => absurd hs z) (fun _ z => absurd z hfw) fun _ _ => ?_
    simp only [Int.toNat_natCast]
    refine ⟨True, fun _ => ?_, fun _ => ⟨fun _ => ⟨fun _ => ?_, fun z => absurd (by rw [hcl]) z⟩, fun z => absurd trivial z⟩, fun z => absurd trivial z⟩
    · refine p_c_Spread hl (by omega) (fun z => ?_) (fun _ z => absurd hc z) fun z _ => ?_
      · have e1 : finF (k : Int) es 2 = 5 := by
          unfold finF at z ⊢
          rw [if_neg (fun z => z G.g), if_neg (by omega)] at z ⊢
          split
          · rfl
          · rename_i q; rw [if_neg q] at z; exact absurd rfl z
        rw [e1]
        exact ⟨fun z => absurd z (by decide), fun _ => ⟨fun _ => yeX rfl, fun z => absurd rfl z⟩⟩
      · obtain ⟨t, ht, et⟩ : ∃ t : Nat, t ≤ 100 ∧ ((2 - 1) * ((yaI es).length : Int)).toNat = t := ⟨_, by omega, rfl⟩
        rw [et]
        · refine ⟨fun _ => ⟨fun _ => ?_, fun z => absurd (by rw [List.length_append]; omega) z⟩, fun z => absurd rfl z⟩
          refine ygK (by simp; omega) (fun j hj => ?_) (ygK (by omega) (fun j hj => by have := hb j hj; omega) ⟨fun _ => ⟨⟨by omega, by rw [List.length_append]; omega⟩, ydq (by rw [List.length_take]; omega) ⟨fun _ => yeX rfl, fun q => absurd ?_ q⟩⟩, fun z => absurd (dg_zeros _ _) z⟩)
          · by_cases q : j < d.length
            · rw [ybl hj, List.getElem_append_left q, ← ybl q]; have := hb j q; omega
            · rw [ybl hj, List.getElem_append_right (by omega)]; simp
          · apply decide_eq_true
            rw [← hdk, List.take_left]
    · exact ygK (by omega) (fun j hj => by have := hbc j hj; omega) (ygK (by omega) (fun j hj => by have := hb j hj; omega) ⟨fun _ => trivial, fun z => absurd hsum z⟩)
  · refine p_l12_right (fun k m H => ⟨fun _ => ⟨fun hdk => ?_, fun _ => yeX rfl⟩, fun q => absurd rfl q⟩) ⟨fun q => (by cases q), fun _ => yeX rfl⟩
    have hk := H.hk
    have hn := H.hn
    refine ycA (p := fun x => decide (x < -1000 ∨ 1000 < x)) (by omega) (fun x R' hR' => ⟨fun z => ?_, fun z => ?_⟩) ⟨fun _ => yeX rfl, fun q => ⟨k, m, H, by omega, fun j hj => ?_⟩⟩
    · rw [decide_eq_true (Or.inl z)] at hR'; exact hR'
    · have : decide (x < -1000 ∨ 1000 < x) = decide (1000 < x) := by
        apply decide_eq_decide.2; omega
      rw [this] at hR'; exact hR'
    · apply Classical.byContradiction
      intro z
      apply q
      rw [any_gi]
      exact ⟨j, hj, decide_eq_true (by omega)⟩
end
end Go.Proofs.Ytinoedockljfeaa
