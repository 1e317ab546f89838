/- Texts laid together: Mk, Gn, Co, Cp, Cq, Cs, Ct, Cu. -/
import Derived.Test.YtinoedockljfeaaK5
/- The graph with some single edges: the reference and the program. -/
namespace Go.Proofs.Ytinoedockljfeaa
open Go Go.RowKit Go.Shelf Go.Proofs.Try
set_option linter.unusedVariables false
set_option linter.unusedSimpArgs false
def yfK (T : List (List Int)) (k j : Nat) : Option E3 := if 0 < gi (gx T k) (k + j) then some ((k : Int), ((k + j : Nat) : Int), gi (gx T k) (k + j)) else none
def rowJ (d : Nat) (T : List (List Int)) (k : Nat) : List E3 := (List.range (d - k)).filterMap (yfK T k)
def ydO (d : Nat) (T : List (List Int)) : List E3 := (List.range d).flatMap (rowJ d T)
theorem p_r08_Joined {d : Nat} (hd : d ≤ 12) {T : List (List Int)} (hT : T.length = d) (hr : ∀ a, a < d → (gx T a).length = d) {R : Int → List E3 → Prop} (h : R d (ydO d T)) : yfo d T R := by
  refine ⟨fun m a g => ∃ k : Nat, a = k ∧ k + m = d ∧ g = (List.range k).flatMap (rowJ d T) ∧ g.length ≤ k * 12, ⟨d, 0, rfl, by omega, rfl, by simp⟩, ?_⟩
  rintro m a g ⟨k, rfl, hk, rfl, hl⟩
  refine ⟨fun hlt => ?_, fun hge => ?_⟩
  · refine ⟨fun m b g4 => ∃ j : Nat, b = ((k + j : Nat) : Int) ∧ k + j + m = d ∧ g4 = (List.range k).flatMap (rowJ d T) ++ (List.range j).filterMap (yfK T k) ∧ g4.length ≤ k * 12 + j, ⟨d - k, 0, by simp, by omega, by simp, by simpa using hl⟩, ?_⟩
    rintro m' b g4 ⟨j, rfl, hj, rfl, hl4⟩
    refine ⟨fun hb => ?_, fun hb => ?_⟩
    · have hrow := hr k (by omega)
      refine ⟨⟨by omega, by omega⟩, ⟨by omega, by rw [Int.toNat_natCast, hrow]; omega⟩, ?_⟩
      rw [Int.toNat_natCast, Int.toNat_natCast]
      refine ⟨fun hp => ⟨by omega, ⟨by omega, by omega⟩, m' - 1, by omega, j + 1, by omega, by omega, ?_, ?_⟩, fun hp => ⟨⟨by omega, by omega⟩, m' - 1, by omega, j + 1, by omega, by omega, ?_, by omega⟩⟩
      · rw [List.range_succ, List.filterMap_append, List.append_assoc]
        simp [yfK, hp]
      · rw [List.length_append, List.length_singleton]; omega
      · rw [List.range_succ, List.filterMap_append]
        simp [yfK, hp]
    · have hj2 : j = d - k := by omega
      subst hj2
      refine ⟨⟨by omega, by omega⟩, m - 1, by omega, k + 1, by omega, by omega, ?_, by omega⟩
      rw [List.range_succ, List.flatMap_append]
      simp [rowJ]
  · have : k = d := by omega
    subst this
    exact h
def isE (a b : Int) (e : Int × Int) : Bool := decide (mnF e.1 e.2 = a ∧ mxF e.1 e.2 = b)
def cntE (l : List (Int × Int)) (a b : Int) : Int := (l.countP (isE a b) : Int)
def rowT (d : Nat) (l : List (Int × Int)) (a : Nat) : List Int := (List.range d).map fun (b : Nat) => cntE l (a : Int) (b : Int)
def tabE (d : Nat) (l : List (Int × Int)) : List (List Int) := (List.range d).map (rowT d l)
theorem yfs (d : Nat) (l : List (Int × Int)) (a : Nat) : (rowT d l a).length = d := by simp [rowT]
theorem yfv (d : Nat) (l : List (Int × Int)) : (tabE d l).length = d := by simp [tabE]
theorem yfn {d : Nat} {l : List (Int × Int)} {a : Nat} (h : a < d) : gx (tabE d l) a = rowT d l a := by
  rw [ybx (by rw [yfv]; exact h)]; simp [tabE]
theorem yfr {d : Nat} {l : List (Int × Int)} {a b : Nat} (h : b < d) : gi (rowT d l a) b = cntE l a b := by
  rw [ybl (by rw [yfs]; exact h)]; simp [rowT]
theorem ye8 (l : List (Int × Int)) (e : Int × Int) (a b : Int) : cntE (l ++ [e]) a b = cntE l a b + if mnF e.1 e.2 = a ∧ mxF e.1 e.2 = b then 1 else 0 := by
  unfold cntE
  rw [List.countP_append]
  by_cases h : mnF e.1 e.2 = a ∧ mxF e.1 e.2 = b
  · simp [List.countP_cons, isE, h]
  · simp [List.countP_cons, isE, h]
theorem tabE_nil (d : Nat) : tabE d [] = List.replicate d (List.replicate d 0) := by
  apply List.ext_getElem?
  intro k
  by_cases h : k < d
  · simp only [tabE, List.getElem?_map, List.getElem?_range h, Option.map_some, List.getElem?_replicate, h, if_true]
    congr 1
    apply List.ext_getElem?
    intro j
    by_cases h2 : j < d
    · simp [rowT, List.getElem?_replicate, h2, cntE]
    · simp [rowT, h2]
  · simp [tabE, h]
theorem tabE_set {d : Nat} {l : List (Int × Int)} {e : Int × Int} {a b : Nat} (ha : a < d) (hb : b < d) (h1 : mnF e.1 e.2 = a) (h2 : mxF e.1 e.2 = b) : (tabE d l).set a ((gx (tabE d l) a).set b (gi (gx (tabE d l) a) b + 1)) = tabE d (l ++ [e]) := by
  rw [yfn ha, yfr hb]
  apply List.ext_getElem?
  intro k
  rw [List.getElem?_set, yfv]
  by_cases hk : a = k
  · subst hk
    rw [if_pos rfl, if_pos ha]
    simp only [tabE, List.getElem?_map, List.getElem?_range ha, Option.map_some]
    congr 1
    apply List.ext_getElem?
    intro j
    rw [List.getElem?_set, yfs]
    by_cases hj : b = j
    · subst hj
      rw [if_pos rfl, if_pos hb]
      simp [rowT, hb, ye8, h1, h2]
    · rw [if_neg hj]
      by_cases hjd : j < d
      · have : ¬ ((b : Int) = (j : Int)) := fun q => hj (by omega)
        simp [rowT, hjd, ye8, h1, h2, this]
      · simp [rowT, hjd]
  · rw [if_neg hk]
    by_cases hkd : k < d
    · have : ¬ ((a : Int) = (k : Int)) := fun q => hk (by omega)
      simp only [tabE, List.getElem?_map, List.getElem?_range hkd, Option.map_some]
      congr 1
      unfold rowT
      refine List.map_congr_left fun j _ => ?_
      simp [ye8, h1, this]
    · simp [tabE, hkd]
theorem yfG (l : List (Int × Int)) (a b : Int) : 0 ≤ cntE l a b := Int.natCast_nonneg _
theorem yfJ (l : List (Int × Int)) (a b : Int) : cntE l a b ≤ l.length := Int.ofNat_le.2 List.countP_le_length
theorem p_r08_Make {d : Nat} (h1 : 1 ≤ d) (hd : d ≤ 12) {l : List (Int × Int)} (hl : ∀ e ∈ l, (0 ≤ e.1 ∧ e.1 < d) ∧ 0 ≤ e.2 ∧ e.2 < d) (hn : l.length ≤ 4096) (hm : ∀ a b, cntE l a b ≤ 50) {R : Int → List E3 → Int → Prop} (h : R d (ydO d (tabE d l)) 0) : yfq d l R := by
  refine ⟨True, fun _ => ⟨fun q => by omega, fun _ => ⟨by omega, ?_⟩⟩, fun q => by omega, fun _ => ⟨fun q => by omega, fun _ => trivial⟩⟩
  refine ⟨fun m v T => ∃ k : Nat, v = k ∧ k + m = l.length ∧ T = tabE d (l.take k), ⟨l.length, 0, rfl, by omega, by simp [tabE_nil]⟩, ?_⟩
  rintro m v T ⟨k, rfl, hk, rfl⟩
  refine ⟨fun hlt => ?_, fun hge => ?_⟩
  · have hkl : k < l.length := by omega
    rw [Int.toNat_natCast]
    have hx := hl (gx l k) (by rw [ybx hkl]; exact List.getElem_mem hkl)
    have htk : l.take (k + 1) = l.take k ++ [gx l k] := by rw [List.take_add_one, List.getElem?_eq_getElem hkl, ybx hkl]; rfl
    generalize gx l k = e at hx htk ⊢
    obtain ⟨a, ha⟩ : ∃ a : Nat, mnF e.1 e.2 = a := ⟨(mnF e.1 e.2).toNat, by unfold mnF; split <;> omega⟩
    obtain ⟨b, hb⟩ : ∃ b : Nat, mxF e.1 e.2 = b := ⟨(mxF e.1 e.2).toNat, by unfold mxF; split <;> omega⟩
    have had : a < d := by unfold mnF at ha; split at ha <;> omega
    have hbd : b < d := by unfold mxF at hb; split at hb <;> omega
    refine ⟨by omega, by decide, by decide, True, fun _ => ?_, fun q => by omega, fun _ => ⟨fun q => by omega, fun _ => ⟨fun q => by omega, fun _ => ⟨fun q => by omega, fun _ => trivial⟩⟩⟩⟩
    rw [ha, hb, Int.toNat_natCast, Int.toNat_natCast, yfv, yfn had, yfs, yfr hbd]
    have hc1 := yfG (l.take k) a b
    have hc2 := yfJ (l.take k) a b
    have hc3 : (l.take k).length ≤ 4096 := by rw [List.length_take]; omega
    refine ⟨⟨by omega, by omega⟩, ⟨by omega, by omega⟩, ⟨by omega, by omega⟩, ⟨by omega, by omega⟩, m - 1, by omega, k + 1, by omega, by omega, ?_⟩
    have := tabE_set (l := l.take k) had hbd ha hb
    rw [yfn had, yfr hbd] at this
    rw [htk]
    exact this
  · have hk2 : l.take k = l := List.take_of_length_le (by omega)
    rw [hk2]
    refine ⟨fun m v => ∃ k : Nat, v = k ∧ k + m = d, ⟨d, 0, rfl, by omega⟩, ?_⟩
    rintro m v ⟨a, rfl, ha⟩
    refine ⟨fun hlt => ?_, fun _ => p_r08_Joined hd (yfv d l) (fun a ha => by rw [yfn ha, yfs]) h⟩
    refine ⟨fun m v => ∃ k : Nat, v = k ∧ k + m = d, ⟨d, 0, rfl, by omega⟩, ?_⟩
    rintro m' v ⟨b, rfl, hb⟩
    refine ⟨fun hlt2 => ?_, fun _ => ⟨⟨by omega, by omega⟩, m - 1, by omega, a + 1, by omega, by omega⟩⟩
    rw [Int.toNat_natCast, Int.toNat_natCast, yfv, yfn (by omega), yfs, yfr (by omega)]
    have := hm a b
    exact ⟨⟨by omega, by omega⟩, ⟨by omega, by omega⟩, fun q => by omega, fun _ => ⟨⟨by omega, by omega⟩, m' - 1, by omega, b + 1, by omega, by omega⟩⟩
structure BagOk (d : Nat) (l : List (Int × Int)) (M : List (List Int × Int)) : Prop where
  key : KOk 2 M
  at_ : ∀ p ∈ M, ∃ a b : Nat, a ≤ b ∧ b < d ∧ p.1 = [(a : Int), (b : Int)] ∧ p.2 = cntE l a b ∧ 0 < p.2
  get : ∀ a b : Int, (mget M [a, b]).getD 0 = cntE l a b
  len : M.length ≤ l.length
theorem BagOk.nil (d : Nat) : BagOk d [] [] := ⟨KOk.nil 2, fun p h => by simp at h, fun a b => by simp [mget, cntE], Nat.le_refl _⟩
theorem keyOk2 {d a b : Nat} (hd : d ≤ 12) (h1 : a ≤ b) (h2 : b < d) : yeS 2 [(a : Int), (b : Int)] := by
  refine ⟨rfl, fun x hx => ?_⟩
  simp only [List.mem_cons, List.not_mem_nil, or_false] at hx
  rcases hx with rfl | rfl <;> exact ⟨by omega, by omega⟩
theorem BagOk.put {d : Nat} {l : List (Int × Int)} {M : List (List Int × Int)} (h : BagOk d l M) (hd : d ≤ 12) {e : Int × Int} {a b : Nat} (h1 : a ≤ b) (h2 : b < d) (ha : mnF e.1 e.2 = a) (hb : mxF e.1 e.2 = b) : BagOk d (l ++ [e]) (mput M [(a : Int), (b : Int)] (cntE l a b + 1)) := by
  have hk := h.key.put (keyOk2 hd h1 h2) (cntE l a b + 1)
  refine ⟨hk, fun p hp => ?_, fun x y => ?_, by have := h.len; rw [mput_length, List.length_append, List.length_singleton]; split <;> omega⟩
  · obtain ⟨j, hj⟩ := List.getElem?_of_mem hp
    have hg := mget_at hk.1 (k := p.1) (v := p.2) hj
    rw [ydG] at hg
    by_cases q : [(a : Int), (b : Int)] = p.1
    · rw [if_pos q] at hg
      refine ⟨a, b, h1, h2, q.symm, ?_, ?_⟩
      · rw [ye8, if_pos ⟨ha, hb⟩]; exact (Option.some.inj hg).symm
      · rw [← Option.some.inj hg]; have := yfG l a b; omega
    · rw [if_neg q] at hg
      obtain ⟨x, y, h3, h4, h5, h6, h7⟩ := h.at_ _ (mget_mem hg)
      refine ⟨x, y, h3, h4, h5, ?_, h7⟩
      rw [ye8, if_neg, Int.add_zero]
      · exact h6
      · rintro ⟨q1, q2⟩
        rw [ha] at q1; rw [hb] at q2
        have h5 : p.1 = [(x : Int), (y : Int)] := h5
        exact q (by rw [h5, q1, q2])
  · rw [ydG, ye8, ha, hb, ← h.get x y]
    by_cases q : (a : Int) = x ∧ (b : Int) = y
    · rw [if_pos (by rw [q.1, q.2]), if_pos q, h.get x y, ← q.1, ← q.2]; rfl
    · rw [if_neg (fun z => q (by simpa using z)), if_neg q, Int.add_zero]
def eM (p : List Int × Int) : E3 := (gi p.1 0, gi p.1 1, p.2)
theorem nodupN_le : ∀ {l K : List Nat}, l.Nodup → (∀ x ∈ l, x ∈ K) → l.length ≤ K.length
  | [], K, _, _ => Nat.zero_le _
  | a :: t, K, hn, hs => by
    rw [List.nodup_cons] at hn
    have ha : a ∈ K := hs a (by simp)
    have h2 := nodupN_le (l := t) (K := K.erase a) hn.2 fun x hx => (List.mem_erase_of_ne (by rintro rfl; exact hn.1 hx)).2 (hs x (by simp [hx]))
    rw [List.length_erase_of_mem ha] at h2
    have : 0 < K.length := List.length_pos_of_mem ha
    rw [List.length_cons]; omega
theorem seen_lt {n j : Nat} {seen : List Nat} (hn : seen.Nodup) (hs : ∀ x ∈ seen, x < n) (hj : j < n) (hnj : j ∉ seen) : seen.length < n := by
  have := nodupN_le (l := j :: seen) (K := List.range n) (List.nodup_cons.2 ⟨hnj, hn⟩) fun x hx => by
    rcases List.mem_cons.1 hx with rfl | hx
    · exact List.mem_range.2 hj
    · exact List.mem_range.2 (hs x hx)
  simp at this; omega
theorem mem_joinE {d : Nat} {l : List (Int × Int)} {x : E3} : x ∈ ydO d (tabE d l) ↔ ∃ a b : Nat, a ≤ b ∧ b < d ∧ 0 < cntE l a b ∧ x = ((a : Int), (b : Int), cntE l a b) := by
  unfold ydO
  simp only [List.mem_flatMap, List.mem_range, rowJ, List.mem_filterMap]
  constructor
  · rintro ⟨a, ha, j, hj, hx⟩
    unfold yfK at hx
    rw [yfn ha, yfr (by omega)] at hx
    split at hx
    · rename_i hp
      exact ⟨a, a + j, by omega, by omega, hp, (Option.some.inj hx).symm⟩
    · cases hx
  · rintro ⟨a, b, h1, h2, h3, rfl⟩
    refine ⟨a, by omega, b - a, by omega, ?_⟩
    unfold yfK
    rw [yfn (by omega), yfr (by omega), show a + (b - a) = b by omega, if_pos h3]
def ltE (x y : E3) : Prop := x.1 < y.1 ∨ x.1 = y.1 ∧ x.2.1 < y.2.1
theorem yes {d : Nat} {T : List (List Int)} : (ydO d T).Pairwise ltE := by
  unfold ydO
  rw [List.pairwise_flatMap]
  refine ⟨fun a _ => ?_, ?_⟩
  · unfold rowJ
    refine List.Pairwise.filterMap (R := fun a b => a < b) (S := ltE) (yfK T a) ?_ List.pairwise_lt_range
    intro x y hxy u hu v hv
    unfold yfK at hu hv
    split at hu
    · split at hv
      · cases hu; cases hv
        refine .inr ⟨rfl, ?_⟩
        show ((a + x : Nat) : Int) < ((a + y : Nat) : Int)
        omega
      · cases hv
    · cases hu
  · refine List.pairwise_lt_range.imp ?_
    intro a b hab u hu v hv
    simp only [rowJ, List.mem_filterMap] at hu hv
    obtain ⟨x, _, hu⟩ := hu
    obtain ⟨y, _, hv⟩ := hv
    unfold yfK at hu hv
    split at hu
    · split at hv
      · cases hu; cases hv
        refine .inl ?_
        show (a : Int) < (b : Int)
        omega
      · cases hv
    · cases hu
theorem BagOk.mem {d : Nat} {l : List (Int × Int)} {M : List (List Int × Int)} (h : BagOk d l M) (x : E3) : x ∈ M.map eM ↔ x ∈ ydO d (tabE d l) := by
  rw [mem_joinE, List.mem_map]
  constructor
  · rintro ⟨p, hp, rfl⟩
    obtain ⟨a, b, h1, h2, h3, h4, h5⟩ := h.at_ p hp
    exact ⟨a, b, h1, h2, by rw [← h4]; exact h5, by unfold eM; rw [h3, h4]; rfl⟩
  · rintro ⟨a, b, h1, h2, h3, rfl⟩
    have hg := h.get a b
    cases hq : mget M [(a : Int), (b : Int)] with
    | none => rw [hq] at hg; simp at hg; omega
    | some v =>
      rw [hq] at hg
      have hg : v = cntE l a b := hg
      exact ⟨_, mget_mem hq, by unfold eM; rw [hg]; rfl⟩
theorem BagOk.nodup {d : Nat} {l : List (Int × Int)} {M : List (List Int × Int)} (h : BagOk d l M) : (M.map eM).Nodup := by
  unfold List.Nodup
  rw [List.pairwise_map]
  refine h.key.1.imp_of_mem ?_
  intro p q hp hq hne he
  obtain ⟨a, b, _, _, h3, _, _⟩ := h.at_ p hp
  obtain ⟨a', b', _, _, h3', _, _⟩ := h.at_ q hq
  apply hne
  unfold eM at he
  rw [h3, h3'] at he ⊢
  have e1 : (a : Int) = a' := congrArg Prod.fst he
  have e2 : (b : Int) = b' := congrArg (fun z : E3 => z.2.1) he
  rw [e1, e2]
theorem sorted_unique {d : Nat} {T : List (List Int)} {zs : List E3} (hp : zs.Perm (ydO d T)) (hs : zs.Pairwise (fun a b => ¬ yc6 b.1 b.2.1 a.1 a.2.1 < 0)) : zs = ydO d T := by
  have hsd := yes (d := d) (T := T)
  have hJ : (ydO d T).Pairwise (fun a b : E3 => ¬ yc6 b.1 b.2.1 a.1 a.2.1 < 0) := hsd.imp fun {a b} h => by
    rw [ycF]
    unfold ltE at h
    omega
  refine List.Perm.eq_of_pairwise (le := fun a b : E3 => ¬ yc6 b.1 b.2.1 a.1 a.2.1 < 0) (fun a b ha hb h1 h2 => ?_) hs hJ hp
  rw [ycF] at h1 h2
  have ha := hp.subset ha
  have e : a.1 = b.1 ∧ a.2.1 = b.2.1 := by omega
  rcases Classical.em (a = b) with q | q
  · exact q
  · exfalso
    have key : ∀ x y : E3, x ∈ ydO d T → y ∈ ydO d T → x ≠ y → x.1 = y.1 ∧ x.2.1 = y.2.1 → False := by
      intro x y hx hy hne he
      have p1 : (ydO d T).Pairwise (fun x y : E3 => x ≠ y → ¬ (x.1 = y.1 ∧ x.2.1 = y.2.1)) := hsd.imp fun {a b} h _ he => by unfold ltE at h; omega
      have p2 : (ydO d T).Pairwise (flip fun x y : E3 => x ≠ y → ¬ (x.1 = y.1 ∧ x.2.1 = y.2.1)) := hsd.imp fun {a b} h => by
        show b ≠ a → ¬ (b.1 = a.1 ∧ b.2.1 = a.2.1)
        intro _ he; unfold ltE at h; omega
      have := List.Pairwise.forall_of_forall_of_flip (R := fun x y : E3 => x ≠ y → ¬ (x.1 = y.1 ∧ x.2.1 = y.2.1)) (fun z _ h => absurd rfl h) p1 p2
      exact this hx hy hne he
    exact key a b ha hb q e
theorem p_bag_graph {d : Nat} {l : List (Int × Int)} {M : List (List Int × Int)} (h : BagOk d l M) (hn : l.length ≤ 4096) {R : Int → List E3 → Prop} (hR : R d (ydO d (tabE d l))) : ybT M d R := by
  have hML := h.len
  refine ⟨fun m g seen => seen.Nodup ∧ (∀ j ∈ seen, j < M.length) ∧ g = seen.map (fun j => eM (M.getD j default)) ∧ m + seen.length = M.length, ⟨M.length, List.nodup_nil, by simp, rfl, by simp⟩, ?_⟩
  rintro m g seen ⟨h1, h2, rfl, h3⟩
  refine ⟨h.key, fun j ka kb kv hj hns => ?_, fun hall => ?_⟩
  · have hjl : j < M.length := (List.getElem?_eq_some_iff.1 hj).1
    have hlt := seen_lt h1 h2 hjl hns
    refine ⟨by rw [List.length_map]; omega, m - 1, by omega, ?_, ?_, ?_, ?_⟩
    · rw [List.nodup_append]
      exact ⟨h1, by simp, fun a ha b hb => by rw [List.mem_singleton] at hb; subst hb; exact fun q => hns (q ▸ ha)⟩
    · intro x hx
      rcases List.mem_append.1 hx with hx | hx
      · exact h2 x hx
      · rw [List.mem_singleton] at hx; subst hx; exact hjl
    · rw [List.map_append]
      simp [List.getD_eq_getElem?_getD, hj, eM, gi]
    · rw [List.length_append, List.length_singleton]; omega
  · have hp : seen.Perm (List.range M.length) := (List.perm_ext_iff_of_nodup h1 List.nodup_range).2 fun a => ⟨fun q => List.mem_range.2 (h2 a q), fun q => hall a (List.mem_range.1 q)⟩
    have he : (List.range M.length).map (fun j => eM (M.getD j default)) = M.map eM := by
      apply List.ext_getElem?
      intro k
      by_cases hk : k < M.length
      · simp [hk, List.getD_eq_getElem?_getD]
      · simp [hk]
    have hp2 : (seen.map fun j => eM (M.getD j default)).Perm (ydO d (tabE d l)) := by
      refine (hp.map _).trans ?_
      rw [he]
      exact (List.perm_ext_iff_of_nodup h.nodup (yes.imp fun {a b} q => by rintro rfl; unfold ltE at q; omega)).2 h.mem
    refine ⟨by rw [List.length_map]; have := seen.length; omega, fun zs hz hs => ?_⟩
    rw [sorted_unique (hz.trans hp2) hs]
    exact hR
theorem p_graph_Make {d : Nat} (h1 : 1 ≤ d) (hd : d ≤ 12) {l : List (Int × Int)} (hl : ∀ e ∈ l, (0 ≤ e.1 ∧ e.1 < d) ∧ 0 ≤ e.2 ∧ e.2 < d) (hn : l.length ≤ 4096) (hm : ∀ a b, cntE l a b ≤ 50) {R : Int → List E3 → Int → Prop} (h : R d (ydO d (tabE d l)) 0) : ybB d l R := by
  refine ⟨True, fun _ => ⟨fun q => by omega, fun _ => ?_⟩, fun q => by omega, fun _ => ⟨fun q => by omega, fun _ => trivial⟩⟩
  refine ⟨fun m v M => ∃ k : Nat, v = k ∧ k + m = l.length ∧ BagOk d (l.take k) M, ⟨l.length, 0, rfl, by omega, BagOk.nil d⟩, ?_⟩
  rintro m v M ⟨k, rfl, hk, hM⟩
  refine ⟨fun hlt => ?_, fun hge => ?_⟩
  · have hkl : k < l.length := by omega
    rw [Int.toNat_natCast]
    have hx := hl (gx l k) (by rw [ybx hkl]; exact List.getElem_mem hkl)
    have htk : l.take (k + 1) = l.take k ++ [gx l k] := by rw [List.take_add_one, List.getElem?_eq_getElem hkl, ybx hkl]; rfl
    generalize gx l k = e at hx htk ⊢
    obtain ⟨a, ha⟩ : ∃ a : Nat, mnF e.1 e.2 = a := ⟨(mnF e.1 e.2).toNat, by unfold mnF; split <;> omega⟩
    obtain ⟨b, hb⟩ : ∃ b : Nat, mxF e.1 e.2 = b := ⟨(mxF e.1 e.2).toNat, by unfold mxF; split <;> omega⟩
    have hab : a ≤ b := by unfold mnF at ha; unfold mxF at hb; split at ha <;> split at hb <;> omega
    have hbd : b < d := by unfold mxF at hb; split at hb <;> omega
    have hg : (mget M [(a : Int), (b : Int)]).getD 0 = cntE (l.take k) a b := hM.get a b
    have hput := hM.put hd hab hbd ha hb
    have hc1 := yfG (l.take k) a b
    have hc2 := yfJ (l.take k) a b
    have hc3 : (l.take k).length ≤ 4096 := by rw [List.length_take]; omega
    have hK := keyOk2 hd hab hbd
    have hin : In64 (cntE (l.take k) a b + 1) := ⟨by omega, by omega⟩
    refine ⟨by omega, True, fun _ => ?_, by decide, ?_⟩
    · refine ⟨fun M' => M' = mput M [(a : Int), (b : Int)] (cntE (l.take k) a b + 1), fun M' hM' => ?_, by decide, by decide, ?_⟩
      · subst hM'
        exact ⟨⟨by omega, by omega⟩, m - 1, by omega, k + 1, by omega, by omega, by rw [htk]; exact hput⟩
      · unfold ybU
        rw [ha, hb]
        refine ⟨⟨hM.key, hK, by rw [hg]; exact hin, by rw [hg]⟩, hM.key, hK, hM.key.put hK _, ?_, ?_⟩
        · rw [ydG, if_pos rfl, Option.getD_some, hg]; exact hin
        · show _ = _
          rw [ydG, if_pos rfl, Option.getD_some, hg]
    · unfold ya4
      obtain ⟨⟨x1, x2⟩, x3, x4⟩ := hx
      exact ⟨fun _ => ⟨fun _ => ⟨by decide, fun _ => ⟨fun _ => trivial, fun q => absurd (decide_eq_true x4) q⟩, fun q => absurd x3 q⟩, fun q => absurd (decide_eq_true x2) q⟩, fun q => absurd x1 q⟩
  · have hk2 : l.take k = l := List.take_of_length_le (by omega)
    rw [hk2] at hM
    refine ⟨fun m seen => seen.Nodup ∧ (∀ j ∈ seen, j < M.length) ∧ m + seen.length = M.length, ⟨M.length, List.nodup_nil, by simp, by simp⟩, ?_⟩
    rintro m seen ⟨q1, q2, q3⟩
    refine ⟨hM.key, fun j ka kb kv hj hns => ?_, fun _ => p_bag_graph hM hn h⟩
    have hjl : j < M.length := (List.getElem?_eq_some_iff.1 hj).1
    have hlt := seen_lt q1 q2 hjl hns
    have h50 : kv ≤ 50 := by
      obtain ⟨a, b, _, _, _, h6, _⟩ := hM.at_ _ (List.mem_of_getElem? hj)
      have h6 : kv = cntE l a b := h6
      rw [h6]; exact hm a b
    refine ⟨fun q => by omega, fun _ => ⟨m - 1, by omega, ?_, ?_, ?_⟩⟩
    · rw [List.nodup_append]
      exact ⟨q1, by simp, fun a ha b hb => by rw [List.mem_singleton] at hb; subst hb; exact fun q => hns (q ▸ ha)⟩
    · intro x hx
      rcases List.mem_append.1 hx with hx | hx
      · exact q2 x hx
      · rw [List.mem_singleton] at hx; subst hx; exact hjl
    · rw [List.length_append, List.length_singleton]; omega
end Go.Proofs.Ytinoedockljfeaa

/- The facts of a graph that is made of ends: in normal form, its size, its genus, its degrees. -/
namespace Go.Proofs.Ytinoedockljfeaa
open Go Go.RowKit Go.Shelf Go.Proofs.Try
set_option linter.unusedVariables false
set_option linter.unusedSimpArgs false
def sF : List E3 → List E3
  | [] => []
  | x :: t => List.replicate x.2.2.toNat (x.1, x.2.1, 1) ++ sF t
theorem yeU : ∀ (a b : List E3), sF (a ++ b) = sF a ++ sF b
  | [], b => rfl
  | x :: t, b => by rw [List.cons_append, sF, sF, yeU t b, List.append_assoc]
theorem sF_take {es : List E3} {k : Nat} (hk : k < es.length) : sF (es.take (k + 1)) = sF (es.take k) ++ List.replicate (ge es k).2.2.toNat ((ge es k).1, (ge es k).2.1, 1) := by
  rw [List.take_add_one, List.getElem?_eq_getElem hk, ← ydH hk, yeU]
  simp [sF]
theorem sF_pre {es : List E3} {k : Nat} (hk : k < es.length) {j : Nat} (hj : j ≤ (ge es k).2.2.toNat) : sF (es.take k) ++ List.replicate j ((ge es k).1, (ge es k).2.1, 1) <+: sF es := by
  have h1 : es = es.take (k + 1) ++ es.drop (k + 1) := (List.take_append_drop _ _).symm
  have h2 : sF es = sF (es.take k) ++ List.replicate (ge es k).2.2.toNat ((ge es k).1, (ge es k).2.1, 1) ++ sF (es.drop (k + 1)) := by
    conv => lhs; rw [h1]
    rw [yeU, sF_take hk]
  obtain ⟨i, hi⟩ : ∃ i, (ge es k).2.2.toNat = j + i := ⟨(ge es k).2.2.toNat - j, by omega⟩
  rw [h2, hi, ← List.replicate_append_replicate]
  exact ⟨List.replicate i ((ge es k).1, (ge es k).2.1, 1) ++ sF (es.drop (k + 1)), by simp only [List.append_assoc]⟩
theorem sF_few {n : Nat} : ∀ {es : List E3}, EOk n es → (sF es).length ≤ 50 * es.length
  | [], _ => Nat.le_refl _
  | x :: t, h => by
    have hx := h x (by simp)
    have := sF_few (es := t) fun z hz => h z (by simp [hz])
    rw [sF, List.length_append, List.length_replicate, List.length_cons]
    omega
def gmap (y : Int × Int × Int) : E3 := (y.2.1, y.2.2, 1)
theorem yem {n : Nat} {es : List E3} (hE : EOk n es) (hl : es.length ≤ 1000) : ybC (n : Int) es (fun l => l.map gmap <+: sF es) (fun l => l.map gmap = sF es) := by
  unfold ybC
  refine ⟨fun m pre e2 v => Cnt es.length (fun k => pre.map gmap = sF (es.take k) ∧ 0 ≤ e2 ∧ e2 ≤ 50 * k) m v, Cnt.start ⟨rfl, by omega, by omega⟩, ?_⟩
  rintro m pre e2 _ ⟨k, rfl, rfl, hk, hpre, he0, he1⟩
  simp only [Int.toNat_natCast]
  refine ⟨fun hlt => ⟨by omega, ?_⟩, fun hge => ?_⟩
  · have hkl : k < es.length := by omega
    have hx := hE _ (List.mem_of_getElem? (ycW hkl))
    refine ⟨fun m pre e3 v => Cnt (ge es k).2.2.toNat (fun j => pre.map gmap = sF (es.take k) ++ List.replicate j ((ge es k).1, (ge es k).2.1, 1) ∧ 0 ≤ e3 ∧ e3 ≤ 50 * k + j) m v, Cnt.start ⟨by simpa using hpre, he0, by omega⟩, ?_⟩
    rintro m3 pre3 e3 _ ⟨j, rfl, rfl, hj, hp3, h30, h31⟩
    have hstep : ∀ e : Int, (pre3 ++ [(e, (ge es k).1, (ge es k).2.1)]).map gmap = sF (es.take k) ++ List.replicate (j + 1) ((ge es k).1, (ge es k).2.1, 1) := fun e => by
      rw [List.map_append, hp3, List.replicate_succ', List.append_assoc]; rfl
    refine ⟨fun h1 => ⟨?_, ⟨i64 (by omega), Cnt.next (by omega) (by omega) ⟨hstep e3, by omega, by omega⟩⟩, trivial⟩, fun h1 => Cnt.next (by omega) (by omega) ⟨?_, by omega, by omega⟩⟩
    · show (pre3 ++ [(e3, (ge es k).1, (ge es k).2.1)]).map gmap <+: sF es
      rw [hstep]; exact sF_pre hkl (by omega)
    · have e : j = (ge es k).2.2.toNat := by omega
      rw [sF_take hkl, hp3, e]
  · have e : k = es.length := by omega
    rw [e, List.take_length] at hpre
    exact hpre
def yc4 (d : Nat) (l : List (Int × Int)) : Prop := ∀ e ∈ l, (0 ≤ e.1 ∧ e.1 < d) ∧ 0 ≤ e.2 ∧ e.2 < d
def made (d : Nat) (l : List (Int × Int)) : List E3 := ydO d (tabE d l)
theorem yfE (T : List (List Int)) (k : Nat) (hT : ∀ j, 0 ≤ gi (gx T k) j) : ∀ n, (((List.range n).filterMap (yfK T k)).map (·.2.2)).sum = sm n fun j => gi (gx T k) (k + j)
  | 0 => rfl
  | n + 1 => by
    rw [List.range_succ, List.filterMap_append, List.map_append, List.sum_append, yfE T k hT n, sm]
    congr 1
    have := hT (k + n)
    by_cases q : 0 < gi (gx T k) (k + n)
    · simp [yfK, q]
    · simp [yfK, q]; omega
theorem sum_joinE {d : Nat} (l : List (Int × Int)) : ((made d l).map (·.2.2)).sum = sm d fun a => sm (d - a) fun j => cntE l (a : Int) ((a + j : Nat) : Int) := by
  have key : ∀ k, k ≤ d → (((List.range k).flatMap (rowJ d (tabE d l))).map (·.2.2)).sum = sm k fun a => sm (d - a) fun j => cntE l (a : Int) ((a + j : Nat) : Int) := by
    intro k hk
    induction k with
    | zero => rfl
    | succ k ih =>
      rw [List.range_succ, List.flatMap_append, List.map_append, List.sum_append, ih (by omega), sm]
      congr 1
      simp only [List.flatMap_cons, List.flatMap_nil, List.append_nil]
      unfold rowJ
      rw [yfE _ _ (fun j => ?_)]
      · exact yaR fun j hj => by rw [yfn (by omega), yfr (by omega)]
      · rw [yfn (by omega)]
        by_cases q : j < d
        · rw [yfr q]; exact yfG _ _ _
        · unfold gi; rw [List.getD_eq_getElem?_getD, List.getElem?_eq_none (by rw [yfs]; omega)]; exact Int.le_refl 0
  exact key d (Nat.le_refl d)
theorem mn_nat {d : Nat} {e : Int × Int} (h : (0 ≤ e.1 ∧ e.1 < d) ∧ 0 ≤ e.2 ∧ e.2 < d) : ∃ a b : Nat, mnF e.1 e.2 = a ∧ mxF e.1 e.2 = b ∧ a ≤ b ∧ b < d := by
  refine ⟨(mnF e.1 e.2).toNat, (mxF e.1 e.2).toNat, ?_, ?_, ?_, ?_⟩ <;> simp only [mnF, mxF] <;> (try split) <;> (try split) <;> omega
theorem snoc_ind {α : Type} {P : List α → Prop} (h0 : P []) (h : ∀ l x, P l → P (l ++ [x])) (l : List α) : P l := by
  have : ∀ k, k ≤ l.length → P (l.take k) := by
    intro k
    induction k with
    | zero => intro _; exact h0
    | succ k ih =>
      intro hk
      rw [List.take_add_one, List.getElem?_eq_getElem (by omega)]
      exact h _ _ (ih (by omega))
  have := this l.length (Nat.le_refl _)
  rwa [List.take_length] at this
theorem sum_made {d : Nat} (l : List (Int × Int)) : yc4 d l → ((made d l).map (·.2.2)).sum = l.length := by
  rw [sum_joinE]
  refine snoc_ind (P := fun l => yc4 d l → (sm d fun a => sm (d - a) fun j => cntE l (a : Int) ((a + j : Nat) : Int)) = l.length) (fun _ => ?_) (fun l x ih hl => ?_) l
  · simp only [cntE, List.countP_nil, Int.natCast_zero, List.length_nil]
    rw [yaR (g := fun _ => 0) fun i _ => yc7 _, yc7]
  · have ih := ih fun e he => hl e (by simp [he])
    obtain ⟨a, b, ha, hb, hab, hbd⟩ := mn_nat (hl x (by simp))
    have e1 : ∀ i, (sm (d - i) fun j => cntE (l ++ [x]) (i : Int) ((i + j : Nat) : Int)) = (sm (d - i) fun j => cntE l (i : Int) ((i + j : Nat) : Int)) + if i = a then 1 else 0 := by
      intro i
      rw [← (show (sm (d - i) fun j => if a = i ∧ b = i + j then (1 : Int) else 0) = if i = a then 1 else 0 from ?_), ← ydn]
      · refine yaR fun j _ => ?_
        rw [ye8, ha, hb]
        congr 1
        by_cases q : a = i ∧ b = i + j
        · rw [if_pos q, if_pos (by omega)]
        · rw [if_neg q, if_neg (by omega)]
      · by_cases q : i = a
        · subst q
          rw [if_pos rfl]
          refine Eq.trans (yaR fun j _ => ?_) (yfO (1 : Int) (show b - i < d - i by omega))
          by_cases q2 : j = b - i
          · rw [if_pos q2, if_pos (by omega)]
          · rw [if_neg q2, if_neg (by omega)]
        · rw [if_neg q]
          exact Eq.trans (yaR fun j _ => by rw [if_neg (by omega)]) (yc7 (d - i))
    rw [yaR fun i _ => e1 i, ydn, ih, yfO (1 : Int) (show a < d by omega), List.length_append, List.length_singleton]
    omega
def Joins (l : List (Int × Int)) (v u : Nat) : Prop := ((v : Int), (u : Int)) ∈ l ∨ ((u : Int), (v : Int)) ∈ l
end Go.Proofs.Ytinoedockljfeaa

/- What the functions of layer 12 (contract) come to: ends, lists laid together, vertices that move, graphs that are made. -/
namespace Go.Proofs.Ytinoedockljfeaa
open Go Go.RowKit Go.Shelf Go.Proofs.Try
set_option linter.unusedVariables false
set_option linter.unusedSimpArgs false
theorem sF_ends : ∀ es : List E3, sF es = (yaI es).map fun e => (e.1, e.2, 1)
  | [] => rfl
  | x :: t => by
    have e : yaI (x :: t) = List.replicate x.2.2.toNat (x.1, x.2.1) ++ yaI t := by unfold yaI; rw [List.flatMap_cons]
    rw [sF, sF_ends t, e, List.map_append, List.map_replicate]
theorem yds {n : Int} {es : List E3} {R : List (Int × Int) → Int → Prop} (hl : es.length ≤ 100) (he : yaZ n es ≠ 0 → R [] (yaZ n es)) (h : yaZ n es = 0 → R (yaI es) 0) : ybI n es R := by
  unfold ybI
  refine p_graph_Check (by omega) ⟨fun q => ?_, fun q => he q⟩
  have hn : (1 : Int) ≤ n ∧ n ≤ 12 := by
    unfold yaZ at q; split at q
    · assumption
    · cases q
  obtain ⟨n, rfl⟩ : ∃ k : Nat, n = k := ⟨n.toNat, by omega⟩
  obtain ⟨hE, hn1, hn12⟩ := yfb q
  show ∃ Pr Rr : List (Int × Int × Int) → Prop, _
  refine ⟨_, _, yem hE (by omega), fun pre out => out = pre.map fun y => (y.2.1, y.2.2), rfl, ?_, ?_⟩
  · rintro pre e a b out rfl hPr
    have hPr : (pre ++ [(e, a, b)]).map gmap <+: sF es := hPr
    have h2 := hPr.length_le
    have h3 := sF_few hE
    rw [List.length_map, List.length_append] at h2
    simp only [List.length_singleton] at h2
    refine ⟨by rw [List.length_map]; omega, ?_⟩
    show _ = List.map _ _
    rw [List.map_append]; rfl
  · rintro ys out rfl hR
    have hR : ys.map gmap = sF es := hR
    have e : ys.map (fun y => (y.2.1, y.2.2)) = yaI es := by
      have h2 : (ys.map gmap).map (fun y : E3 => (y.1, y.2.1)) = (sF es).map fun y => (y.1, y.2.1) := by rw [hR]
      rw [sF_ends, List.map_map, List.map_map] at h2
      have e1 : ((fun y : E3 => (y.1, y.2.1)) ∘ gmap) = fun y : Int × Int × Int => (y.2.1, y.2.2) := rfl
      have e2 : ((fun y : E3 => (y.1, y.2.1)) ∘ fun e : Int × Int => (e.1, e.2, 1)) = id := rfl
      rw [e1, e2, List.map_id] at h2
      exact h2
    rw [e]; exact h q
structure GrOk (n : Nat) (es : List E3) (E : List (Int × Int)) : Prop where
  g : yaZ n es = 0
  e : yaI es = E
  one : 1 ≤ n
  few : n ≤ 12
  ok : yc4 n E
  len : E.length ≤ 50 * es.length
theorem yga {n : Int} {es : List E3} (q : yaZ n es = 0) : ∃ k : Nat, n = k ∧ GrOk k es (yaI es) := by
  have hn : (1 : Int) ≤ n ∧ n ≤ 12 := by
    unfold yaZ at q; split at q
    · assumption
    · cases q
  obtain ⟨n, rfl⟩ : ∃ k : Nat, n = k := ⟨n.toNat, by omega⟩
  obtain ⟨hE, hn1, hn12⟩ := yfb q
  refine ⟨n, rfl, q, rfl, hn1, hn12, fun e he => ?_, ?_⟩
  · unfold yaI at he
    obtain ⟨x, hx, hr⟩ := List.mem_flatMap.1 he
    rw [(List.mem_replicate.1 hr).2]
    have := hE x hx
    simp only; omega
  · exact (yc2 es fun x hx => by have := hE x hx; omega).2
theorem GrOk.mult {n : Nat} {es : List E3} {E : List (Int × Int)} (h : GrOk n es E) : ∀ x ∈ es, 1 ≤ x.2.2 ∧ x.2.2 ≤ 50 := fun x hx => by
  obtain ⟨hE, _, _⟩ := yfb h.g
  have := hE x hx; omega
theorem GrOk.size {n : Nat} {es : List E3} {E : List (Int × Int)} (h : GrOk n es E) : (es.map (·.2.2)).sum = (E.length : Int) := by
  rw [← h.e]; exact (yc2 es h.mult).1.symm
theorem p_ends8 {n : Nat} {es : List E3} {E : List (Int × Int)} (h : GrOk n es E) (hl : es.length ≤ 100) {R : List (Int × Int) → Prop} (hR : R E) : ybW n es R :=
  p_r08_Ends (by omega) h.mult (by rw [h.e]; exact hR)
theorem p_size8 {n : Nat} {es : List E3} {E : List (Int × Int)} (h : GrOk n es E) (hl : es.length ≤ 100) {R : Int → Prop} (hR : R (E.length : Int)) : ycj n es R :=
  p_r08_Size (by omega) h.mult (by rw [h.size]; exact hR)
theorem gchk_le {n : Int} : ∀ (es : List E3) (a b : Int), gchk n a b es = 0 → ∀ x ∈ es, x.1 ≤ x.2.1
  | [], _, _, _, x, hx => by simp at hx
  | y :: t, a, b, h, x, hx => by
    rw [gchk] at h
    split at h
    · split at h
      · rename_i h2
        rcases List.mem_cons.1 hx with rfl | hx
        · exact h2.1
        · exact gchk_le t _ _ h x hx
      · cases h
    · cases h
theorem GrOk.le {n : Nat} {es : List E3} {E : List (Int × Int)} (h : GrOk n es E) : ∀ e ∈ E, e.1 ≤ e.2 := fun e he => by
  rw [← h.e] at he
  unfold yaI at he
  obtain ⟨x, hx, hr⟩ := List.mem_flatMap.1 he
  rw [(List.mem_replicate.1 hr).2]
  exact gchk_le es _ _ (ydX h.g) x hx
def sglF (n : Int) (es : List E3) (e : Int) : Int := if yaZ n es ≠ 0 then yaZ n es else if e < 0 ∨ ((yaI es).length : Int) ≤ e then 2 else 0
theorem ydb {n : Int} {es : List E3} {e : Int} (h : sglF n es e = 0) : yaZ n es = 0 ∧ 0 ≤ e ∧ e < ((yaI es).length : Int) := by
  unfold sglF at h
  split at h
  · rename_i q; exact absurd h q
  · rename_i q
    split at h
    · cases h
    · exact ⟨Classical.byContradiction q, by omega, by omega⟩
theorem ybX {n : Int} {es : List E3} {e : Int} {R : List (Int × Int) → Int → Prop} (hl : es.length ≤ 100) (he : sglF n es e ≠ 0 → R [] (sglF n es e)) (h : sglF n es e = 0 → R (yaI es) 0) : ya9 n es e R := by
  refine yds hl (fun q => ⟨fun q2 => absurd q2 q, fun _ => ?_⟩) fun q => ⟨fun _ => ⟨fun q2 => ?_, fun q2 => ⟨fun q3 => ?_, fun q3 => ?_⟩⟩, fun q2 => absurd rfl q2⟩
  · have e1 : sglF n es e = yaZ n es := by unfold sglF; rw [if_pos q]
    rw [e1] at he; exact he q
  · have e1 : sglF n es e = 2 := by unfold sglF; rw [if_neg (fun z => z q), if_pos (.inl q2)]
    rw [e1] at he; exact he (by decide)
  · have e1 : sglF n es e = 2 := by unfold sglF; rw [if_neg (fun z => z q), if_pos (.inr q3)]
    rw [e1] at he; exact he (by decide)
  · exact h (by unfold sglF; rw [if_neg (fun z => z q), if_neg (by omega)])
theorem ygb {n : Int} {es : List E3} {e : Int} {R : Int → Prop} (hl : es.length ≤ 100) (h : R (sglF n es e)) : ycD n es e R := by
  refine ye7 (by omega) ⟨fun q => ?_, fun q => ?_⟩
  · obtain ⟨k, rfl, G⟩ := yga q
    refine ⟨fun q2 => ?_, fun q2 => p_size8 G hl ⟨fun q3 => ?_, fun q3 => ?_⟩⟩
    · have e1 : sglF k es e = 2 := by unfold sglF; rw [if_neg (fun z => z q), if_pos (.inl q2)]
      rw [e1] at h; exact h
    · have e1 : sglF k es e = 2 := by unfold sglF; rw [if_neg (fun z => z q), if_pos (.inr q3)]
      rw [e1] at h; exact h
    · have e1 : sglF k es e = 0 := by unfold sglF; rw [if_neg (fun z => z q), if_neg (by omega)]
      rw [e1] at h; exact h
  · have e1 : sglF n es e = yaZ n es := by unfold sglF; rw [if_pos q]
    rw [e1] at h; exact h
theorem p_grow2 {n : Int} (hn : 0 ≤ n ∧ n ≤ 1000000) {R : List (Int × Int) → Prop} (h : R []) : ybd n R := by
  refine ⟨True, fun _ => ⟨⟨by decide, by decide⟩, ⟨by omega, by omega⟩, fun q => ⟨⟨by decide, by decide⟩, ⟨by omega, ?_⟩, ⟨by decide, Int.natCast_nonneg _⟩, ?_⟩, fun _ => h⟩, fun q => by omega, fun _ => trivial⟩
  · simp only [List.length_nil]; omega
  · have e : ((0 : Nat) : Int).toNat = 0 := rfl
    rw [e, List.take_zero]; exact h
theorem p_concat2 {x y : List (Int × Int)} (hx : x.length ≤ 100000) (hy : y.length ≤ 100000) {R : List (Int × Int) → Prop} (h : R (x ++ y)) : ya2 [x, y] R := by
  have g0 : gx [x, y] 0 = x := rfl
  have g1 : gx [x, y] 1 = y := rfl
  refine ⟨fun m s v => Cnt 2 (fun k => s = if k = 0 then 0 else if k = 1 then (x.length : Int) else (x.length : Int) + y.length) m v, Cnt.start rfl, ?_⟩
  rintro m s _ ⟨k, rfl, rfl, hk, hs⟩
  simp only [Int.toNat_natCast]
  refine ⟨fun hlt => ?_, fun hge => ?_⟩
  · have hk2 : k < 2 := by have : ([x, y].length : Nat) = 2 := rfl; omega
    have hb : (gx [x, y] k).length ≤ 100000 := by rcases (show k = 0 ∨ k = 1 by omega) with rfl | rfl <;> assumption
    have hsb : 0 ≤ s ∧ s ≤ 300000 := by rw [hs]; split <;> (try split) <;> omega
    refine ⟨⟨by omega, hlt⟩, ⟨by omega, by omega⟩, fun q => by omega, fun _ => Cnt.next hk2 (by omega) ?_⟩
    rcases (show k = 0 ∨ k = 1 by omega) with rfl | rfl
    · rw [hs, g0]; simp
    · rw [hs, g1]; simp
  · have hk2 : k = 2 := by have : ([x, y].length : Nat) = 2 := rfl; omega
    subst hk2
    have hs : s = (x.length : Int) + y.length := hs
    refine p_grow2 (by omega) ⟨fun m nl v => Cnt 2 (fun k => nl = if k = 0 then [] else if k = 1 then x else x ++ y) m v, Cnt.start rfl, ?_⟩
    rintro m nl _ ⟨k, rfl, rfl, hk, hs2⟩
    simp only [Int.toNat_natCast]
    refine ⟨fun hlt => ?_, fun hge => ?_⟩
    · have hk2 : k < 2 := by have : ([x, y].length : Nat) = 2 := rfl; omega
      refine ⟨⟨by omega, hlt⟩, ?_, Cnt.next hk2 (by omega) ?_⟩
      · rcases (show k = 0 ∨ k = 1 by omega) with rfl | rfl
        · rw [hs2, g0]; simp; omega
        · rw [hs2, g1]; simp; omega
      · rcases (show k = 0 ∨ k = 1 by omega) with rfl | rfl
        · rw [hs2, g0]; simp
        · rw [hs2, g1]; simp
    · have hk2 : k = 2 := by have : ([x, y].length : Nat) = 2 := rfl; omega
      subst hk2
      rw [hs2]; exact h
def mvF (a b v : Int) : Int := if a = b ∨ v < b then v else if v = b then a else v - 1
theorem ycV {v a b : Int} (hv : -1000 ≤ v ∧ v ≤ 1000) {R : Int → Prop} (h : R (mvF a b v)) : yaD v a b R := by
  unfold mvF at h
  refine ⟨fun q => ?_, fun q => ⟨fun q2 => ?_, fun q2 => ⟨fun q3 => ?_, fun q3 => ⟨⟨by omega, by omega⟩, ?_⟩⟩⟩⟩
  · rw [if_pos (.inl q)] at h; exact h
  · rw [if_pos (.inr q2)] at h; exact h
  · rw [if_neg (by omega), if_pos q3] at h; exact h
  · rw [if_neg (by omega), if_neg q3] at h; exact h
def sndF (f : Int → Int) (e : Int × Int) : Int × Int := (mnF (f e.1) (f e.2), mxF (f e.1) (f e.2))
theorem ydx {E : List (Int × Int)} {F : Int → (Int → Prop) → Prop} {f : Int → Int} (hl : E.length ≤ 100000) (hF : ∀ e ∈ E, ∀ R' : Int → Prop, (R' (f e.1) → F e.1 R') ∧ (R' (f e.2) → F e.2 R')) {R : List (Int × Int) → Prop} (h : R (E.map (sndF f))) : ybm E F R := by
  refine ⟨fun m out v => Cnt E.length (fun k => out = (E.take k).map (sndF f)) m v, Cnt.start rfl, ?_⟩
  rintro m out _ ⟨k, rfl, rfl, hk, rfl⟩
  simp only [Int.toNat_natCast]
  refine ⟨fun hlt => ?_, fun hge => ?_⟩
  · have hkl : k < E.length := by omega
    have hm : gx E k ∈ E := by rw [ybx hkl]; exact List.getElem_mem hkl
    refine ⟨⟨by omega, hlt⟩, by decide, by decide, (hF _ hm _).1 ((hF _ hm _).2 ⟨by rw [List.length_map, List.length_take]; omega, Cnt.next hkl (by omega) ?_⟩)⟩
    rw [List.take_add_one, List.getElem?_eq_getElem hkl, ybx hkl, List.map_append]
    rfl
  · have e : k = E.length := by omega
    rw [e, List.take_length]; exact h
def plcF (n : Nat) (a b : Int) : List Int := (List.range n).map fun v : Nat => mvF a b v
theorem ydE (n : Nat) (a b : Int) : (plcF n a b).length = n := by simp [plcF]
theorem gi_plcF {n k : Nat} (a b : Int) (h : k < n) : gi (plcF n a b) k = mvF a b k := by
  rw [ybl (by rw [ydE]; exact h)]; simp [plcF]
theorem plcF_snoc (n : Nat) (a b : Int) : plcF (n + 1) a b = plcF n a b ++ [mvF a b n] := by simp [plcF, List.range_succ]
theorem ydg {n : Nat} {a b : Int} (hn : n ≤ 12) {R : List Int → Prop} (h : R (plcF n a b)) : ybz n (fun x R => yaD x a b R) R := by
  refine ⟨fun m out v => Cnt n (fun k => out = plcF k a b) m v, Cnt.start rfl, ?_⟩
  rintro m out _ ⟨k, rfl, rfl, hk, rfl⟩
  refine ⟨fun hlt => ycV (by omega) ⟨by rw [ydE]; omega, Cnt.next (by omega) (by omega) (plcF_snoc k a b).symm⟩, fun hge => ?_⟩
  have e : k = n := by omega
  rw [e]; exact h
theorem yeM {n : Nat} {a b x y : Int} (hn : n ≤ 12) (hab : (a = b ∧ a = n ∧ x = y) ∨ (a ≠ b ∧ x = mnF a b ∧ y = mxF a b)) {R : List Int → Prop} (h : R (plcF n x y)) : ycu n a b R := by
  refine ⟨fun m out v => Cnt n (fun k => out = plcF k x y) m v, Cnt.start rfl, ?_⟩
  rintro m out _ ⟨k, rfl, rfl, hk, rfl⟩
  refine ⟨fun hlt => ?_, fun hge => ?_⟩
  · have hs := plcF_snoc k x y
    have key : ∀ to2 : Int, to2 = mvF x y k → (plcF k x y).length + 1 ≤ 1000000000 ∧ In64 ((k : Int) + 1) ∧ ∃ m3, m3 < n - k ∧ Cnt n (fun j => plcF k x y ++ [to2] = plcF j x y) m3 ((k : Int) + 1) := by
      rintro to2 rfl
      exact ⟨by rw [ydE]; omega, Cnt.next (by omega) (by omega) hs.symm⟩
    have hv : mvF x y k = if (k : Int) = mxF a b then mnF a b else if mxF a b < k then (k : Int) - 1 else k := by
      unfold mvF
      rcases hab with ⟨h1, h2, h3⟩ | ⟨h1, h2, h3⟩
      · have e : mxF a b = n := by simp only [mxF]; split <;> omega
        rw [if_pos (.inl h3), e, if_neg (by omega), if_neg (by omega)]
      · have hne : x ≠ y := by rw [h2, h3]; simp only [mnF, mxF]; split <;> split <;> omega
        rw [← h3, ← h2]
        by_cases q1 : (k : Int) < y
        · rw [if_pos (.inr q1), if_neg (by omega), if_neg (by omega)]
        · rw [if_neg (by omega)]
          by_cases q2 : (k : Int) = y
          · rw [if_pos q2, if_pos q2]
          · rw [if_neg q2, if_neg q2, if_pos (by omega)]
    refine ⟨fun to => to = if mxF a b < k then (k : Int) - 1 else k, fun to hto => ⟨fun to2 => to2 = mvF x y k, fun to2 h2 => key to2 h2, fun q => ?_, fun q => ?_⟩, fun q => ⟨⟨by omega, by omega⟩, ?_⟩, fun q => ?_⟩
    · rw [hv, if_pos q]
    · rw [hv, if_neg q]; exact hto
    · rw [if_pos q]
    · rw [if_neg q]
  · have e : k = n := by omega
    rw [e]; exact h
theorem p_r12_sent {E : List (Int × Int)} {n : Nat} {a b : Int} (hl : E.length ≤ 100000) (hE : yc4 n E) {R : List (Int × Int) → Prop} (h : R (E.map (sndF (mvF a b)))) : ydk E (plcF n a b) R := by
  refine ⟨fun m out v => Cnt E.length (fun k => out = (E.take k).map (sndF (mvF a b))) m v, Cnt.start rfl, ?_⟩
  rintro m out _ ⟨k, rfl, rfl, hk, rfl⟩
  simp only [Int.toNat_natCast]
  refine ⟨fun hlt => ?_, fun hge => ?_⟩
  · have hkl : k < E.length := by omega
    have hm : gx E k ∈ E := by rw [ybx hkl]; exact List.getElem_mem hkl
    obtain ⟨⟨b1, b2⟩, b3, b4⟩ := hE _ hm
    rw [ydE, gi_plcF a b (by omega : (gx E k).1.toNat < n), gi_plcF a b (by omega : (gx E k).2.toNat < n)]
    have e1 : (((gx E k).1.toNat : Nat) : Int) = (gx E k).1 := by omega
    have e2 : (((gx E k).2.toNat : Nat) : Int) = (gx E k).2 := by omega
    rw [e1, e2]
    refine ⟨⟨by omega, hlt⟩, by decide, ⟨b1, b2⟩, by decide, ⟨b3, b4⟩, by rw [List.length_map, List.length_take]; omega, Cnt.next hkl (by omega) ?_⟩
    rw [List.take_add_one, List.getElem?_eq_getElem hkl, ybx hkl, List.map_append]
    rfl
  · have e : k = E.length := by omega
    rw [e, List.take_length]; exact h
def Many (l : List (Int × Int)) : Prop := ∃ a b : Int, 50 < cntE l a b
theorem many_ends {d : Nat} {l : List (Int × Int)} (hl : yc4 d l) (h : Many l) : ∃ a b : Nat, a ≤ b ∧ b < d ∧ 50 < cntE l a b := by
  obtain ⟨a, b, h⟩ := h
  unfold cntE at h
  have h2 : 0 < l.countP (isE a b) := by omega
  obtain ⟨e, he, hp⟩ := List.countP_pos_iff.1 h2
  have hp : mnF e.1 e.2 = a ∧ mxF e.1 e.2 = b := of_decide_eq_true hp
  obtain ⟨a', b', h3, h4, h5, h6⟩ := mn_nat (hl e he)
  refine ⟨a', b', h5, h6, ?_⟩
  unfold cntE
  rw [← h3, ← h4, hp.1, hp.2]; exact h
theorem not_many {l : List (Int × Int)} (h : ¬ Many l) : ∀ a b, cntE l a b ≤ 50 := fun a b => Classical.byContradiction fun q => h ⟨a, b, by omega⟩
theorem ygk {d : Nat} (h1 : 1 ≤ d) (hd : d ≤ 12) {l : List (Int × Int)} (hl : yc4 d l) (hn : l.length ≤ 4096) {R : Int → List E3 → Int → Prop} (hm : Many l → R 0 [] 5) (h : ¬ Many l → R d (made d l) 0) : yfq d l R := by
  by_cases q : Many l
  case neg => exact p_r08_Make h1 hd hl hn (not_many q) (h q)
  have hm := hm q
  obtain ⟨a0, b0, h3, h4, h5⟩ := many_ends hl q
  refine ⟨True, fun _ => ⟨fun q => by omega, fun _ => ⟨by omega, ?_⟩⟩, fun q => by omega, fun _ => ⟨fun q => by omega, fun _ => trivial⟩⟩
  refine ⟨fun m v T => ∃ k : Nat, v = k ∧ k + m = l.length ∧ T = tabE d (l.take k), ⟨l.length, 0, rfl, by omega, by simp [tabE_nil]⟩, ?_⟩
  rintro m v T ⟨k, rfl, hk, rfl⟩
  refine ⟨fun hlt => ?_, fun hge => ?_⟩
  · have hkl : k < l.length := by omega
    rw [Int.toNat_natCast]
    have hx := hl (gx l k) (by rw [ybx hkl]; exact List.getElem_mem hkl)
    have htk : l.take (k + 1) = l.take k ++ [gx l k] := by rw [List.take_add_one, List.getElem?_eq_getElem hkl, ybx hkl]; rfl
    generalize gx l k = e at hx htk ⊢
    obtain ⟨a, b, ha, hb, hab, hbd⟩ := mn_nat hx
    have had : a < d := by omega
    refine ⟨by omega, by decide, by decide, True, fun _ => ?_, fun q => by omega, fun _ => ⟨fun q => by omega, fun _ => ⟨fun q => by omega, fun _ => ⟨fun q => by omega, fun _ => trivial⟩⟩⟩⟩
    rw [ha, hb, Int.toNat_natCast, Int.toNat_natCast, yfv, yfn had, yfs, yfr hbd]
    have hc1 := yfG (l.take k) a b
    have hc2 := yfJ (l.take k) a b
    have hc3 : (l.take k).length ≤ 4096 := by rw [List.length_take]; omega
    refine ⟨⟨by omega, by omega⟩, ⟨by omega, by omega⟩, ⟨by omega, by omega⟩, ⟨by omega, by omega⟩, m - 1, by omega, k + 1, by omega, by omega, ?_⟩
    have := tabE_set (l := l.take k) had hbd ha hb
    rw [yfn had, yfr hbd] at this
    rw [htk]
    exact this
  · have hk2 : l.take k = l := List.take_of_length_le (by omega)
    rw [hk2]
    refine ⟨fun m v => ∃ k : Nat, v = k ∧ k + m = d ∧ k ≤ a0, ⟨d, 0, rfl, by omega, by omega⟩, ?_⟩
    rintro m v ⟨a, rfl, ha, hak⟩
    refine ⟨fun hlt => ?_, fun _ => by omega⟩
    refine ⟨fun m v => ∃ k : Nat, v = k ∧ k + m = d ∧ (a = a0 → k ≤ b0), ⟨d, 0, rfl, by omega, by omega⟩, ?_⟩
    rintro m' v ⟨b, rfl, hb, hbk⟩
    refine ⟨fun hlt2 => ?_, fun _ => ⟨⟨by omega, by omega⟩, m - 1, by omega, a + 1, by omega, by omega, by omega⟩⟩
    rw [Int.toNat_natCast, Int.toNat_natCast, yfv, yfn (by omega), yfs, yfr (by omega)]
    refine ⟨⟨by omega, by omega⟩, ⟨by omega, by omega⟩, fun _ => hm, fun q9 => ⟨⟨by omega, by omega⟩, m' - 1, by omega, b + 1, by omega, by omega, fun ea => ?_⟩⟩
    have hne : b ≠ b0 := by
      rintro rfl
      rw [ea] at q9; omega
    have := hbk ea
    omega
theorem yeg {d : Nat} (h1 : 1 ≤ d) (hd : d ≤ 12) {l : List (Int × Int)} (hl : yc4 d l) (hn : l.length ≤ 4096) {R : Int → List E3 → Int → Prop} (hm : Many l → R 0 [] 5) (h : ¬ Many l → R d (made d l) 0) : ybB d l R := by
  by_cases q : Many l
  case neg => exact p_graph_Make h1 hd hl hn (not_many q) (h q)
  have hm := hm q
  obtain ⟨a0, b0, h3, h4, h5⟩ := many_ends hl q
  refine ⟨True, fun _ => ⟨fun q => by omega, fun _ => ?_⟩, fun q => by omega, fun _ => ⟨fun q => by omega, fun _ => trivial⟩⟩
  refine ⟨fun m v M => ∃ k : Nat, v = k ∧ k + m = l.length ∧ BagOk d (l.take k) M, ⟨l.length, 0, rfl, by omega, BagOk.nil d⟩, ?_⟩
  rintro m v M ⟨k, rfl, hk, hM⟩
  refine ⟨fun hlt => ?_, fun hge => ?_⟩
  · have hkl : k < l.length := by omega
    rw [Int.toNat_natCast]
    have hx := hl (gx l k) (by rw [ybx hkl]; exact List.getElem_mem hkl)
    have htk : l.take (k + 1) = l.take k ++ [gx l k] := by rw [List.take_add_one, List.getElem?_eq_getElem hkl, ybx hkl]; rfl
    generalize gx l k = e at hx htk ⊢
    obtain ⟨a, b, ha, hb, hab, hbd⟩ := mn_nat hx
    have hg : (mget M [(a : Int), (b : Int)]).getD 0 = cntE (l.take k) a b := hM.get a b
    have hput := hM.put hd hab hbd ha hb
    have hc1 := yfG (l.take k) a b
    have hc2 := yfJ (l.take k) a b
    have hc3 : (l.take k).length ≤ 4096 := by rw [List.length_take]; omega
    have hK := keyOk2 hd hab hbd
    have hin : In64 (cntE (l.take k) a b + 1) := ⟨by omega, by omega⟩
    refine ⟨by omega, True, fun _ => ?_, by decide, ?_⟩
    · refine ⟨fun M' => M' = mput M [(a : Int), (b : Int)] (cntE (l.take k) a b + 1), fun M' hM' => ?_, by decide, by decide, ?_⟩
      · subst hM'
        exact ⟨⟨by omega, by omega⟩, m - 1, by omega, k + 1, by omega, by omega, by rw [htk]; exact hput⟩
      · unfold ybU
        rw [ha, hb]
        refine ⟨⟨hM.key, hK, by rw [hg]; exact hin, by rw [hg]⟩, hM.key, hK, hM.key.put hK _, ?_, ?_⟩
        · rw [ydG, if_pos rfl, Option.getD_some, hg]; exact hin
        · show _ = _
          rw [ydG, if_pos rfl, Option.getD_some, hg]
    · unfold ya4
      obtain ⟨⟨x1, x2⟩, x3, x4⟩ := hx
      exact ⟨fun _ => ⟨fun _ => ⟨by decide, fun _ => ⟨fun _ => trivial, fun q => absurd (decide_eq_true x4) q⟩, fun q => absurd x3 q⟩, fun q => absurd (decide_eq_true x2) q⟩, fun q => absurd x1 q⟩
  · have hk2 : l.take k = l := List.take_of_length_le (by omega)
    rw [hk2] at hM
    have hin : ∃ (j : Nat) (p : List Int × Int), M[j]? = some p ∧ p.2 = cntE l a0 b0 := by
      have hg := hM.get a0 b0
      cases hq : mget M [(a0 : Int), (b0 : Int)] with
      | none => rw [hq] at hg; simp at hg; omega
      | some v =>
        rw [hq] at hg
        have hg : v = cntE l a0 b0 := hg
        obtain ⟨j, hj⟩ := List.getElem?_of_mem (mget_mem hq)
        exact ⟨j, _, hj, hg⟩
    obtain ⟨j0, p0, hj0, hp0⟩ := hin
    refine ⟨fun m seen => seen.Nodup ∧ (∀ j ∈ seen, j < M.length) ∧ m + seen.length = M.length ∧ j0 ∉ seen, ⟨M.length, List.nodup_nil, by simp, by simp, by simp⟩, ?_⟩
    rintro m seen ⟨q1, q2, q3, q4⟩
    refine ⟨hM.key, fun j ka kb kv hj hns => ?_, fun hall => absurd (hall j0 (List.getElem?_eq_some_iff.1 hj0).1) q4⟩
    have hjl : j < M.length := (List.getElem?_eq_some_iff.1 hj).1
    have hlt := seen_lt q1 q2 hjl hns
    refine ⟨fun _ => hm, fun q9 => ⟨m - 1, by omega, ?_, ?_, ?_, ?_⟩⟩
    · rw [List.nodup_append]
      exact ⟨q1, by simp, fun a ha b hb => by rw [List.mem_singleton] at hb; subst hb; exact fun q => hns (q ▸ ha)⟩
    · intro x hx
      rcases List.mem_append.1 hx with hx | hx
      · exact q2 x hx
      · rw [List.mem_singleton] at hx; subst hx; exact hjl
    · rw [List.length_append, List.length_singleton]; omega
    · intro hx
      rcases List.mem_append.1 hx with hx | hx
      · exact q4 hx
      · rw [List.mem_singleton] at hx
        subst hx
        rw [hj0] at hj
        have e : p0 = ([ka, kb], kv) := Option.some.inj hj
        rw [e] at hp0
        have hp0 : kv = cntE l a0 b0 := hp0
        omega
end Go.Proofs.Ytinoedockljfeaa

/- What Delete, Contract, Vertices, Merge, Subdivide, Spread and Collect come to: program and reference. -/
namespace Go.Proofs.Ytinoedockljfeaa
open Go Go.RowKit Go.Shelf Go.Proofs.Try
set_option linter.unusedVariables false
set_option linter.unusedSimpArgs false
theorem cnt_ends {n : Int} : ∀ (es : List E3) (a0 b0 a b : Int), gchk n a0 b0 es = 0 → cntE (yaI es) a b ≤ 50 ∧ (¬ yc6 a0 b0 a b < 0 → cntE (yaI es) a b = 0)
  | [], a0, b0, a, b, _ => by simp [yaI, cntE]
  | x :: t, a0, b0, a, b, h => by
    rw [gchk] at h
    split at h
    case isFalse => cases h
    rename_i h1
    split at h
    case isFalse => cases h
    rename_i h2
    obtain ⟨i1, i2⟩ := cnt_ends t x.1 x.2.1 a b h
    have e : yaI (x :: t) = List.replicate x.2.2.toNat (x.1, x.2.1) ++ yaI t := by unfold yaI; rw [List.flatMap_cons]
    have em : mnF x.1 x.2.1 = x.1 := by simp only [mnF]; split <;> omega
    have ex : mxF x.1 x.2.1 = x.2.1 := by simp only [mxF]; split <;> omega
    have ec : cntE (yaI (x :: t)) a b = (if x.1 = a ∧ x.2.1 = b then (x.2.2.toNat : Int) else 0) + cntE (yaI t) a b := by
      rw [e]
      unfold cntE
      rw [List.countP_append, List.countP_replicate]
      have : isE a b (x.1, x.2.1) = decide (x.1 = a ∧ x.2.1 = b) := by unfold isE; rw [em, ex]
      rw [this]
      by_cases q : x.1 = a ∧ x.2.1 = b <;> simp [q]
    rw [ec]
    have hp := h2.2
    rw [ycF] at hp i2
    rw [ycF]
    by_cases q : x.1 = a ∧ x.2.1 = b
    · have := i2 (by omega)
      rw [if_pos q, this]
      refine ⟨by omega, fun z => by omega⟩
    · rw [if_neg q]
      refine ⟨by omega, fun z => ?_⟩
      have := i2 (by omega)
      omega
theorem GrOk.cnt {n : Nat} {es : List E3} {E : List (Int × Int)} (h : GrOk n es E) : ∀ a b, cntE E a b ≤ 50 := fun a b => by
  rw [← h.e]; exact (cnt_ends es _ _ a b (ydX h.g)).1
theorem cntE_sub {l m : List (Int × Int)} (h : l.Sublist m) (a b : Int) : cntE l a b ≤ cntE m a b := by
  unfold cntE
  exact Int.ofNat_le.2 (h.countP_le)
def othF (E : List (Int × Int)) (e : Nat) : List (Int × Int) := E.take e ++ E.drop (e + 1)
theorem othF_sub (E : List (Int × Int)) (e : Nat) : (othF E e).Sublist E := by
  unfold othF
  have := List.take_append_drop e E
  conv => rhs; rw [← this]
  refine List.Sublist.append_left ?_ _
  rw [← List.drop_drop]
  exact List.drop_sublist 1 _
theorem ygg {E : List (Int × Int)} {e : Nat} (h : e < E.length) : (othF E e).length = E.length - 1 := by
  unfold othF
  rw [List.length_append, List.length_take, List.length_drop]; omega
theorem yc4.oth {n : Nat} {E : List (Int × Int)} (h : yc4 n E) (e : Nat) : yc4 n (othF E e) := fun x hx => h x ((othF_sub E e).subset hx)
theorem oth_few {n : Nat} {es : List E3} {E : List (Int × Int)} (h : GrOk n es E) (e : Nat) : ¬ Many (othF E e) := fun ⟨a, b, q⟩ => by
  have := cntE_sub (othF_sub E e) a b
  have := h.cnt a b
  omega
section
variable {n : Int} {es : List E3} {e : Int}
theorem p_c_Delete (hl : es.length ≤ 40) {R : Int → List E3 → Int → Prop} (he : sglF n es e ≠ 0 → R 0 [] (sglF n es e)) (h : sglF n es e = 0 → R n (made n.toNat (othF (yaI es) e.toNat)) 0) : yfY n es e R := by
  refine ybX (by omega) (fun q => ⟨fun q2 => absurd q2 q, fun _ => he q⟩) fun q => ⟨fun _ => ?_, fun q2 => absurd rfl q2⟩
  have h := h q
  obtain ⟨q1, q2, q3⟩ := ydb q
  obtain ⟨k, rfl, G⟩ := yga q1
  obtain ⟨e, rfl⟩ : ∃ m : Nat, e = m := ⟨e.toNat, by omega⟩
  have hlen := G.len
  rw [Int.toNat_natCast, Int.toNat_natCast] at h
  have et : ((e : Int) + 1).toNat = e + 1 := by omega
  rw [Int.toNat_natCast, et]
  refine ⟨⟨by omega, by omega⟩, ⟨by omega, by omega⟩, ⟨by omega, by omega⟩, p_concat2 (by rw [List.length_take]; omega) (by rw [List.length_drop]; omega) ?_⟩
  exact yeg G.one G.few (G.ok.oth e) (by rw [ygg (by omega)]; omega) (fun z => absurd z (oth_few G e)) fun _ => h
theorem p_others {k : Nat} {E : List (Int × Int)} {m : Nat} (G : GrOk k es E) (hl : es.length ≤ 40) (hm : m < E.length) {R : List (Int × Int) → Prop} (h : R (othF E m)) : yf3 k es m R := by
  have hlen := G.len
  have et : ((m : Int) + 1).toNat = m + 1 := by omega
  refine p_ends8 G (by omega) ?_
  rw [Int.toNat_natCast, et]
  refine ⟨⟨by omega, by omega⟩, ⟨by omega, by omega⟩, ⟨by omega, by omega⟩, by rw [List.length_take]; omega, by rw [List.nil_append, List.length_take, List.length_drop]; omega, h⟩
theorem ygm (hl : es.length ≤ 40) {R : Int → List E3 → Int → Prop} (he : sglF n es e ≠ 0 → R 0 [] (sglF n es e)) (h : sglF n es e = 0 → R n (made n.toNat (othF (yaI es) e.toNat)) 0) : yf4 n es e R := by
  refine ygb (by omega) ⟨fun q => ?_, fun q => he q⟩
  have h := h q
  obtain ⟨q1, q2, q3⟩ := ydb q
  obtain ⟨k, rfl, G⟩ := yga q1
  obtain ⟨e, rfl⟩ : ∃ m : Nat, e = m := ⟨e.toNat, by omega⟩
  have hlen := G.len
  rw [Int.toNat_natCast, Int.toNat_natCast] at h
  exact p_others G hl (by omega) (ygk G.one G.few (G.ok.oth e) (by rw [ygg (by omega)]; omega) (fun z => absurd z (oth_few G e)) fun _ => h)
theorem mvF_in {k : Nat} {a b v : Int} (ha : 0 ≤ a) (hab : a ≤ b) (hb : b < k) (hv : 0 ≤ v ∧ v < k) : 0 ≤ mvF a b v ∧ mvF a b v < ((if a = b then k else k - 1 : Nat) : Int) := by
  unfold mvF
  split
  · split <;> omega
  · split
    · rw [if_neg (by omega)]; omega
    · rw [if_neg (by omega)]; omega
theorem sndF_ok {k d : Nat} {f : Int → Int} {E : List (Int × Int)} (hE : yc4 k E) (hf : ∀ v : Int, 0 ≤ v ∧ v < k → 0 ≤ f v ∧ f v < d) : yc4 d (E.map (sndF f)) := fun x hx => by
  obtain ⟨y, hy, rfl⟩ := List.mem_map.1 hx
  obtain ⟨h1, h2⟩ := hE y hy
  have a1 := hf _ h1
  have a2 := hf _ h2
  simp only [sndF, mnF, mxF]
  split <;> split <;> omega
theorem gx_ok {k : Nat} {E : List (Int × Int)} (hE : yc4 k E) {m : Nat} (hm : m < E.length) : (0 ≤ (gx E m).1 ∧ (gx E m).1 < k) ∧ 0 ≤ (gx E m).2 ∧ (gx E m).2 < k := hE _ (by rw [ybx hm]; exact List.getElem_mem hm)
theorem mn_id {a b : Int} (h : a ≤ b) : mnF a b = a ∧ mxF a b = b := by simp only [mnF, mxF]; constructor <;> split <;> omega
def conD (k : Nat) (x : Int × Int) : Nat := if x.1 = x.2 then k else k - 1
def conL (E : List (Int × Int)) (m : Nat) : List (Int × Int) := (othF E m).map (sndF (mvF (gx E m).1 (gx E m).2))
theorem p_fewer {k : Nat} (hk : k ≤ 12) {x : Int × Int} (h1 : 1 ≤ k) {R : Int → Prop} (h : R (conD k x)) : ybf k x.1 x.2 R := by
  unfold conD at h
  refine ⟨fun q => ?_, fun q => ⟨⟨by omega, by omega⟩, ?_⟩⟩
  · rw [if_pos q] at h; exact h
  · rw [if_neg q] at h
    have e : ((k - 1 : Nat) : Int) = (k : Int) - 1 := by omega
    rwa [e] at h
theorem conD_in {k : Nat} {E : List (Int × Int)} {m : Nat} (hE : yc4 k E) (hle : ∀ e ∈ E, e.1 ≤ e.2) (hm : m < E.length) (hk : k ≤ 12) : 1 ≤ conD k (gx E m) ∧ conD k (gx E m) ≤ 12 ∧ yc4 (conD k (gx E m)) (conL E m) := by
  have hx := gx_ok hE hm
  have hl := hle (gx E m) (by rw [ybx hm]; exact List.getElem_mem hm)
  refine ⟨?_, ?_, sndF_ok (hE.oth m) fun v hv => ?_⟩
  · unfold conD; split <;> omega
  · unfold conD; split <;> omega
  · unfold conD
    exact mvF_in hx.1.1 hl hx.2.2 hv
theorem conL_len {E : List (Int × Int)} {m : Nat} (h : m < E.length) : (conL E m).length = E.length - 1 := by unfold conL; rw [List.length_map, ygg h]
theorem yen (hl : es.length ≤ 40) {R : Int → List E3 → Int → Prop} (he : sglF n es e ≠ 0 → R 0 [] (sglF n es e)) (hm : sglF n es e = 0 → Many (conL (yaI es) e.toNat) → R 0 [] 5)
    (h : sglF n es e = 0 → ¬ Many (conL (yaI es) e.toNat) → R (conD n.toNat (gx (yaI es) e.toNat)) (made (conD n.toNat (gx (yaI es) e.toNat)) (conL (yaI es) e.toNat)) 0) : ya0 n es e R := by
  refine ybX (by omega) (fun q => ⟨fun q2 => absurd q2 q, fun _ => he q⟩) fun q => ⟨fun _ => ?_, fun q2 => absurd rfl q2⟩
  replace h := h q
  replace hm := hm q
  clear he
  obtain ⟨q1, q2, q3⟩ := ydb q
  obtain ⟨k, rfl, G⟩ := yga q1
  obtain ⟨e, rfl⟩ : ∃ m : Nat, e = m := ⟨e.toNat, by omega⟩
  have hlen := G.len
  have hee : e < (yaI es).length := by omega
  simp only [Int.toNat_natCast] at h hm
  have et : ((e : Int) + 1).toNat = e + 1 := by omega
  rw [Int.toNat_natCast, et]
  obtain ⟨c1, c2, c3⟩ := conD_in G.ok G.le hee G.few
  have hx := gx_ok G.ok hee
  have hxl := G.le (gx (yaI es) e) (by rw [ybx hee]; exact List.getElem_mem hee)
  have key : ∀ J2 : Int → Int → List E3 → Prop, (∀ v v2 v3, R v2 v3 v → J2 v v2 v3) → ((0 ≤ (e : Int) ∧ (e : Int) ≤ (((yaI es).length : Nat) : Int)) ∧ (In64 ((e : Int) + 1) ∧ ((0 ≤ ((e : Int) + 1) ∧ ((e : Int) + 1) ≤ (((yaI es).length : Nat) : Int)) ∧ ybf k (gx (yaI es) e).1 (gx (yaI es) e).2 (fun (r3 : Int) => ya2 ([((yaI es).take e), ((yaI es).drop (e + 1))]) (fun (r4 : List (Int × Int)) => (yaB (gx (yaI es) e).1 (gx (yaI es) e).2 (fun (r5 : Int) (r6 : Int) => ybm r4 (fun x R => yaD x r5 r6 R) (fun (r7 : List (Int × Int)) => ybB r3 r7 (fun (r8 : Int) (r9 : List (Int × Int × Int)) (r10 : Int) => J2 r10 r8 r9))))))))) := by
    intro J2 hJ
    refine ⟨⟨by omega, by omega⟩, ⟨by omega, by omega⟩, ⟨by omega, by omega⟩, p_fewer G.few G.one (p_concat2 (by rw [List.length_take]; omega) (by rw [List.length_drop]; omega) ?_)⟩
    unfold yaB
    rw [(mn_id hxl).1, (mn_id hxl).2]
    refine ydx (by have := ygg hee; unfold othF at this; rw [this]; omega) (fun y hy R' => ?_) (yeg c1 c2 c3 (by rw [conL_len hee]; omega) (fun z => hJ _ _ _ (hm z)) fun z => hJ _ _ _ (h z))
    have := (G.ok.oth e) y hy
    have hk := G.few
    exact ⟨fun z => ycV (by omega) z, fun z => ycV (by omega) z⟩
  exact ⟨⟨by omega, by omega⟩, by decide, by decide, fun v v2 v3 => R v2 v3 v, fun v v2 v3 z => z, key _ fun _ _ _ z => z, key _ fun _ _ _ z => z⟩
theorem ygs {k : Nat} {E : List (Int × Int)} {m : Nat} (G : GrOk k es E) (hl : es.length ≤ 40) (hm : m < E.length) {R : List Int → Prop} (h : R (plcF k (gx E m).1 (gx E m).2)) : ycM k es m R := by
  have hx := gx_ok G.ok hm
  have hxl := G.le (gx E m) (by rw [ybx hm]; exact List.getElem_mem hm)
  refine p_ends8 G (by omega) ?_
  rw [Int.toNat_natCast]
  refine ⟨⟨by omega, by omega⟩, by decide, by decide, fun q => ?_, fun q => ?_⟩
  · exact yeM G.few (.inl ⟨rfl, rfl, q⟩) h
  · exact yeM G.few (.inr ⟨q, (mn_id hxl).1.symm, (mn_id hxl).2.symm⟩) h
theorem yf7 (hl : es.length ≤ 40) {R : Int → List E3 → Int → Prop} (he : sglF n es e ≠ 0 → R 0 [] (sglF n es e)) (hm : sglF n es e = 0 → Many (conL (yaI es) e.toNat) → R 0 [] 5)
    (h : sglF n es e = 0 → ¬ Many (conL (yaI es) e.toNat) → R (conD n.toNat (gx (yaI es) e.toNat)) (made (conD n.toNat (gx (yaI es) e.toNat)) (conL (yaI es) e.toNat)) 0) : yf2 n es e R := by
  refine ygb (by omega) ⟨fun q => ?_, fun q => he q⟩
  replace h := h q
  replace hm := hm q
  clear he
  obtain ⟨q1, q2, q3⟩ := ydb q
  obtain ⟨k, rfl, G⟩ := yga q1
  obtain ⟨e, rfl⟩ : ∃ m : Nat, e = m := ⟨e.toNat, by omega⟩
  have hlen := G.len
  have hee : e < (yaI es).length := by omega
  simp only [Int.toNat_natCast] at h hm
  obtain ⟨c1, c2, c3⟩ := conD_in G.ok G.le hee G.few
  have hk1 := G.one
  have hk2 := G.few
  have key : yf3 k es e (fun (r2 : List (Int × Int)) => ycM k es e (fun (r3 : List Int) => ydk r2 r3 (fun (r4 : List (Int × Int)) => yfq (conD k (gx (yaI es) e)) r4 (fun (r5 : Int) (r6 : List (Int × Int × Int)) (r7 : Int) => R r5 r6 r7)))) :=
    p_others G hl hee (ygs G hl hee (p_r12_sent (by have := ygg hee; omega) (G.ok.oth e) (ygk c1 c2 c3 (by rw [conL_len hee]; omega) hm h)))
  refine p_ends8 G (by omega) ?_
  rw [Int.toNat_natCast]
  refine ⟨⟨by omega, by omega⟩, by decide, by decide, fun d => d = (conD k (gx (yaI es) e) : Int), fun d hd => by rw [hd]; exact key, fun z => ?_, fun z => ⟨⟨by omega, by omega⟩, ?_⟩⟩
  · unfold conD; rw [if_pos z]
  · unfold conD; rw [if_neg z]; omega
theorem ygc (hl : es.length ≤ 40) {R : List Int → Int → Prop} (he : sglF n es e ≠ 0 → R [] (sglF n es e)) (h : sglF n es e = 0 → R (plcF n.toNat (gx (yaI es) e.toNat).1 (gx (yaI es) e.toNat).2) 0) : ybn n es e R := by
  refine ybX (by omega) (fun q => ⟨fun q2 => absurd q2 q, fun _ => he q⟩) fun q => ⟨fun _ => ?_, fun q2 => absurd rfl q2⟩
  have h := h q
  obtain ⟨q1, q2, q3⟩ := ydb q
  obtain ⟨k, rfl, G⟩ := yga q1
  obtain ⟨e, rfl⟩ : ∃ m : Nat, e = m := ⟨e.toNat, by omega⟩
  have hee : e < (yaI es).length := by omega
  simp only [Int.toNat_natCast] at h ⊢
  have hxl := G.le (gx (yaI es) e) (by rw [ybx hee]; exact List.getElem_mem hee)
  refine ⟨⟨by omega, by omega⟩, by decide, by decide, ?_⟩
  unfold yaB
  rw [(mn_id hxl).1, (mn_id hxl).2]
  exact ydg G.few h
theorem yge (hl : es.length ≤ 40) {R : List Int → Int → Prop} (he : sglF n es e ≠ 0 → R [] (sglF n es e)) (h : sglF n es e = 0 → R (plcF n.toNat (gx (yaI es) e.toNat).1 (gx (yaI es) e.toNat).2) 0) : yf1 n es e R := by
  refine ygb (by omega) ⟨fun q => ?_, fun q => he q⟩
  have h := h q
  obtain ⟨q1, q2, q3⟩ := ydb q
  obtain ⟨k, rfl, G⟩ := yga q1
  obtain ⟨e, rfl⟩ : ∃ m : Nat, e = m := ⟨e.toNat, by omega⟩
  simp only [Int.toNat_natCast] at h
  exact ygs G hl (by omega) h
end
def mrgF (n : Int) (es : List E3) (a b : Int) : Int := if yaZ n es ≠ 0 then yaZ n es else if (a < 0 ∨ n ≤ a) ∨ (b < 0 ∨ n ≤ b) then 2 else if a = b then 7 else 0
def mrgL (es : List E3) (a b : Int) : List (Int × Int) := (yaI es).map (sndF (mvF (mnF a b) (mxF a b)))
section
variable {n : Int} {es : List E3} {a b : Int}
theorem mrg_in {k : Nat} {E : List (Int × Int)} (G : GrOk k es E) (hne : a ≠ b) (ha : 0 ≤ a ∧ a < k) (hb : 0 ≤ b ∧ b < k) : 1 ≤ k - 1 ∧ yc4 (k - 1) (mrgL es a b) := by
  refine ⟨by omega, ?_⟩
  unfold mrgL
  rw [G.e]
  refine sndF_ok G.ok fun v hv => ?_
  have h1 : 0 ≤ mnF a b ∧ mnF a b < mxF a b ∧ mxF a b < k := by simp only [mnF, mxF]; split <;> split <;> omega
  have := mvF_in (k := k) h1.1 (by omega) h1.2.2 hv
  rwa [if_neg (by omega)] at this
theorem ygB (hl : es.length ≤ 40) {R : Int → List E3 → Int → Prop} (he : mrgF n es a b ≠ 0 → R 0 [] (mrgF n es a b)) (hm : mrgF n es a b = 0 → Many (mrgL es a b) → R 0 [] 5) (h : mrgF n es a b = 0 → ¬ Many (mrgL es a b) → R (n - 1) (made (n.toNat - 1) (mrgL es a b)) 0) : yfZ n es a b R := by
  refine yds (by omega) (fun q => ⟨fun q2 => absurd q2 q, fun _ => ?_⟩) fun q => ⟨fun _ => ?_, fun q2 => absurd rfl q2⟩
  · have e1 : mrgF n es a b = yaZ n es := by unfold mrgF; rw [if_pos q]
    rw [e1] at he; exact he q
  obtain ⟨k, rfl, G⟩ := yga q
  have hlen := G.len
  have hk1 := G.one
  have hk2 := G.few
  have g0 : gi [a, b] 0 = a := rfl
  have g1 : gi [a, b] 1 = b := rfl
  have h2 : ((a < 0 ∨ (k : Int) ≤ a) ∨ (b < 0 ∨ (k : Int) ≤ b)) → R 0 [] 2 := fun z => by
    have e1 : mrgF k es a b = 2 := by unfold mrgF; rw [if_neg (fun z => z q), if_pos z]
    rw [e1] at he; exact he (by decide)
  refine ⟨fun m v => Cnt 2 (fun j => (0 < j → 0 ≤ a ∧ a < k) ∧ (1 < j → 0 ≤ b ∧ b < k)) m v, Cnt.start ⟨fun z => by omega, fun z => by omega⟩, ?_⟩
  rintro m _ ⟨j, rfl, rfl, hj, hI1, hI2⟩
  simp only [Int.toNat_natCast]
  refine ⟨fun hlt => ?_, fun hge => ?_⟩
  · rcases (show j = 0 ∨ j = 1 by omega) with rfl | rfl
    · rw [g0]
      exact ⟨⟨by omega, by omega⟩, fun z => h2 (.inl (.inl z)), fun z => ⟨fun z2 => h2 (.inl (.inr z2)), fun z2 => Cnt.next (by omega) (by omega) ⟨fun _ => ⟨by omega, by omega⟩, fun z => by omega⟩⟩⟩
    · rw [g1]
      exact ⟨⟨by omega, by omega⟩, fun z => h2 (.inr (.inl z)), fun z => ⟨fun z2 => h2 (.inr (.inr z2)), fun z2 => Cnt.next (by omega) (by omega) ⟨fun _ => hI1 (by omega), fun _ => ⟨by omega, by omega⟩⟩⟩⟩
  · have ha := hI1 (by omega)
    have hb := hI2 (by omega)
    refine ⟨fun z => ?_, fun z => ⟨⟨by omega, by omega⟩, ?_⟩⟩
    · have e1 : mrgF k es a b = 7 := by unfold mrgF; rw [if_neg (fun z => z q), if_neg (by omega), if_pos z]
      rw [e1] at he; exact he (by decide)
    · have e1 : mrgF k es a b = 0 := by unfold mrgF; rw [if_neg (fun z => z q), if_neg (by omega), if_neg z]
      have h := h e1
      have hm := hm e1
      obtain ⟨c1, c3⟩ := mrg_in G z ha hb
      have ed : (k : Int) - 1 = ((k - 1 : Nat) : Int) := by omega
      rw [Int.toNat_natCast, ed] at h
      rw [ed]
      refine ydx (by omega) (fun y hy R' => ?_) (yeg c1 (by omega) c3 (by unfold mrgL; rw [List.length_map]; omega) hm h)
      have := G.ok y hy
      exact ⟨fun z => ycV (by omega) z, fun z => ycV (by omega) z⟩
theorem ygf (hl : es.length ≤ 40) {R : Int → List E3 → Int → Prop} (he : mrgF n es a b ≠ 0 → R 0 [] (mrgF n es a b)) (hm : mrgF n es a b = 0 → Many (mrgL es a b) → R 0 [] 5) (h : mrgF n es a b = 0 → ¬ Many (mrgL es a b) → R (n - 1) (made (n.toNat - 1) (mrgL es a b)) 0) : yf6 n es a b R := by
  refine ye7 (by omega) ⟨fun q => ?_, fun q => ?_⟩
  case refine_2 =>
    have e1 : mrgF n es a b = yaZ n es := by unfold mrgF; rw [if_pos q]
    rw [e1] at he; exact he q
  obtain ⟨k, rfl, G⟩ := yga q
  have hlen := G.len
  have hk1 := G.one
  have hk2 := G.few
  have h2 : ((a < 0 ∨ (k : Int) ≤ a) ∨ (b < 0 ∨ (k : Int) ≤ b)) → R 0 [] 2 := fun z => by
    have e1 : mrgF k es a b = 2 := by unfold mrgF; rw [if_neg (fun z => z q), if_pos z]
    rw [e1] at he; exact he (by decide)
  refine ⟨(0 ≤ a ∧ a < k) ∧ (0 ≤ b ∧ b < k), fun ⟨ha, hb⟩ => ?_, yer ⟨fun z => ?_, fun z => ?_⟩⟩
  · refine ⟨fun z => ?_, fun z => ⟨⟨by omega, by omega⟩, ?_⟩⟩
    · have e1 : mrgF k es a b = 7 := by unfold mrgF; rw [if_neg (fun z => z q), if_neg (by omega), if_pos z]
      rw [e1] at he; exact he (by decide)
    · have e1 : mrgF k es a b = 0 := by unfold mrgF; rw [if_neg (fun z => z q), if_neg (by omega), if_neg z]
      have h := h e1
      have hm := hm e1
      obtain ⟨c1, c3⟩ := mrg_in G z ha hb
      have ed : (k : Int) - 1 = ((k - 1 : Nat) : Int) := by omega
      rw [Int.toNat_natCast, ed] at h
      rw [ed]
      exact p_ends8 G (by omega) (yeM hk2 (.inr ⟨z, rfl, rfl⟩) (p_r12_sent (by omega) G.ok (ygk c1 (by omega) c3 (by unfold mrgL; rw [List.length_map]; omega) hm h)))
  · have z := of_decide_eq_true z
    refine yer ⟨fun z2 => ⟨z, of_decide_eq_true z2⟩, fun z2 => h2 (.inr ?_)⟩
    have z2 : ¬ (0 ≤ b ∧ b < (k : Int)) := fun z3 => z2 (decide_eq_true z3)
    omega
  · have z : ¬ (0 ≤ a ∧ a < (k : Int)) := fun z3 => z (decide_eq_true z3)
    exact h2 (.inl (by omega))
end
end Go.Proofs.Ytinoedockljfeaa

/- What Subdivide, Spread and Collect come to: program and reference. -/
namespace Go.Proofs.Ytinoedockljfeaa
open Go Go.RowKit Go.Shelf Go.Proofs.Try
set_option linter.unusedVariables false
set_option linter.unusedSimpArgs false
def finF (n : Int) (es : List E3) (k : Int) : Int := if yaZ n es ≠ 0 then yaZ n es else if k < 1 ∨ 12 < k then 2 else if 12 < n + (k - 1) * ((yaI es).length : Int) then 5 else 0
section
variable {n : Int} {es : List E3} {k : Int}
theorem fin_mul {k : Int} (h : ¬ (k < 1 ∨ 12 < k)) {L : Nat} (hL : L ≤ 2000) : 0 ≤ (k - 1) * (L : Int) ∧ (k - 1) * (L : Int) ≤ 22000 := by
  have h1 := Int.mul_nonneg (show 0 ≤ k - 1 by omega) (show (0 : Int) ≤ L by omega)
  have h2 := Int.mul_le_mul (show k - 1 ≤ 11 by omega) (show (L : Int) ≤ 2000 by omega) (by omega) (by decide)
  omega
theorem p_c_finer (hl : es.length ≤ 40) {R : List (Int × Int) → Int → Prop} (he : finF n es k ≠ 0 → R [] (finF n es k)) (h : finF n es k = 0 → R (yaI es) 0) : ybZ n es k R := by
  refine yds (by omega) (fun q => ⟨fun q2 => absurd q2 q, fun _ => ?_⟩) fun q => ⟨fun _ => ?_, fun q2 => absurd rfl q2⟩
  · have e1 : finF n es k = yaZ n es := by unfold finF; rw [if_pos q]
    rw [e1] at he; exact he q
  obtain ⟨N, rfl, G⟩ := yga q
  have hlen := G.len
  have hn := G.few
  have h2 : (k < 1 ∨ 12 < k) → R [] 2 := fun z => by
    have e1 : finF N es k = 2 := by unfold finF; rw [if_neg (fun z => z q), if_pos z]
    rw [e1] at he; exact he (by decide)
  refine ⟨¬ (k < 1 ∨ 12 < k), fun z => ?_, fun z => h2 (.inl z), fun z => ⟨fun z2 => h2 (.inr z2), fun z2 => by omega⟩⟩
  have hb := fin_mul z (L := (yaI es).length) (by omega)
  refine ⟨⟨by omega, by omega⟩, ⟨by omega, by omega⟩, ⟨by omega, by omega⟩, fun z2 => ?_, fun z2 => ?_⟩
  · have e1 : finF N es k = 5 := by unfold finF; rw [if_neg (fun z => z q), if_neg z, if_pos z2]
    rw [e1] at he; exact he (by decide)
  · exact h (by unfold finF; rw [if_neg (fun z => z q), if_neg z, if_neg z2])
theorem yfF (hl : es.length ≤ 40) (h : finF n es k = 0) : ∃ N j : Nat, n = N ∧ k = ((j + 1 : Nat) : Int) ∧ GrOk N es (yaI es) ∧ j ≤ 11 ∧ N + j * (yaI es).length ≤ 12 := by
  unfold finF at h
  split at h
  · rename_i q; exact absurd h q
  rename_i q
  have q : yaZ n es = 0 := Classical.byContradiction q
  split at h
  · cases h
  split at h
  · cases h
  rename_i q1 q2
  obtain ⟨N, rfl, G⟩ := yga q
  obtain ⟨j, hj⟩ : ∃ j : Nat, k = ((j + 1 : Nat) : Int) := ⟨(k - 1).toNat, by omega⟩
  refine ⟨N, j, rfl, hj, G, by omega, ?_⟩
  have e : (k - 1) * ((yaI es).length : Int) = ((j * (yaI es).length : Nat) : Int) := by
    rw [show k - 1 = (j : Int) by omega]; exact (Int.natCast_mul _ _).symm
  rw [e] at q2
  omega
end
def atF (a : Int) (nx j : Nat) : Int := if j = 0 then a else ((nx + j - 1 : Nat) : Int)
def wyF (a : Int) (nx j : Nat) : List (Int × Int) := (List.range j).map fun i => (atF a nx i, ((nx + i : Nat) : Int))
theorem wyF_snoc (a : Int) (nx j : Nat) : wyF a nx (j + 1) = wyF a nx j ++ [(atF a nx j, ((nx + j : Nat) : Int))] := by simp [wyF, List.range_succ]
theorem wyF_len (a : Int) (nx j : Nat) : (wyF a nx j).length = j := by simp [wyF]
def pthF (E : List (Int × Int)) (N j i : Nat) : List (Int × Int) := wyF (gx E i).1 (N + i * j) j ++ [(atF (gx E i).1 (N + i * j) j, (gx E i).2)]
def subF (E : List (Int × Int)) (N j i : Nat) : List (Int × Int) := (List.range i).flatMap (pthF E N j)
theorem ye5 (E : List (Int × Int)) (N j i : Nat) : subF E N j (i + 1) = subF E N j i ++ pthF E N j i := by simp [subF, List.range_succ, List.flatMap_append]
theorem pthF_len (E : List (Int × Int)) (N j i : Nat) : (pthF E N j i).length = j + 1 := by simp [pthF, wyF_len]
theorem yfC (E : List (Int × Int)) (N j : Nat) : ∀ i, (subF E N j i).length = i * (j + 1)
  | 0 => by simp [subF]
  | i + 1 => by rw [ye5, List.length_append, yfC E N j i, pthF_len, Nat.add_mul]; omega
theorem atF_in {a : Int} {nx j d : Nat} (ha : 0 ≤ a ∧ a < d) (h : nx + j ≤ d) : 0 ≤ atF a nx j ∧ atF a nx j < d := by
  unfold atF; split <;> omega
theorem subF_ok {E : List (Int × Int)} {N j : Nat} (hE : yc4 N E) : yc4 (N + E.length * j) (subF E N j E.length) := fun x hx => by
  unfold subF at hx
  obtain ⟨i, hi, hx⟩ := List.mem_flatMap.1 hx
  have hi := List.mem_range.1 hi
  have hm : (i + 1) * j ≤ E.length * j := Nat.mul_le_mul_right j hi
  rw [Nat.add_mul] at hm
  have hg := gx_ok hE hi
  unfold pthF at hx
  rcases List.mem_append.1 hx with hx | hx
  · unfold wyF at hx
    obtain ⟨t, ht, rfl⟩ := List.mem_map.1 hx
    have ht := List.mem_range.1 ht
    have := atF_in (a := (gx E i).1) (nx := N + i * j) (j := t) (d := N + E.length * j) (by omega) (by omega)
    simp only; omega
  · rw [List.mem_singleton] at hx
    subst hx
    have := atF_in (a := (gx E i).1) (nx := N + i * j) (j := j) (d := N + E.length * j) (by omega) (by omega)
    simp only; omega
theorem subF_zero (E : List (Int × Int)) (N : Nat) : subF E N 0 E.length = E := by
  have key : ∀ i, i ≤ E.length → subF E N 0 i = E.take i := by
    intro i
    induction i with
    | zero => intro _; simp [subF]
    | succ i ih =>
      intro hi
      have e : pthF E N 0 i = [gx E i] := by simp [pthF, wyF, atF]
      rw [ye5, ih (by omega), e, List.take_add_one, List.getElem?_eq_getElem (show i < E.length by omega), ybx (show i < E.length by omega)]
      rfl
  rw [key _ (Nat.le_refl _), List.take_length]
theorem subF_few {es : List E3} {E : List (Int × Int)} {N j : Nat} (G : GrOk N es E) (h : N + j * E.length ≤ 12) : ¬ Many (subF E N j E.length) := fun ⟨a, b, q⟩ => by
  rcases Nat.eq_zero_or_pos j with rfl | hj
  · rw [subF_zero] at q
    have := G.cnt a b; omega
  · have h1 := yfJ (subF E N j E.length) a b
    rw [yfC, Nat.mul_add, Nat.mul_one] at h1
    have h2 : E.length ≤ j * E.length := Nat.le_mul_of_pos_left _ hj
    rw [Nat.mul_comm E.length j] at h1
    omega
section
variable {n : Int} {es : List E3} {k : Int}
theorem yfw (hl : es.length ≤ 40) {R : Int → List E3 → Int → Prop} (he : finF n es k ≠ 0 → R 0 [] (finF n es k))
    (h : finF n es k = 0 → R ((n.toNat + (yaI es).length * (k.toNat - 1) : Nat) : Int) (made (n.toNat + (yaI es).length * (k.toNat - 1)) (subF (yaI es) n.toNat (k.toNat - 1) (yaI es).length)) 0) : ybj n es k R := by
  refine p_c_finer hl (fun q => ⟨fun q2 => absurd q2 q, fun _ => he q⟩) fun q => ⟨fun _ => ?_, fun q2 => absurd rfl q2⟩
  replace h := h q
  clear he
  obtain ⟨N, j, rfl, rfl, G, hj, h12⟩ := yfF hl q
  have hlen := G.len
  have ek : ((j + 1 : Nat) : Int).toNat - 1 = j := by omega
  rw [Int.toNat_natCast, ek] at h
  generalize hEE : yaI es = E at *
  have hN1 := G.one
  have hjl : E.length * j = j * E.length := Nat.mul_comm _ _
  refine ⟨fun m out next v => Cnt E.length (fun i => out = subF E N j i ∧ next = ((N + i * j : Nat) : Int)) m v, Cnt.start ⟨rfl, by simp⟩, ?_⟩
  rintro m out next _ ⟨i, rfl, rfl, hi, rfl, rfl⟩
  simp only [Int.toNat_natCast]
  have hsl := yfC E N j i
  have him : i * (j + 1) ≤ E.length * (j + 1) := Nat.mul_le_mul_right _ hi
  have hmm : E.length * (j + 1) = E.length * j + E.length := by rw [Nat.mul_add, Nat.mul_one]
  refine ⟨fun hlt => ?_, fun hge => ?_⟩
  · have hil : i < E.length := by omega
    have hm : (i + 1) * j ≤ E.length * j := Nat.mul_le_mul_right j hil
    have hm2 : (i + 1) * j = i * j + j := by rw [Nat.add_mul, Nat.one_mul]
    have hg := gx_ok G.ok hil
    refine ⟨⟨by omega, hlt⟩, by decide, ⟨by omega, by omega⟩, fun m3 out2 next2 at2 t => Cnt j (fun t => out2 = subF E N j i ++ wyF (gx E i).1 (N + i * j) t ∧ next2 = ((N + i * j + t : Nat) : Int) ∧ at2 = atF (gx E i).1 (N + i * j) t) m3 t, Cnt.start ⟨by simp [wyF], by simp, by simp [atF]⟩, ?_⟩
    rintro m3 out2 next2 at2 _ ⟨t, rfl, rfl, ht, rfl, rfl, rfl⟩
    have hwl := wyF_len (gx E i).1 (N + i * j) t
    refine ⟨fun hlt2 => ⟨by rw [List.length_append]; omega, ⟨by omega, by omega⟩, Cnt.next (by omega) (by omega) ⟨?_, by omega, ?_⟩⟩, fun hge2 => ⟨by decide, by rw [List.length_append]; omega, Cnt.next hil (by omega) ⟨?_, ?_⟩⟩⟩
    · rw [wyF_snoc, List.append_assoc]
    · simp [atF]
    · have : t = j := by omega
      subst this
      rw [ye5, pthF, List.append_assoc]
    · have : t = j := by omega
      subst this
      omega
  · have e : i = E.length := by omega
    subst e
    have hok := subF_ok (j := j) G.ok
    exact yeg (by omega) (by omega) hok (by omega) (fun z => absurd z (subF_few G h12)) fun _ => h
end
def chpF (n : Int) (d : List Int) : Int := if (d.length : Int) ≠ n then 8 else if ∃ x ∈ d, x < -1048576 ∨ 1048576 < x then 2 else 0
theorem yfL {n : Int} {es : List E3} {d : List Int} (hl : d.length ≤ 1000000) {R : Int → Prop} (h : R (chpF n d)) : ybF n es d R := by
  refine ⟨fun q => ?_, fun q => ?_⟩
  · refine ycA (p := fun x => decide (x < -1048576 ∨ 1048576 < x)) (by omega) (fun x R' hR => ⟨fun z => ?_, fun z => ?_⟩) ?_
    · rw [decide_eq_true (.inl z)] at hR; exact hR
    · rw [show decide (x < -1048576 ∨ 1048576 < x) = decide (1048576 < x) from by
        by_cases z2 : 1048576 < x
        · rw [decide_eq_true z2, decide_eq_true (.inr z2)]
        · rw [decide_eq_false z2, decide_eq_false (by omega)]] at hR
      exact hR
    · refine ⟨fun z => ?_, fun z => ?_⟩
      · have e1 : chpF n d = 2 := by
          unfold chpF
          rw [if_neg (fun z => z q), if_pos]
          obtain ⟨x, hx, hp⟩ := List.any_eq_true.1 z
          exact ⟨x, hx, of_decide_eq_true hp⟩
        rw [e1] at h; exact h
      · have e1 : chpF n d = 0 := by
          unfold chpF
          rw [if_neg (fun z => z q), if_neg]
          rintro ⟨x, hx, hp⟩
          exact z (List.any_eq_true.2 ⟨x, hx, decide_eq_true hp⟩)
        rw [e1] at h; exact h
  · have e1 : chpF n d = 8 := by unfold chpF; rw [if_pos q]
    rw [e1] at h; exact h
theorem chp_zero {n : Int} {d : List Int} (h : chpF n d = 0) : (d.length : Int) = n ∧ ∀ k, k < d.length → -1048576 ≤ gi d k ∧ gi d k ≤ 1048576 := by
  unfold chpF at h
  split at h
  · cases h
  · rename_i q
    split at h
    · cases h
    · rename_i q2
      refine ⟨Classical.byContradiction q, fun k hk => ?_⟩
      have : ¬ (gi d k < -1048576 ∨ 1048576 < gi d k) := fun z => q2 ⟨_, gi_mem hk, z⟩
      omega
section
variable {n : Int} {es : List E3} {k : Int} {d : List Int}
end
def colF (m : Nat) (f : Int → Int) (d : List Int) : Nat → List Int
  | 0 => List.replicate m 0
  | k + 1 => (colF m f d k).set (f k).toNat (gi (colF m f d k) (f k).toNat + gi d k)
theorem yd0 (m : Nat) (f : Int → Int) (d : List Int) : ∀ k, (colF m f d k).length = m
  | 0 => by simp [colF]
  | k + 1 => by rw [colF, List.length_set, yd0 m f d k]
theorem colF_bound {m : Nat} {f : Int → Int} {d : List Int} (hd : ∀ k, k < d.length → -1048576 ≤ gi d k ∧ gi d k ≤ 1048576) : ∀ k, k ≤ d.length → ∀ i, i < m → -1048576 * (k : Int) ≤ gi (colF m f d k) i ∧ gi (colF m f d k) i ≤ 1048576 * (k : Int)
  | 0, _, i, hi => by
    have : gi (colF m f d 0) i = 0 := by rw [colF, ybl (by simpa using hi)]; simp
    omega
  | k + 1, hk, i, hi => by
    have ih := colF_bound (m := m) (f := f) hd k (by omega)
    have h1 := hd k (by omega)
    have h0 := ih i hi
    rw [colF]
    by_cases q : (f k).toNat < m
    · rw [ydQ (by rw [yd0]; exact q)]
      have h2 := ih _ q
      split <;> omega
    · rw [List.set_eq_of_length_le (by rw [yd0]; omega)]
      omega
section
variable {n : Int} {es : List E3} {e : Int} {d : List Int}
def cltF (n : Int) (es : List E3) (e : Int) (d : List Int) : List Int := colF (conD n.toNat (gx (yaI es) e.toNat)) (mvF (gx (yaI es) e.toNat).1 (gx (yaI es) e.toNat).2) d n.toNat
theorem col_loop {N m : Nat} {f : Int → Int} {P : List Int} {R : List Int → Prop} (hN : N ≤ 12) (hP : P.length = N) (hPf : ∀ k, k < N → gi P k = f k) (hf : ∀ v : Int, 0 ≤ v ∧ v < N → 0 ≤ f v ∧ f v < m) (hdl : d.length = N) (hd : ∀ k, k < d.length → -1048576 ≤ gi d k ∧ gi d k ≤ 1048576) (h : R (colF m f d N)) {t : Int} (ht : t = N) :
    (∃ I2 : Nat → Int → (List Int) → Prop, (∃ m0, I2 m0 0 (List.replicate m (0 : Int))) ∧ ∀ (m2 : Nat) (v : Int) (v2 : List Int), I2 m2 v v2 → 
    ((v < t →
    ((0 ≤ v ∧ v < ((P.length : Nat) : Int)) ∧
    ((0 ≤ (gi P v.toNat) ∧ (gi P v.toNat) < ((v2.length : Nat) : Int)) ∧
    ((0 ≤ v ∧ v < ((d.length : Nat) : Int)) ∧
    (In64 ((gi v2 (gi P v.toNat).toNat) + (gi d v.toNat)) ∧
    (In64 (v + 1) ∧
    ∃ m3, m3 < m2 ∧ I2 m3 (v + 1) (v2.set (gi P v.toNat).toNat ((gi v2 (gi P v.toNat).toNat) + (gi d v.toNat))))))))) ∧
    (¬ (v < t) →
    R v2))) := by
  subst ht
  refine ⟨fun q v out => Cnt N (fun k => out = colF m f d k) q v, Cnt.start rfl, ?_⟩
  rintro q _ out ⟨k, rfl, rfl, hk, rfl⟩
  simp only [Int.toNat_natCast]
  refine ⟨fun hlt => ?_, fun hge => ?_⟩
  · have hkN : k < N := by omega
    rw [hPf k hkN, yd0]
    have h1 := hf k (by omega)
    have h2 := hd k (by omega)
    have h3 := colF_bound (m := m) (f := f) hd k (by omega) (f k).toNat (by omega)
    refine ⟨⟨by omega, by omega⟩, h1, ⟨by omega, by omega⟩, ⟨by omega, by omega⟩, Cnt.next hkN (by omega) rfl⟩
  · have : k = N := by omega
    subst this; exact h
theorem yfT (hl : es.length ≤ 40) (hdl : d.length ≤ 40) {R : List Int → Int → Prop} (he : sglF n es e ≠ 0 → R [] (sglF n es e)) (hc : sglF n es e = 0 → chpF n d ≠ 0 → R [] (chpF n d))
    (h : sglF n es e = 0 → chpF n d = 0 → (chpF ((cltF n es e d).length : Int) (cltF n es e d) = 0 → R (cltF n es e d) 0) ∧ (chpF ((cltF n es e d).length : Int) (cltF n es e d) ≠ 0 → R [] 11)) : ybt n es e d R := by
  refine ybX (by omega) (fun q => ⟨fun q2 => absurd q2 q, fun _ => he q⟩) fun q => ⟨fun _ => yfL (by omega) ⟨fun q2 => ?_, fun q2 => hc q q2⟩, fun q2 => absurd rfl q2⟩
  replace h := h q q2
  clear he hc
  obtain ⟨q1, q4, q3⟩ := ydb q
  obtain ⟨k, rfl, G⟩ := yga q1
  obtain ⟨e, rfl⟩ : ∃ m : Nat, e = m := ⟨e.toNat, by omega⟩
  have hee : e < (yaI es).length := by omega
  obtain ⟨d1, d2⟩ := chp_zero q2
  have hxl := G.le (gx (yaI es) e) (by rw [ybx hee]; exact List.getElem_mem hee)
  have hx := gx_ok G.ok hee
  obtain ⟨c1, c2, c3⟩ := conD_in G.ok G.le hee G.few
  unfold cltF at h
  simp only [Int.toNat_natCast] at h ⊢
  refine ⟨⟨by omega, by omega⟩, by decide, by decide, p_fewer G.few G.one ⟨⟨by omega, by omega⟩, ?_⟩⟩
  unfold yaB
  rw [(mn_id hxl).1, (mn_id hxl).2, Int.toNat_natCast]
  refine ydg G.few (col_loop G.few (ydE k _ _) (fun j hj => gi_plcF _ _ hj) (fun v hv => ?_) (by omega) d2 ?_ (by rw [ydE]))
  · unfold conD; exact mvF_in hx.1.1 hxl hx.2.2 hv
  · exact yfL (by rw [yd0]; omega) h
end
end Go.Proofs.Ytinoedockljfeaa

/- What Singles comes to: a stable sort of few numbers; program and reference. -/
namespace Go.Proofs.Ytinoedockljfeaa
open Go Go.RowKit Go.Shelf Go.Proofs.Try
set_option linter.unusedVariables false
set_option linter.unusedSimpArgs false
theorem swap_list (P S : List Int) (x y : Int) : ((P ++ y :: x :: S).set (P.length + 1) y).set P.length x = P ++ x :: y :: S := by
  rw [List.set_append_right _ _ (by omega), show P.length + 1 - P.length = 1 by omega, List.set_append_right _ _ (Nat.le_refl _), Nat.sub_self]
  rfl
theorem gi_app (P : List Int) (x : Int) (S : List Int) : gi (P ++ x :: S) P.length = x := by
  rw [ybl (by simp)]; simp
theorem gi_app1 (P : List Int) (x y : Int) (S : List Int) : gi (P ++ y :: x :: S) (P.length + 1) = x := by
  rw [ybl (by simp)]; simp [List.getElem_append]
theorem p_insertion {data : List Int} {F : Int → Int → (Int → Prop) → Prop} {c : Int → Int → Int} {lt : Int → Int → Prop} (hl : data.length ≤ 1000) (hF : ∀ x ∈ data, ∀ y ∈ data, ∀ R' : Int → Prop, R' (c x y) → F x y R')
    (h1 : ∀ x ∈ data, ∀ y ∈ data, c x y < 0 → lt x y) (h2 : data.Pairwise fun x y => ¬ c y x < 0 → lt x y) (ht : ∀ x y z, lt x y → lt y z → lt x z) {R : List Int → Prop} (h : ∀ y : List Int, y.Perm data → y.Pairwise lt → R y) {b : Int} (hb : b = data.length) : yaG data 0 b F R := by
  subst hb
  refine ⟨⟨by decide, by decide⟩, ?_⟩
  by_cases h0 : data = []
  · subst h0
    refine ⟨fun m i d => i = 1 ∧ d = [], ⟨0, rfl, rfl⟩, ?_⟩
    rintro m i d ⟨rfl, rfl⟩
    exact ⟨fun q => by simp at q, fun _ => h [] (List.Perm.refl _) List.Pairwise.nil⟩
  have hpos : 0 < data.length := List.length_pos_iff.2 h0
  refine ⟨fun m i d2 => ∃ (k : Nat) (A : List Int), i = k ∧ 1 ≤ k ∧ k + m = data.length ∧ d2 = A ++ data.drop k ∧ A.Perm (data.take k) ∧ A.Pairwise lt, ⟨data.length - 1, 1, data.take 1, rfl, by omega, by omega, (List.take_append_drop 1 data).symm, List.Perm.refl _, ?_⟩, ?_⟩
  · cases data with
    | nil => exact absurd rfl h0
    | cons x t => simp
  rintro m i d2 ⟨k, A, rfl, hk1, hkm, rfl, hA, hAs⟩
  have hAl : A.length = k := by rw [hA.length_eq, List.length_take]; omega
  refine ⟨fun hlt => ?_, fun hge => ?_⟩
  · have hkl : k < data.length := by omega
    obtain ⟨x, hx⟩ : ∃ x, data.drop k = x :: data.drop (k + 1) := ⟨_, List.drop_eq_getElem_cons hkl⟩
    have hxm : x ∈ data := List.mem_of_mem_drop (by rw [hx]; simp)
    have hAm : ∀ y ∈ A, y ∈ data := fun y hy => List.mem_of_mem_take (hA.subset hy)
    have hbefore : ∀ y ∈ A, ¬ c x y < 0 → lt y x := fun y hy => by
      have h3 := h2
      rw [← List.take_append_drop k data, hx, List.pairwise_append] at h3
      exact h3.2.2 y (hA.subset hy) x (by simp)
    refine ⟨fun m3 j d3 => ∃ (p : Nat) (P S : List Int), j = p ∧ m3 = p ∧ P.length = p ∧ A = P ++ S ∧ d3 = P ++ x :: (S ++ data.drop (k + 1)) ∧ ∀ y ∈ S, lt x y, ⟨k, k, A, [], rfl, rfl, hAl, by simp, by rw [hx]; simp, by simp⟩, ?_⟩
    rintro m3 j d3 ⟨p, P, S, rfl, hmp, hP, hPS, rfl, hS⟩
    have hPl : P.length + S.length = k := by rw [← hAl, hPS, List.length_append]
    have hdone : (∀ y ∈ P, lt y x) → In64 ((k : Int) + 1) ∧ ∃ m5, m5 < m ∧ ∃ (k2 : Nat) (A : List Int), ((k : Int) + 1) = k2 ∧ 1 ≤ k2 ∧ k2 + m5 = data.length ∧ P ++ x :: (S ++ data.drop (k + 1)) = A ++ data.drop k2 ∧ A.Perm (data.take k2) ∧ A.Pairwise lt := by
      intro hPx
      refine ⟨⟨by omega, by omega⟩, m - 1, by omega, k + 1, P ++ x :: S, by omega, by omega, by omega, by simp, ?_, ?_⟩
      · have e1 : data.take (k + 1) = data.take k ++ [x] := by
          rw [List.take_add_one, List.getElem?_eq_getElem hkl]
          have : data[k] = x := by rw [List.drop_eq_getElem_cons hkl] at hx; exact (List.cons.inj hx).1
          rw [this]; rfl
        rw [e1]
        refine List.Perm.trans List.perm_middle ?_
        rw [← hPS]
        exact (List.perm_append_singleton x A).symm.trans (hA.append_right [x])
      · rw [hPS, List.pairwise_append] at hAs
        rw [List.pairwise_append, List.pairwise_cons]
        exact ⟨hAs.1, ⟨hS, hAs.2.1⟩, fun y hy z hz => by
          rcases List.mem_cons.1 hz with rfl | hz
          · exact hPx y hy
          · exact hAs.2.2 y hy z hz⟩
    refine ⟨0 < p ∧ ∃ P' y, P = P' ++ [y] ∧ c x y < 0, fun ⟨hp, P', y, hPy, hc⟩ => ?_, fun hp => ?_, fun hp => ?_⟩
    · subst hPy
      have hP' : P'.length = p - 1 := by rw [List.length_append, List.length_singleton] at hP; omega
      have e1 : ((p : Int) - 1).toNat = P'.length := by omega
      have e2 : ((p : Int)).toNat = P'.length + 1 := by omega
      have e3 : (P' ++ [y]) ++ x :: (S ++ data.drop (k + 1)) = P' ++ y :: x :: (S ++ data.drop (k + 1)) := by simp
      have hlen : (P' ++ y :: x :: (S ++ data.drop (k + 1))).length = P'.length + 2 + S.length + (data.length - (k + 1)) := by simp; omega
      rw [e3, e1, e2, gi_app, gi_app1, List.length_set, hlen, swap_list]
      refine ⟨⟨by omega, by omega⟩, ⟨by omega, by omega⟩, ⟨by omega, by omega⟩, ⟨by omega, by omega⟩, p - 1, by omega, p - 1, P', y :: S, by omega, rfl, hP', by rw [hPS]; simp, by simp, fun z hz => ?_⟩
      rcases List.mem_cons.1 hz with rfl | hz
      · exact h1 _ hxm _ (hAm _ (by rw [hPS]; simp)) hc
      · exact hS z hz
    · obtain ⟨P', y, hPy⟩ : ∃ P' y, P = P' ++ [y] := by
        have hne : P ≠ [] := by rintro rfl; simp at hP; omega
        exact ⟨P.dropLast, P.getLast hne, (List.dropLast_concat_getLast hne).symm⟩
      subst hPy
      have hP' : P'.length = p - 1 := by rw [List.length_append, List.length_singleton] at hP; omega
      have e1 : ((p : Int) - 1).toNat = P'.length := by omega
      have e2 : ((p : Int)).toNat = P'.length + 1 := by omega
      have e3 : (P' ++ [y]) ++ x :: (S ++ data.drop (k + 1)) = P' ++ y :: x :: (S ++ data.drop (k + 1)) := by simp
      have hlen : (P' ++ y :: x :: (S ++ data.drop (k + 1))).length = P'.length + 2 + S.length + (data.length - (k + 1)) := by simp; omega
      have hym : y ∈ data := hAm _ (by rw [hPS]; simp)
      rw [e3] at hdone ⊢
      rw [e1, e2, gi_app, gi_app1, hlen]
      refine ⟨⟨by omega, by omega⟩, ⟨by omega, by omega⟩, ⟨by omega, by omega⟩, hF x hxm y hym _ ⟨fun q => ⟨by omega, P', y, rfl, q⟩, fun q => hdone fun z hz => ?_⟩⟩
      have hyx := hbefore y (by rw [hPS]; simp) q
      rcases List.mem_append.1 hz with hz | hz
      · rw [hPS, List.pairwise_append] at hAs
        rw [List.pairwise_append] at hAs
        exact ht _ _ _ (hAs.1.2.2 z hz y (by simp)) hyx
      · rw [List.mem_singleton] at hz; subst hz; exact hyx
    · have hp0 : p = 0 := by omega
      have hPn : P = [] := List.eq_nil_of_length_eq_zero (by omega)
      subst hPn
      exact hdone fun z hz => by simp at hz
  · have e : k = data.length := by omega
    subst e
    rw [List.drop_length, List.append_nil]
    rw [List.take_length] at hA
    exact h A hA hAs
theorem p_stable {data : List Int} {F : Int → Int → (Int → Prop) → Prop} {c : Int → Int → Int} {lt : Int → Int → Prop} (hl : data.length ≤ 19) (hF : ∀ x ∈ data, ∀ y ∈ data, ∀ R' : Int → Prop, R' (c x y) → F x y R')
    (h1 : ∀ x ∈ data, ∀ y ∈ data, c x y < 0 → lt x y) (h2 : data.Pairwise fun x y => ¬ c y x < 0 → lt x y) (ht : ∀ x y z, lt x y → lt y z → lt x z) {R : List Int → Prop} (h : ∀ y : List Int, y.Perm data → y.Pairwise lt → R y) : ya5 data F R := by
  refine ⟨fun m a b d => a = 0 ∧ b = 20 ∧ d = data, ⟨0, rfl, rfl, rfl⟩, ?_⟩
  rintro m a b d ⟨rfl, rfl, rfl⟩
  refine ⟨fun q => by omega, fun _ => p_insertion (by omega) hF h1 h2 ht (fun y hy hs => ⟨fun m b => b = 20, ⟨0, rfl⟩, ?_⟩) rfl⟩
  rintro m b rfl
  exact ⟨fun q => by omega, fun _ => h y hy hs⟩
def bfF (K : List (Int × Int)) (i j : Int) : Prop := ((gx K i.toNat).1 < (gx K j.toNat).1 ∨ (gx K i.toNat).1 = (gx K j.toNat).1 ∧ (gx K i.toNat).2 < (gx K j.toNat).2) ∨ gx K i.toNat = gx K j.toNat ∧ i < j
instance (K : List (Int × Int)) (i j : Int) : Decidable (bfF K i j) := by unfold bfF; exact inferInstance
def lesF (m e : Nat) : List Int := (List.range m).map fun i => if i = e then -1 else if i < e then (i : Int) else (i : Int) - 1
def numF (K : List (Int × Int)) (e i k : Nat) : Nat := (List.range k).countP fun j => decide (j ≠ e ∧ bfF K j i)
def shoF (K : List (Int × Int)) (m e : Nat) : List Int := (List.range m).map fun i => if i = e then -1 else (numF K e i m : Int)
theorem yeh (m e : Nat) : (lesF m e).length = m := by simp [lesF]
theorem numF_succ (K : List (Int × Int)) (e i k : Nat) : numF K e i (k + 1) = numF K e i k + if k ≠ e ∧ bfF K k i then 1 else 0 := by
  unfold numF
  rw [List.range_succ, List.countP_append]
  by_cases q : k ≠ e ∧ bfF K k i
  · rw [if_pos q]; simp [q]
  · rw [if_neg q]; simp [q]
section
variable {n : Int} {es : List E3} {e : Int}
def rstF (e k : Nat) : List Int := ((List.range k).filter fun i => decide (i ≠ e)).map fun i : Nat => (i : Int)
theorem yeN (e k : Nat) : rstF e (k + 1) = rstF e k ++ if k = e then [] else [(k : Int)] := by
  unfold rstF
  rw [List.range_succ, List.filter_append, List.map_append]
  by_cases q : k = e
  · simp [q]
  · simp [q]
theorem rstF_len (e : Nat) : ∀ k, (rstF e k).length = if k ≤ e then k else k - 1
  | 0 => by simp [rstF]
  | k + 1 => by
    rw [yeN, List.length_append, rstF_len e k]
    by_cases q : k = e
    · subst q; rw [if_pos (Nat.le_refl _), if_pos rfl, if_neg (by omega)]; simp
    · rw [if_neg q]
      split
      · rw [if_pos (by omega)]; simp
      · rw [if_neg (by omega)]; simp; omega
theorem yeJ {e k : Nat} {x : Int} : x ∈ rstF e k ↔ ∃ i : Nat, x = i ∧ i < k ∧ i ≠ e := by
  unfold rstF
  simp only [List.mem_map, List.mem_filter, List.mem_range, decide_eq_true_eq]
  constructor
  · rintro ⟨i, ⟨h1, h2⟩, rfl⟩; exact ⟨i, rfl, h1, h2⟩
  · rintro ⟨i, rfl, h1, h2⟩; exact ⟨i, ⟨h1, h2⟩, rfl⟩
theorem ye2 (e k : Nat) : (rstF e k).Pairwise (· < ·) := by
  unfold rstF
  rw [List.pairwise_map]
  exact (List.pairwise_lt_range.filter _).imp fun h => by omega
theorem bfF_trans {K : List (Int × Int)} {x y z : Int} (h1 : bfF K x y) (h2 : bfF K y z) : bfF K x z := by
  unfold bfF at *
  rcases h1 with h1 | ⟨h1, h3⟩
  · rcases h2 with h2 | ⟨h2, h4⟩
    · exact .inl (by omega)
    · rw [← h2]; exact .inl h1
  · rcases h2 with h2 | ⟨h2, h4⟩
    · rw [h1]; exact .inl h2
    · exact .inr ⟨h1.trans h2, by omega⟩
theorem bfF_irr {K : List (Int × Int)} {x : Int} (h : bfF K x x) : False := by
  unfold bfF at h
  rcases h with h | ⟨_, h⟩ <;> omega
theorem cnt_sorted {K : List (Int × Int)} {y : List Int} (hs : y.Pairwise (bfF K)) {j : Nat} (hj : j < y.length) : y.countP (fun x => decide (bfF K x (gi y j))) = j := by
  have e : y = y.take j ++ gi y j :: y.drop (j + 1) := by
    rw [ybl hj, ← List.drop_eq_getElem_cons hj, List.take_append_drop]
  have h2 := hs
  rw [e, List.pairwise_append, List.pairwise_cons] at h2
  generalize hx : gi y j = x at h2 e ⊢
  have h3 : y.countP (fun z => decide (bfF K z x)) = (y.take j).countP (fun z => decide (bfF K z x)) + (x :: y.drop (j + 1)).countP (fun z => decide (bfF K z x)) := by
    conv => lhs; rw [e]
    exact List.countP_append
  rw [h3]
  have a1 : (y.take j).countP (fun z => decide (bfF K z x)) = j := by
    have : (y.take j).countP (fun z => decide (bfF K z x)) = (y.take j).length := List.countP_eq_length.2 fun z hz => decide_eq_true (h2.2.2 z hz x (by simp))
    rw [this, List.length_take]; omega
  have a2 : (x :: y.drop (j + 1)).countP (fun z => decide (bfF K z x)) = 0 := by
    rw [List.countP_eq_zero]
    intro z hz hb
    have hb := of_decide_eq_true hb
    rcases List.mem_cons.1 hz with rfl | hz
    · exact bfF_irr hb
    · exact bfF_irr (bfF_trans hb (h2.2.1.1 z hz))
  rw [a1, a2, Nat.add_zero]
theorem num_rst (K : List (Int × Int)) (e i k : Nat) : numF K e i k = (rstF e k).countP fun x => decide (bfF K x i) := by
  induction k with
  | zero => rfl
  | succ k ih =>
    rw [numF_succ, yeN, List.countP_append, ← ih]
    congr 1
    by_cases q : k = e
    · rw [if_pos q, if_neg (fun z => z.1 q)]; rfl
    · rw [if_neg q]
      by_cases q2 : bfF K k i
      · rw [if_pos ⟨q, q2⟩]; simp [q2]
      · rw [if_neg (fun z => q2 z.2)]; simp [q2]
theorem ydV (hl : es.length ≤ 40) (hsm : yaZ n es = 0 → (yaI es).length ≤ 20) {R : List Int → List Int → Int → Prop} (he : sglF n es e ≠ 0 → R [] [] (sglF n es e))
    (h : sglF n es e = 0 → R (lesF (yaI es).length e.toNat) (shoF ((yaI es).map (sndF (mvF (gx (yaI es) e.toNat).1 (gx (yaI es) e.toNat).2))) (yaI es).length e.toNat) 0) : ybe n es e R := by
  refine ybX (by omega) (fun q => ⟨fun q2 => absurd q2 q, fun _ => he q⟩) fun q => ⟨fun _ => ?_, fun q2 => absurd rfl q2⟩
  replace h := h q
  clear he
  obtain ⟨q1, q2, q3⟩ := ydb q
  obtain ⟨k, rfl, G⟩ := yga q1
  obtain ⟨e, rfl⟩ : ∃ m : Nat, e = m := ⟨e.toNat, by omega⟩
  replace hsm := hsm q1
  have hlen := G.len
  have hee : e < (yaI es).length := by omega
  rw [Int.toNat_natCast] at h
  generalize hEE : yaI es = E at *
  have hxl := G.le (gx E e) (by rw [ybx hee]; exact List.getElem_mem hee)
  have hx := gx_ok G.ok hee
  rw [Int.toNat_natCast]
  refine ⟨⟨by omega, by omega⟩, by decide, by decide, ?_⟩
  unfold yaB
  rw [(mn_id hxl).1, (mn_id hxl).2]
  have hk := G.few
  refine ydx (by omega) (fun y hy R' => by
    have := G.ok y hy
    exact ⟨fun z => ycV (by omega) z, fun z => ycV (by omega) z⟩) ?_
  generalize hK : E.map (sndF (mvF (gx E e).1 (gx E e).2)) = K at h ⊢
  have hKl : K.length = E.length := by rw [← hK, List.length_map]
  refine ⟨fun v v2 => v = List.replicate E.length 0 ∧ v2 = List.replicate E.length 0, ?_, ⟨⟨by omega, by omega⟩, by rw [Int.toNat_natCast]; exact ⟨rfl, rfl⟩⟩, ⟨by omega, by omega⟩, by rw [Int.toNat_natCast]; exact ⟨rfl, rfl⟩⟩
  rintro v v2 ⟨rfl, rfl⟩
  refine ⟨fun q v3 v4 v5 => Cnt E.length (fun i => v3 = rstF e i ∧ v5.length = E.length ∧ ∀ t, t < i → t ≠ e → gi v5 t = if t < e then (t : Int) else (t : Int) - 1) q v4, Cnt.start ⟨rfl, by simp, fun t ht => by omega⟩, ?_⟩
  rintro q v3 _ v5 ⟨i, rfl, rfl, hi, rfl, h5l, h5⟩
  simp only [Int.toNat_natCast]
  have hrs := yeN e i
  have hrl := rstF_len e i
  refine ⟨fun hlt => ⟨fun z => Cnt.next (by omega) (by omega) ⟨?_, h5l, fun t ht hne => h5 t (by omega) hne⟩, fun z => ⟨⟨by omega, by omega⟩, by rw [hrl]; split <;> omega, Cnt.next (by omega) (by omega) ⟨?_, by rw [List.length_set]; exact h5l, fun t ht hne => ?_⟩⟩⟩, fun hge => ?_⟩
  · rw [hrs, if_pos (by omega), List.append_nil]
  · rw [hrs, if_neg (by omega)]
  · rw [ydQ (by omega)]
    by_cases z2 : t = i
    · subst z2
      rw [if_pos rfl, hrl]
      split
      · rw [if_pos (by omega)]
      · rw [if_neg (by omega)]; omega
    · rw [if_neg z2]; exact h5 t (by omega) hne
  · have ei : i = E.length := by omega
    subst ei
    rw [if_neg (by omega)] at hrl
    refine p_stable (lt := bfF K) (c := fun x y => yc6 (gx K x.toNat).1 (gx K x.toNat).2 (gx K y.toNat).1 (gx K y.toNat).2) (by omega) (fun x hx y hy R' hR => ?_) (fun x hx y hy hc => .inl (ycF.1 hc)) ?_ (fun x y z => bfF_trans) fun y hyp hys => ?_
    · obtain ⟨i1, rfl, i2, _⟩ := yeJ.1 hx
      obtain ⟨j1, rfl, j2, _⟩ := yeJ.1 hy
      simp only [Int.toNat_natCast] at hR
      refine ⟨⟨by omega, by omega⟩, by decide, ⟨by omega, by omega⟩, by decide, ?_⟩
      simp only [Int.toNat_natCast]
      exact ycH (ycH (p_cmp_Or2 hR))
    · refine (ye2 e E.length).imp fun {a b} hab hc => ?_
      rw [ycF] at hc
      unfold bfF
      by_cases z : (gx K a.toNat).1 < (gx K b.toNat).1 ∨ (gx K a.toNat).1 = (gx K b.toNat).1 ∧ (gx K a.toNat).2 < (gx K b.toNat).2
      · exact .inl z
      · exact .inr ⟨Prod.ext (by omega) (by omega), hab⟩
    · have hyl : y.length = E.length - 1 := by rw [hyp.length_eq, hrl]
      have hyd : y.Nodup := hyp.nodup_iff.2 ((ye2 e E.length).imp fun h => by omega)
      have hyi : ∀ j, j < y.length → ∃ t : Nat, gi y j = t ∧ t < E.length ∧ t ≠ e := fun j hj => yeJ.1 (hyp.subset (gi_mem hj))
      refine ⟨fun q v6 v7 => Cnt y.length (fun j => v7.length = E.length ∧ ∀ t, t < j → gi v7 (gi y t).toNat = (t : Int)) q v6, Cnt.start ⟨by simp, fun t ht => by omega⟩, ?_⟩
      rintro q _ v7 ⟨j, rfl, rfl, hj, h7l, h7⟩
      simp only [Int.toNat_natCast]
      refine ⟨fun hlt => ?_, fun hge => ?_⟩
      · have hjl : j < y.length := by omega
        obtain ⟨t, ht1, ht2, _⟩ := hyi j hjl
        refine ⟨⟨by omega, by omega⟩, ⟨by omega, by omega⟩, Cnt.next hjl (by omega) ⟨by rw [List.length_set]; exact h7l, fun s hs => ?_⟩⟩
        obtain ⟨u, hu1, hu2, _⟩ := hyi s (by omega)
        rw [ydQ (by omega)]
        by_cases z : s = j
        · subst z; rw [if_pos rfl]
        · have : gi y s ≠ gi y j := fun w => by
            have h9 := List.pairwise_iff_getElem.1 hys s j (by omega) hjl (by omega)
            rw [← ybl (by omega), ← ybl hjl, w] at h9
            exact bfF_irr h9
          rw [if_neg (by omega)]; exact h7 s (by omega)
      · have ej : j = y.length := by omega
        subst ej
        refine ⟨⟨by omega, by omega⟩, ⟨by omega, by omega⟩, ?_⟩
        have e1 : v5.set e (-1) = lesF E.length e := gi_ext (by rw [List.length_set, h5l, yeh]) fun t ht => by
          rw [List.length_set] at ht
          rw [ydQ (by omega), ybl (l := lesF E.length e) (by rw [yeh]; omega)]
          simp only [lesF, List.getElem_map, List.getElem_range]
          by_cases z : t = e
          · rw [if_pos z, if_pos z]
          · rw [if_neg z, if_neg z]; exact h5 t (by omega) z
        have e2 : v7.set e (-1) = shoF K E.length e := gi_ext (by rw [List.length_set, h7l]; simp [shoF]) fun t ht => by
          rw [List.length_set] at ht
          rw [ydQ (by omega), ybl (l := shoF K E.length e) (by simp [shoF]; omega)]
          simp only [shoF, List.getElem_map, List.getElem_range]
          by_cases z : t = e
          · rw [if_pos z, if_pos z]
          · rw [if_neg z, if_neg z]
            have hty : (t : Int) ∈ y := hyp.symm.subset (yeJ.2 ⟨t, rfl, by omega, z⟩)
            obtain ⟨s, hs, hst⟩ := List.mem_iff_getElem.1 hty
            have hgs : gi y s = (t : Int) := by rw [ybl hs]; exact hst
            have h8 := h7 s hs
            rw [hgs, Int.toNat_natCast] at h8
            rw [h8, num_rst]
            have h9 := cnt_sorted hys hs
            rw [hgs, hyp.countP_eq] at h9
            rw [h9]
        rw [e1, e2]; exact h
end
end Go.Proofs.Ytinoedockljfeaa

/- The laws on contract: the program's answers are the reference's. -/
namespace Go.Proofs.Ytinoedockljfeaa
open Go Go.RowKit Go.Shelf Go.Proofs.Try
set_option linter.unusedVariables false
set_option linter.unusedSimpArgs false
theorem few_len {l : List (Int × Int)} (h : l.length ≤ 50) : ¬ Many l := fun ⟨a, b, q⟩ => by have := yfJ l a b; omega
theorem few_of {n : Int} {es : List E3} (h : smallF n es 6 9 = true) : es.length ≤ 40 ∧ (yaZ n es = 0 → n ≤ 6 ∧ (yaI es).length ≤ 9) := by
  unfold smallF at h
  obtain ⟨h1, h2⟩ := of_decide_eq_true h
  refine ⟨h1, fun q2 => ?_⟩
  have h2 := h2 q2
  obtain ⟨k, rfl, G⟩ := yga q2
  rw [G.size] at h2
  omega
theorem p_tri {R : Int → List E3 → Prop} (h : R 3 [(0, 1, 1), (0, 2, 1), (1, 2, 1)]) : ybi R := h
theorem aw_contract {R : Int → List E3 → Int → Prop} (h : R 2 [(0, 1, 2)] 0) : ya0 3 [(0, 1, 1), (0, 2, 1), (1, 2, 1)] 0 R := by
  refine yen (by decide) (fun q => absurd (by decide) q) (fun _ q => absurd q (few_len (by decide))) fun _ _ => ?_
  have key : ∀ x y, x = 2 → y = [(0, 1, 2)] → R x y 0 := by rintro _ _ rfl rfl; exact h
  exact key _ _ (by decide) (by decide)
theorem aw_contract2 {R : Int → List E3 → Int → Prop} (h : R 1 [(0, 0, 1)] 0) : ya0 2 [(0, 1, 2)] 0 R := by
  refine yen (by decide) (fun q => absurd (by decide) q) (fun _ q => absurd q (few_len (by decide))) fun _ _ => ?_
  have key : ∀ x y, x = 1 → y = [(0, 0, 1)] → R x y 0 := by rintro _ _ rfl rfl; exact h
  exact key _ _ (by decide) (by decide)
theorem aw_vertices {R : List Int → Int → Prop} (h : R [0, 0, 1] 0) : ybn 3 [(0, 1, 1), (0, 2, 1), (1, 2, 1)] 0 R := by
  refine ygc (by decide) (fun q => absurd (by decide) q) fun _ => ?_
  have key : ∀ x, x = [0, 0, 1] → R x 0 := by rintro _ rfl; exact h
  exact key _ (by decide)
theorem aw_singles {R : List Int → List Int → Int → Prop} (h : ∀ l, R l [-1, 0, 1] 0) : ybe 3 [(0, 1, 1), (0, 2, 1), (1, 2, 1)] 0 R := by
  refine ydV (by decide) (fun _ => by decide) (fun q => absurd (by decide) q) fun _ => ?_
  have key : ∀ x l, x = [-1, 0, 1] → R l x 0 := by rintro _ l rfl; exact h l
  exact key _ _ (by decide)
def fineG : List E3 := [(0, 3, 1), (0, 4, 1), (1, 3, 1), (1, 5, 1), (2, 4, 1), (2, 5, 1)]
theorem aw_subdivide {R : Int → List E3 → Int → Prop} (h : R 6 fineG 0) : ybj 3 [(0, 1, 1), (0, 2, 1), (1, 2, 1)] 2 R := by
  refine yfw (by decide) (fun q => absurd (by decide) q) fun _ => ?_
  have key : ∀ x y, x = 6 → y = fineG → R x y 0 := by rintro _ _ rfl rfl; exact h
  exact key _ _ (by decide) (by decide)
theorem aw_collect {R : List Int → Int → Prop} (h : R [3, 3] 0) : ybt 3 [(0, 1, 1), (0, 2, 1), (1, 2, 1)] 0 [1, 2, 3] R := by
  refine yfT (by decide) (by decide) (fun q => absurd (by decide) q) (fun _ q => absurd (by decide) q) fun _ _ => ⟨fun _ => ?_, fun q => absurd (by decide) q⟩
  have key : ∀ x, x = [3, 3] → R x 0 := by rintro _ rfl; exact h
  exact key _ (by decide)
theorem ygA {n : Int} {a b : List E3} {R : Bool → Prop} (hl : a.length ≤ 1000000000) (e : a = b) (h : R true) : ycN n a n b R := by
  subst e
  refine ⟨True, fun _ => ⟨Cnt a.length fun _ => True, Cnt.start trivial, ?_⟩, fun _ => ⟨fun _ => trivial, fun q => absurd rfl q⟩, fun q => absurd rfl q⟩
  rintro m _ ⟨k, rfl, rfl, hk, -⟩
  exact ⟨fun hlt => ⟨⟨by omega, by omega⟩, ⟨by omega, by omega⟩, fun _ => Cnt.next (by omega) (by omega) trivial, fun q => absurd rfl q⟩, fun _ => h⟩
theorem p_sameEnds {a b : List (Int × Int)} {R : Bool → Prop} (hl : a.length ≤ 1000000000) (e : a = b) (h : R true) : yci a b R := by
  subst e
  refine ⟨fun _ => ⟨Cnt a.length fun _ => True, Cnt.start trivial, ?_⟩, fun q => absurd rfl q⟩
  rintro m _ ⟨k, rfl, rfl, hk, -⟩
  exact ⟨fun hlt => ⟨⟨by omega, by omega⟩, ⟨by omega, by omega⟩, fun _ => Cnt.next (by omega) (by omega) trivial, fun q => absurd rfl q⟩, fun _ => h⟩
theorem p_sameInts {a b : List Int} {R : Bool → Prop} (hl : a.length ≤ 1000000000) (e : a = b) (h : R true) : ybr a b R := by
  subst e
  refine ⟨fun _ => ⟨Cnt a.length fun _ => True, Cnt.start trivial, ?_⟩, fun q => absurd rfl q⟩
  rintro m _ ⟨k, rfl, rfl, hk, -⟩
  exact ⟨fun hlt => ⟨⟨by omega, by omega⟩, ⟨by omega, by omega⟩, fun _ => Cnt.next (by omega) (by omega) trivial, fun q => absurd rfl q⟩, fun _ => h⟩
theorem yeX {R : Bool → Prop} (h : R true) : ycd R := by
  refine p_tri (aw_contract (p_tri (aw_vertices (p_tri (aw_singles fun l => aw_contract2 (p_tri (aw_subdivide (p_tri (aw_collect (yds (es := fineG) (by decide) (fun q => absurd (by decide) q) fun _ => ?_))))))))))
  refine ⟨⟨by decide, by decide⟩, ⟨by decide, by decide⟩, ⟨by decide, by decide⟩, ⟨by decide, by decide⟩, ⟨by decide, by decide⟩, ⟨by decide, by decide⟩, fun _ => ?_, fun q => absurd (by decide) q⟩
  refine ygA (by decide) rfl ⟨fun _ => ycX (by decide) ?_, fun q => absurd rfl q⟩
  rw [decide_eq_true (rfl : ([0, 0, 1] : List Int) = [0, 0, 1])]
  refine ⟨fun _ => ycX (by decide) ?_, fun q => absurd rfl q⟩
  rw [decide_eq_true (rfl : ([-1, 0, 1] : List Int) = [-1, 0, 1])]
  refine ⟨fun _ => ygA (by decide) rfl ⟨fun _ => p_sameEnds (by decide) (by decide) ⟨fun _ => ydq (by decide) ?_, fun q => absurd rfl q⟩, fun q => absurd rfl q⟩, fun q => absurd rfl q⟩
  rw [decide_eq_true (rfl : ([3, 3] : List Int) = [3, 3])]
  exact h
theorem yfN : ∀ (es : List E3), (∀ x ∈ es, 1 ≤ x.2.2) → (es.length : Int) ≤ (es.map (·.2.2)).sum
  | [], _ => by simp
  | x :: t, h => by
    have := yfN t fun y hy => h y (by simp [hy])
    have := h x (by simp)
    rw [List.length_cons, List.map_cons, List.sum_cons]; omega
theorem made_len {d : Nat} {l : List (Int × Int)} (hl : yc4 d l) : (made d l).length ≤ l.length := by
  have h := yfN (made d l) fun x hx => by
    obtain ⟨a, b, _, _, h4, rfl⟩ := mem_joinE.1 hx
    simp only; omega
  rw [sum_made l hl] at h
  omega
end Go.Proofs.Ytinoedockljfeaa

/- The law on what Delete, Contract, Vertices and Merge change. -/
namespace Go.Proofs.Ytinoedockljfeaa
open Go Go.RowKit Go.Shelf Go.Proofs.Try
set_option linter.unusedVariables false
set_option linter.unusedSimpArgs false
section
variable {n : Int} {es : List E3} {e a b : Int}
theorem both_delete (hl : es.length ≤ 40) : ∃ (x : Int) (y : List E3) (z : Int), y.length ≤ 1000000000 ∧ (∀ R : Int → List E3 → Int → Prop, R x y z → yfY n es e R) ∧ ∀ R : Int → List E3 → Int → Prop, R x y z → yf4 n es e R := by
  by_cases q : sglF n es e = 0
  · refine ⟨n, made n.toNat (othF (yaI es) e.toNat), 0, ?_, fun R h => p_c_Delete hl (fun z => absurd q z) fun _ => h, fun R h => ygm hl (fun z => absurd q z) fun _ => h⟩
    obtain ⟨q1, q2, q3⟩ := ydb q
    obtain ⟨k, rfl, G⟩ := yga q1
    rw [Int.toNat_natCast]
    have h1 := made_len (G.ok.oth e.toNat)
    have h2 := ygg (show e.toNat < (yaI es).length by omega)
    have := G.len
    omega
  · exact ⟨0, [], sglF n es e, by simp, fun R h => p_c_Delete hl (fun _ => h) fun z => absurd z q, fun R h => ygm hl (fun _ => h) fun z => absurd z q⟩
theorem both_contract (hl : es.length ≤ 40) : ∃ (x : Int) (y : List E3) (z : Int), y.length ≤ 1000000000 ∧ (∀ R : Int → List E3 → Int → Prop, R x y z → ya0 n es e R) ∧ ∀ R : Int → List E3 → Int → Prop, R x y z → yf2 n es e R := by
  by_cases q : sglF n es e = 0
  · by_cases w : Many (conL (yaI es) e.toNat)
    · exact ⟨0, [], 5, by simp, fun R h => yen hl (fun z => absurd q z) (fun _ _ => h) fun _ z => absurd w z, fun R h => yf7 hl (fun z => absurd q z) (fun _ _ => h) fun _ z => absurd w z⟩
    · refine ⟨conD n.toNat (gx (yaI es) e.toNat), made (conD n.toNat (gx (yaI es) e.toNat)) (conL (yaI es) e.toNat), 0, ?_, fun R h => yen hl (fun z => absurd q z) (fun _ z => absurd z w) fun _ _ => h, fun R h => yf7 hl (fun z => absurd q z) (fun _ z => absurd z w) fun _ _ => h⟩
      obtain ⟨q1, q2, q3⟩ := ydb q
      obtain ⟨k, rfl, G⟩ := yga q1
      rw [Int.toNat_natCast]
      have hee : e.toNat < (yaI es).length := by omega
      obtain ⟨c1, c2, c3⟩ := conD_in G.ok G.le hee G.few
      have h1 := made_len c3
      have h2 := conL_len hee
      have := G.len
      omega
  · exact ⟨0, [], sglF n es e, by simp, fun R h => yen hl (fun _ => h) (fun z => absurd z q) fun z => absurd z q, fun R h => yf7 hl (fun _ => h) (fun z => absurd z q) fun z => absurd z q⟩
theorem both_vertices (hl : es.length ≤ 40) : ∃ (x : List Int) (z : Int), x.length ≤ 1000000000 ∧ (∀ R : List Int → Int → Prop, R x z → ybn n es e R) ∧ ∀ R : List Int → Int → Prop, R x z → yf1 n es e R := by
  by_cases q : sglF n es e = 0
  · refine ⟨plcF n.toNat (gx (yaI es) e.toNat).1 (gx (yaI es) e.toNat).2, 0, ?_, fun R h => ygc hl (fun z => absurd q z) fun _ => h, fun R h => yge hl (fun z => absurd q z) fun _ => h⟩
    obtain ⟨q1, q2, q3⟩ := ydb q
    obtain ⟨k, rfl, G⟩ := yga q1
    rw [ydE]
    have := G.few
    omega
  · exact ⟨[], sglF n es e, by simp, fun R h => ygc hl (fun _ => h) fun z => absurd z q, fun R h => yge hl (fun _ => h) fun z => absurd z q⟩
theorem both_merge (hl : es.length ≤ 40) : ∃ (x : Int) (y : List E3) (z : Int), y.length ≤ 1000000000 ∧ (∀ R : Int → List E3 → Int → Prop, R x y z → yfZ n es a b R) ∧ ∀ R : Int → List E3 → Int → Prop, R x y z → yf6 n es a b R := by
  by_cases q : mrgF n es a b = 0
  · by_cases w : Many (mrgL es a b)
    · exact ⟨0, [], 5, by simp, fun R h => ygB hl (fun z => absurd q z) (fun _ _ => h) fun _ z => absurd w z, fun R h => ygf hl (fun z => absurd q z) (fun _ _ => h) fun _ z => absurd w z⟩
    · refine ⟨n - 1, made (n.toNat - 1) (mrgL es a b), 0, ?_, fun R h => ygB hl (fun z => absurd q z) (fun _ z => absurd z w) fun _ _ => h, fun R h => ygf hl (fun z => absurd q z) (fun _ z => absurd z w) fun _ _ => h⟩
      unfold mrgF at q
      split at q
      · rename_i z; exact absurd q z
      rename_i z
      split at q
      · cases q
      rename_i z2
      split at q
      · cases q
      rename_i z3
      obtain ⟨k, rfl, G⟩ := yga (Classical.byContradiction z)
      rw [Int.toNat_natCast]
      obtain ⟨c1, c3⟩ := mrg_in (a := a) (b := b) G z3 (by omega) (by omega)
      have h1 := made_len c3
      unfold mrgL at h1
      rw [List.length_map] at h1
      have := G.len
      unfold mrgL
      omega
  · exact ⟨0, [], mrgF n es a b, by simp, fun R h => ygB hl (fun _ => h) (fun z => absurd z q) fun z => absurd z q, fun R h => ygf hl (fun _ => h) (fun z => absurd z q) fun z => absurd z q⟩
theorem p_changes : yf0 n es e a b fun r => r = true := by
  refine ⟨es.length ≤ 40, fun hl => ?_, p_r08_Few ⟨fun q => (few_of q).1, fun _ => ⟨fun _ => yeX rfl, fun z => by omega⟩⟩⟩
  obtain ⟨d1, d2, d3, dl, dp, dr⟩ := both_delete (n := n) (e := e) hl
  obtain ⟨c1, c2, c3, cl, cp, cr⟩ := both_contract (n := n) (e := e) hl
  obtain ⟨v1, v3, vl, vp, vr⟩ := both_vertices (n := n) (e := e) hl
  obtain ⟨m1, m2, m3, ml, mp, mr⟩ := both_merge (n := n) (a := a) (b := b) hl
  refine dp _ (dr _ (cp _ (cr _ (vp _ (vr _ ⟨by decide, by decide, mp _ (mr _ ?_)⟩)))))
  exact yeX ⟨fun _ => ygA dl rfl ⟨fun _ => ⟨fun _ => ygA cl rfl ⟨fun _ => ⟨fun _ => p_sameInts vl rfl ⟨fun _ => ⟨fun _ => ygA ml rfl ⟨fun _ => decide_eq_true rfl, fun q => absurd rfl q⟩, fun q => absurd rfl q⟩, fun q => absurd rfl q⟩, fun q => absurd rfl q⟩, fun q => absurd rfl q⟩, fun q => absurd rfl q⟩, fun q => absurd rfl q⟩, fun q => absurd rfl q⟩
end
end Go.Proofs.Ytinoedockljfeaa
