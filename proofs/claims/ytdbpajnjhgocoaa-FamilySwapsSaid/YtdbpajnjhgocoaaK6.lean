/- Texts laid together: Mk, Fe, Gn, Fg, Fh, Fi, Fj, Fk, Fl, Fm, Fn. -/
import Derived.Test.YtdbpajnjhgocoaaK5
/- The graph with some single edges: the reference and the program. -/
namespace Go.Proofs.Ytdbpajnjhgocoaa
open Go Go.RowKit Go.Shelf Go.Proofs.Try
set_option linter.unusedVariables false
set_option linter.unusedSimpArgs false
def yfP (T : List (List Int)) (k j : Nat) : Option E3 := if 0 < gi (gx T k) (k + j) then some ((k : Int), ((k + j : Nat) : Int), gi (gx T k) (k + j)) else none
def rowJ (d : Nat) (T : List (List Int)) (k : Nat) : List E3 := (List.range (d - k)).filterMap (yfP T k)
def yed (d : Nat) (T : List (List Int)) : List E3 := (List.range d).flatMap (rowJ d T)
def isE (a b : Int) (e : Int × Int) : Bool := decide (mnF e.1 e.2 = a ∧ mxF e.1 e.2 = b)
def cntE (l : List (Int × Int)) (a b : Int) : Int := (l.countP (isE a b) : Int)
def rowT (d : Nat) (l : List (Int × Int)) (a : Nat) : List Int := (List.range d).map fun (b : Nat) => cntE l (a : Int) (b : Int)
def tabE (d : Nat) (l : List (Int × Int)) : List (List Int) := (List.range d).map (rowT d l)
theorem yeL (d : Nat) (l : List (Int × Int)) (a : Nat) : (rowT d l a).length = d := by simp [rowT]
theorem yfk (d : Nat) (l : List (Int × Int)) : (tabE d l).length = d := by simp [tabE]
theorem ydY {d : Nat} {l : List (Int × Int)} {a : Nat} (h : a < d) : gx (tabE d l) a = rowT d l a := by
  rw [yeG (by rw [yfk]; exact h)]; simp [tabE]
theorem yeh {d : Nat} {l : List (Int × Int)} {a b : Nat} (h : b < d) : gi (rowT d l a) b = cntE l a b := by
  rw [ybz (by rw [yeL]; exact h)]; simp [rowT]
theorem ydq (l : List (Int × Int)) (e : Int × Int) (a b : Int) : cntE (l ++ [e]) a b = cntE l a b + if mnF e.1 e.2 = a ∧ mxF e.1 e.2 = b then 1 else 0 := by
  unfold cntE
  rw [List.countP_append]
  by_cases h : mnF e.1 e.2 = a ∧ mxF e.1 e.2 = b
  · simp [List.countP_cons, isE, h]
  · simp [List.countP_cons, isE, h]
theorem ygz (l : List (Int × Int)) (a b : Int) : 0 ≤ cntE l a b := Int.natCast_nonneg _
theorem cntE_le (l : List (Int × Int)) (a b : Int) : cntE l a b ≤ l.length := Int.ofNat_le.2 List.countP_le_length
structure BagOk (d : Nat) (l : List (Int × Int)) (M : List (List Int × Int)) : Prop where
  key : KOk 2 M
  at_ : ∀ p ∈ M, ∃ a b : Nat, a ≤ b ∧ b < d ∧ p.1 = [(a : Int), (b : Int)] ∧ p.2 = cntE l a b ∧ 0 < p.2
  get : ∀ a b : Int, (mget M [a, b]).getD 0 = cntE l a b
  len : M.length ≤ l.length
theorem BagOk.nil (d : Nat) : BagOk d [] [] := ⟨KOk.nil 2, fun p h => by simp at h, fun a b => by simp [mget, cntE], Nat.le_refl _⟩
theorem keyOk2 {d a b : Nat} (hd : d ≤ 12) (h1 : a ≤ b) (h2 : b < d) : yf5 2 [(a : Int), (b : Int)] := by
  refine ⟨rfl, fun x hx => ?_⟩
  simp only [List.mem_cons, List.not_mem_nil, or_false] at hx
  rcases hx with rfl | rfl <;> exact ⟨by omega, by omega⟩
theorem BagOk.put {d : Nat} {l : List (Int × Int)} {M : List (List Int × Int)} (h : BagOk d l M) (hd : d ≤ 12) {e : Int × Int} {a b : Nat} (h1 : a ≤ b) (h2 : b < d) (ha : mnF e.1 e.2 = a) (hb : mxF e.1 e.2 = b) : BagOk d (l ++ [e]) (mput M [(a : Int), (b : Int)] (cntE l a b + 1)) := by
  have hk := h.key.put (keyOk2 hd h1 h2) (cntE l a b + 1)
  refine ⟨hk, fun p hp => ?_, fun x y => ?_, by have := h.len; rw [mput_length, List.length_append, List.length_singleton]; split <;> omega⟩
  · obtain ⟨j, hj⟩ := List.getElem?_of_mem hp
    have hg := mget_at hk.1 (k := p.1) (v := p.2) hj
    rw [yfV] at hg
    by_cases q : [(a : Int), (b : Int)] = p.1
    · rw [if_pos q] at hg
      refine ⟨a, b, h1, h2, q.symm, ?_, ?_⟩
      · rw [ydq, if_pos ⟨ha, hb⟩]; exact (Option.some.inj hg).symm
      · rw [← Option.some.inj hg]; have := ygz l a b; omega
    · rw [if_neg q] at hg
      obtain ⟨x, y, h3, h4, h5, h6, h7⟩ := h.at_ _ (mget_mem hg)
      refine ⟨x, y, h3, h4, h5, ?_, h7⟩
      rw [ydq, if_neg, Int.add_zero]
      · exact h6
      · rintro ⟨q1, q2⟩
        rw [ha] at q1; rw [hb] at q2
        have h5 : p.1 = [(x : Int), (y : Int)] := h5
        exact q (by rw [h5, q1, q2])
  · rw [yfV, ydq, ha, hb, ← h.get x y]
    by_cases q : (a : Int) = x ∧ (b : Int) = y
    · rw [if_pos (by rw [q.1, q.2]), if_pos q, h.get x y, ← q.1, ← q.2]; rfl
    · rw [if_neg (fun z => q (by simpa using z)), if_neg q, Int.add_zero]
def eM (p : List Int × Int) : E3 := (gi p.1 0, gi p.1 1, p.2)
theorem nodupN_le : ∀ {l K : List Nat}, l.Nodup → (∀ x ∈ l, x ∈ K) → l.length ≤ K.length
  | [], K, _, _ => Nat.zero_le _
  | a :: t, K, hn, hs => by
    rw [List.nodup_cons] at hn
    have ha : a ∈ K := hs a (by simp)
    have h2 := nodupN_le (l := t) (K := K.erase a) hn.2 fun x hx => (List.mem_erase_of_ne (by rintro rfl; exact hn.1 hx)).2 (hs x (by simp [hx]))
    rw [List.length_erase_of_mem ha] at h2
    have : 0 < K.length := List.length_pos_of_mem ha
    rw [List.length_cons]; omega
theorem seen_lt {n j : Nat} {seen : List Nat} (hn : seen.Nodup) (hs : ∀ x ∈ seen, x < n) (hj : j < n) (hnj : j ∉ seen) : seen.length < n := by
  have := nodupN_le (l := j :: seen) (K := List.range n) (List.nodup_cons.2 ⟨hnj, hn⟩) fun x hx => by
    rcases List.mem_cons.1 hx with rfl | hx
    · exact List.mem_range.2 hj
    · exact List.mem_range.2 (hs x hx)
  simp at this; omega
theorem yen {d : Nat} {l : List (Int × Int)} {x : E3} : x ∈ yed d (tabE d l) ↔ ∃ a b : Nat, a ≤ b ∧ b < d ∧ 0 < cntE l a b ∧ x = ((a : Int), (b : Int), cntE l a b) := by
  unfold yed
  simp only [List.mem_flatMap, List.mem_range, rowJ, List.mem_filterMap]
  constructor
  · rintro ⟨a, ha, j, hj, hx⟩
    unfold yfP at hx
    rw [ydY ha, yeh (by omega)] at hx
    split at hx
    · rename_i hp
      exact ⟨a, a + j, by omega, by omega, hp, (Option.some.inj hx).symm⟩
    · cases hx
  · rintro ⟨a, b, h1, h2, h3, rfl⟩
    refine ⟨a, by omega, b - a, by omega, ?_⟩
    unfold yfP
    rw [ydY (by omega), yeh (by omega), show a + (b - a) = b by omega, if_pos h3]
def ltE (x y : E3) : Prop := x.1 < y.1 ∨ x.1 = y.1 ∧ x.2.1 < y.2.1
theorem yes {d : Nat} {T : List (List Int)} : (yed d T).Pairwise ltE := by
  unfold yed
  rw [List.pairwise_flatMap]
  refine ⟨fun a _ => ?_, ?_⟩
  · unfold rowJ
    refine List.Pairwise.filterMap (R := fun a b => a < b) (S := ltE) (yfP T a) ?_ List.pairwise_lt_range
    intro x y hxy u hu v hv
    unfold yfP at hu hv
    split at hu
    · split at hv
      · cases hu; cases hv
        refine .inr ⟨rfl, ?_⟩
        show ((a + x : Nat) : Int) < ((a + y : Nat) : Int)
        omega
      · cases hv
    · cases hu
  · refine List.pairwise_lt_range.imp ?_
    intro a b hab u hu v hv
    simp only [rowJ, List.mem_filterMap] at hu hv
    obtain ⟨x, _, hu⟩ := hu
    obtain ⟨y, _, hv⟩ := hv
    unfold yfP at hu hv
    split at hu
    · split at hv
      · cases hu; cases hv
        refine .inl ?_
        show (a : Int) < (b : Int)
        omega
      · cases hv
    · cases hu
theorem BagOk.mem {d : Nat} {l : List (Int × Int)} {M : List (List Int × Int)} (h : BagOk d l M) (x : E3) : x ∈ M.map eM ↔ x ∈ yed d (tabE d l) := by
  rw [yen, List.mem_map]
  constructor
  · rintro ⟨p, hp, rfl⟩
    obtain ⟨a, b, h1, h2, h3, h4, h5⟩ := h.at_ p hp
    exact ⟨a, b, h1, h2, by rw [← h4]; exact h5, by unfold eM; rw [h3, h4]; rfl⟩
  · rintro ⟨a, b, h1, h2, h3, rfl⟩
    have hg := h.get a b
    cases hq : mget M [(a : Int), (b : Int)] with
    | none => rw [hq] at hg; simp at hg; omega
    | some v =>
      rw [hq] at hg
      have hg : v = cntE l a b := hg
      exact ⟨_, mget_mem hq, by unfold eM; rw [hg]; rfl⟩
theorem BagOk.nodup {d : Nat} {l : List (Int × Int)} {M : List (List Int × Int)} (h : BagOk d l M) : (M.map eM).Nodup := by
  unfold List.Nodup
  rw [List.pairwise_map]
  refine h.key.1.imp_of_mem ?_
  intro p q hp hq hne he
  obtain ⟨a, b, _, _, h3, _, _⟩ := h.at_ p hp
  obtain ⟨a', b', _, _, h3', _, _⟩ := h.at_ q hq
  apply hne
  unfold eM at he
  rw [h3, h3'] at he ⊢
  have e1 : (a : Int) = a' := congrArg Prod.fst he
  have e2 : (b : Int) = b' := congrArg (fun z : E3 => z.2.1) he
  rw [e1, e2]
theorem sorted_unique {d : Nat} {T : List (List Int)} {zs : List E3} (hp : zs.Perm (yed d T)) (hs : zs.Pairwise (fun a b => ¬ ydP b.1 b.2.1 a.1 a.2.1 < 0)) : zs = yed d T := by
  have hsd := yes (d := d) (T := T)
  have hJ : (yed d T).Pairwise (fun a b : E3 => ¬ ydP b.1 b.2.1 a.1 a.2.1 < 0) := hsd.imp fun {a b} h => by
    rw [ydO]
    unfold ltE at h
    omega
  refine List.Perm.eq_of_pairwise (le := fun a b : E3 => ¬ ydP b.1 b.2.1 a.1 a.2.1 < 0) (fun a b ha hb h1 h2 => ?_) hs hJ hp
  rw [ydO] at h1 h2
  have ha := hp.subset ha
  have e : a.1 = b.1 ∧ a.2.1 = b.2.1 := by omega
  rcases Classical.em (a = b) with q | q
  · exact q
  · exfalso
    have key : ∀ x y : E3, x ∈ yed d T → y ∈ yed d T → x ≠ y → x.1 = y.1 ∧ x.2.1 = y.2.1 → False := by
      intro x y hx hy hne he
      have p1 : (yed d T).Pairwise (fun x y : E3 => x ≠ y → ¬ (x.1 = y.1 ∧ x.2.1 = y.2.1)) := hsd.imp fun {a b} h _ he => by unfold ltE at h; omega
      have p2 : (yed d T).Pairwise (flip fun x y : E3 => x ≠ y → ¬ (x.1 = y.1 ∧ x.2.1 = y.2.1)) := hsd.imp fun {a b} h => by
        show b ≠ a → ¬ (b.1 = a.1 ∧ b.2.1 = a.2.1)
        intro _ he; unfold ltE at h; omega
      have := List.Pairwise.forall_of_forall_of_flip (R := fun x y : E3 => x ≠ y → ¬ (x.1 = y.1 ∧ x.2.1 = y.2.1)) (fun z _ h => absurd rfl h) p1 p2
      exact this hx hy hne he
    exact key a b ha hb q e
theorem p_bag_graph {d : Nat} {l : List (Int × Int)} {M : List (List Int × Int)} (h : BagOk d l M) (hn : l.length ≤ 4096) {R : Int → List E3 → Prop} (hR : R d (yed d (tabE d l))) : yb8 M d R := by
  have hML := h.len
  refine ⟨fun m g seen => seen.Nodup ∧ (∀ j ∈ seen, j < M.length) ∧ g = seen.map (fun j => eM (M.getD j default)) ∧ m + seen.length = M.length, ⟨M.length, List.nodup_nil, by simp, rfl, by simp⟩, ?_⟩
  rintro m g seen ⟨h1, h2, rfl, h3⟩
  refine ⟨h.key, fun j ka kb kv hj hns => ?_, fun hall => ?_⟩
  · have hjl : j < M.length := (List.getElem?_eq_some_iff.1 hj).1
    have hlt := seen_lt h1 h2 hjl hns
    refine ⟨by rw [List.length_map]; omega, m - 1, by omega, ?_, ?_, ?_, ?_⟩
    · rw [List.nodup_append]
      exact ⟨h1, by simp, fun a ha b hb => by rw [List.mem_singleton] at hb; subst hb; exact fun q => hns (q ▸ ha)⟩
    · intro x hx
      rcases List.mem_append.1 hx with hx | hx
      · exact h2 x hx
      · rw [List.mem_singleton] at hx; subst hx; exact hjl
    · rw [List.map_append]
      simp [List.getD_eq_getElem?_getD, hj, eM, gi]
    · rw [List.length_append, List.length_singleton]; omega
  · have hp : seen.Perm (List.range M.length) := (List.perm_ext_iff_of_nodup h1 List.nodup_range).2 fun a => ⟨fun q => List.mem_range.2 (h2 a q), fun q => hall a (List.mem_range.1 q)⟩
    have he : (List.range M.length).map (fun j => eM (M.getD j default)) = M.map eM := by
      apply List.ext_getElem?
      intro k
      by_cases hk : k < M.length
      · simp [hk, List.getD_eq_getElem?_getD]
      · simp [hk]
    have hp2 : (seen.map fun j => eM (M.getD j default)).Perm (yed d (tabE d l)) := by
      refine (hp.map _).trans ?_
      rw [he]
      exact (List.perm_ext_iff_of_nodup h.nodup (yes.imp fun {a b} q => by rintro rfl; unfold ltE at q; omega)).2 h.mem
    refine ⟨by rw [List.length_map]; have := seen.length; omega, fun zs hz hs => ?_⟩
    rw [sorted_unique (hz.trans hp2) hs]
    exact hR
theorem p_graph_Make {d : Nat} (h1 : 1 ≤ d) (hd : d ≤ 12) {l : List (Int × Int)} (hl : ∀ e ∈ l, (0 ≤ e.1 ∧ e.1 < d) ∧ 0 ≤ e.2 ∧ e.2 < d) (hn : l.length ≤ 4096) (hm : ∀ a b, cntE l a b ≤ 50) {R : Int → List E3 → Int → Prop} (h : R d (yed d (tabE d l)) 0) : ya3 d l R := by
  refine ⟨True, fun _ => ⟨fun q => by omega, fun _ => ?_⟩, fun q => by omega, fun _ => ⟨fun q => by omega, fun _ => trivial⟩⟩
  refine ⟨fun m v M => ∃ k : Nat, v = k ∧ k + m = l.length ∧ BagOk d (l.take k) M, ⟨l.length, 0, rfl, by omega, BagOk.nil d⟩, ?_⟩
  rintro m v M ⟨k, rfl, hk, hM⟩
  refine ⟨fun hlt => ?_, fun hge => ?_⟩
  · have hkl : k < l.length := by omega
    rw [Int.toNat_natCast]
    have hx := hl (gx l k) (by rw [yeG hkl]; exact List.getElem_mem hkl)
    have htk : l.take (k + 1) = l.take k ++ [gx l k] := by rw [List.take_add_one, List.getElem?_eq_getElem hkl, yeG hkl]; rfl
    generalize gx l k = e at hx htk ⊢
    obtain ⟨a, ha⟩ : ∃ a : Nat, mnF e.1 e.2 = a := ⟨(mnF e.1 e.2).toNat, by unfold mnF; split <;> omega⟩
    obtain ⟨b, hb⟩ : ∃ b : Nat, mxF e.1 e.2 = b := ⟨(mxF e.1 e.2).toNat, by unfold mxF; split <;> omega⟩
    have hab : a ≤ b := by unfold mnF at ha; unfold mxF at hb; split at ha <;> split at hb <;> omega
    have hbd : b < d := by unfold mxF at hb; split at hb <;> omega
    have hg : (mget M [(a : Int), (b : Int)]).getD 0 = cntE (l.take k) a b := hM.get a b
    have hput := hM.put hd hab hbd ha hb
    have hc1 := ygz (l.take k) a b
    have hc2 := cntE_le (l.take k) a b
    have hc3 : (l.take k).length ≤ 4096 := by rw [List.length_take]; omega
    have hK := keyOk2 hd hab hbd
    have hin : In64 (cntE (l.take k) a b + 1) := ⟨by omega, by omega⟩
    refine ⟨by omega, True, fun _ => ?_, by decide, ?_⟩
    · refine ⟨fun M' => M' = mput M [(a : Int), (b : Int)] (cntE (l.take k) a b + 1), fun M' hM' => ?_, by decide, by decide, ?_⟩
      · subst hM'
        exact ⟨⟨by omega, by omega⟩, m - 1, by omega, k + 1, by omega, by omega, by rw [htk]; exact hput⟩
      · unfold ycG
        rw [ha, hb]
        refine ⟨⟨hM.key, hK, by rw [hg]; exact hin, by rw [hg]⟩, hM.key, hK, hM.key.put hK _, ?_, ?_⟩
        · rw [yfV, if_pos rfl, Option.getD_some, hg]; exact hin
        · show _ = _
          rw [yfV, if_pos rfl, Option.getD_some, hg]
    · unfold ybe
      obtain ⟨⟨x1, x2⟩, x3, x4⟩ := hx
      exact ⟨fun _ => ⟨fun _ => ⟨by decide, fun _ => ⟨fun _ => trivial, fun q => absurd (decide_eq_true x4) q⟩, fun q => absurd x3 q⟩, fun q => absurd (decide_eq_true x2) q⟩, fun q => absurd x1 q⟩
  · have hk2 : l.take k = l := List.take_of_length_le (by omega)
    rw [hk2] at hM
    refine ⟨fun m seen => seen.Nodup ∧ (∀ j ∈ seen, j < M.length) ∧ m + seen.length = M.length, ⟨M.length, List.nodup_nil, by simp, by simp⟩, ?_⟩
    rintro m seen ⟨q1, q2, q3⟩
    refine ⟨hM.key, fun j ka kb kv hj hns => ?_, fun _ => p_bag_graph hM hn h⟩
    have hjl : j < M.length := (List.getElem?_eq_some_iff.1 hj).1
    have hlt := seen_lt q1 q2 hjl hns
    have h50 : kv ≤ 50 := by
      obtain ⟨a, b, _, _, _, h6, _⟩ := hM.at_ _ (List.mem_of_getElem? hj)
      have h6 : kv = cntE l a b := h6
      rw [h6]; exact hm a b
    refine ⟨fun q => by omega, fun _ => ⟨m - 1, by omega, ?_, ?_, ?_⟩⟩
    · rw [List.nodup_append]
      exact ⟨q1, by simp, fun a ha b hb => by rw [List.mem_singleton] at hb; subst hb; exact fun q => hns (q ▸ ha)⟩
    · intro x hx
      rcases List.mem_append.1 hx with hx | hx
      · exact q2 x hx
      · rw [List.mem_singleton] at hx; subst hx; exact hjl
    · rw [List.length_append, List.length_singleton]; omega
end Go.Proofs.Ytdbpajnjhgocoaa

/- The ends of the edges of each kind: program and reference. -/
namespace Go.Proofs.Ytdbpajnjhgocoaa
open Go Go.RowKit Go.Shelf Go.Proofs.Try
set_option linter.unusedVariables false
set_option linter.unusedSimpArgs false
def cntL (a n : Nat) : List Int := (List.range n).map fun (i : Nat) => ((a + i : Nat) : Int)
theorem yaZ (a n : Nat) : (cntL a n).length = n := by simp [cntL]
theorem ycv (a n : Nat) : cntL a (n + 1) = cntL a n ++ [((a + n : Nat) : Int)] := by simp [cntL, List.range_succ]
theorem ybv {a n : Nat} (ha : a ≤ 10000) (hn : n ≤ 10000) {R : List Int → Prop} (h : R (cntL a n)) : ya5 a n R := by
  refine ⟨⟨by omega, by omega⟩, fun m v out => ∃ k : Nat, v = k ∧ k + m = n ∧ out = cntL a k ++ List.replicate m 0, ⟨n, 0, rfl, by omega, by simp [cntL]⟩, ?_⟩
  rintro m v out ⟨k, rfl, hk, rfl⟩
  rw [List.length_replicate, Int.toNat_natCast]
  refine ⟨fun hlt => ⟨⟨by omega, by omega⟩, ⟨by omega, by rw [List.length_append, yaZ, List.length_replicate]; omega⟩, ⟨by omega, by omega⟩, m - 1, by omega, k + 1, by omega, by omega, ?_⟩, fun hge => ?_⟩
  · obtain ⟨m', rfl⟩ : ∃ m', m = m' + 1 := ⟨m - 1, by omega⟩
    rw [Int.toNat_natCast, List.set_append_right _ _ (by rw [yaZ]; exact Nat.le_refl _), yaZ, Nat.sub_self, List.replicate_succ, List.set_cons_zero, ycv, List.append_assoc]
    simp
  · have : m = 0 := by omega
    subst this
    have : k = n := by omega
    subst this
    simpa using h
theorem ybT {x : Int} {n : Nat} (hn : n ≤ 10000) {t : Int} (ht : t.toNat = n) {R : List Int → Prop} (h : R (List.replicate n x)) : ya9 x t R := by
  refine ⟨fun m out v => ∃ k : Nat, v = k ∧ k + m = n ∧ out = List.replicate k x, ⟨n, 0, rfl, by omega, rfl⟩, ?_⟩
  rintro m out v ⟨k, rfl, hk, rfl⟩
  refine ⟨fun hlt => ⟨by rw [List.length_replicate]; omega, ⟨by omega, by omega⟩, m - 1, by omega, k + 1, by omega, by omega, by rw [List.replicate_succ']⟩, fun hge => ?_⟩
  have : k = n := by omega
  subst this
  exact h
theorem ybK {s : Int} {s2 : List (Int × Int)} {a : Int} {o : List Int} (hl : s2.length + o.length ≤ 100000) {R : List (Int × Int) → Prop} (h : R (s2 ++ o.map fun b => (a, b))) : yaI s s2 a o R := by
  refine ⟨fun m v s3 => ∃ k : Nat, v = k ∧ k + m = o.length ∧ s3 = s2 ++ (o.take k).map fun b => (a, b), ⟨o.length, 0, rfl, by omega, by simp⟩, ?_⟩
  rintro m v s3 ⟨k, rfl, hk, rfl⟩
  refine ⟨fun hlt => ?_, fun hge => ?_⟩
  · have hko : k < o.length := by omega
    refine ⟨⟨by omega, by omega⟩, by rw [List.length_append, List.length_map, List.length_take]; omega, ⟨by omega, by omega⟩, m - 1, by omega, k + 1, by omega, by omega, ?_⟩
    rw [Int.toNat_natCast, ybz hko, List.take_add_one, List.getElem?_eq_getElem hko, List.map_append]
    simp
  · rw [List.take_of_length_le (by omega)]; exact h
def wayL : List Int → List (Int × Int)
  | a :: b :: t => (a, b) :: wayL (b :: t)
  | _ => []
theorem yem : ∀ (l : List Int) (a b : Int), wayL (l ++ [a] ++ [b]) = wayL (l ++ [a]) ++ [(a, b)]
  | [], a, b => rfl
  | [x], a, b => rfl
  | x :: y :: t, a, b => by
    have := yem (y :: t) a b
    simp only [List.cons_append, wayL] at this ⊢
    rw [this]
theorem yfS : ∀ (l : List Int), (wayL l).length ≤ l.length
  | [] => Nat.le_refl _
  | [_] => Nat.zero_le _
  | a :: b :: t => by have := yfS (b :: t); simp only [wayL, List.length_cons] at this ⊢; omega
theorem ydv {s : Int} {s2 : List (Int × Int)} {l : List Int} (hl : s2.length + l.length ≤ 50000) {R : List (Int × Int) → Prop} (h : R (s2 ++ wayL l)) : ya7 s s2 l R := by
  refine ⟨fun m i s3 => ∃ k : Nat, i = ((k + 1 : Nat) : Int) ∧ (k + 1 ≤ l.length → k + 1 + m = l.length) ∧ s3 = s2 ++ wayL (l.take (k + 1)), ⟨l.length - 1, 0, rfl, by omega, ?_⟩, ?_⟩
  · cases l with
    | nil => simp [wayL]
    | cons x t => simp [wayL]
  · rintro m i s3 ⟨k, rfl, hk, rfl⟩
    refine ⟨fun hlt => ?_, fun hge => ?_⟩
    · have h1 : k + 1 < l.length := by omega
      have e1 : (((k + 1 : Nat) : Int) - 1) = (k : Int) := by omega
      rw [e1, Int.toNat_natCast, Int.toNat_natCast]
      refine ⟨⟨by omega, by omega⟩, ⟨by omega, by omega⟩, ⟨by omega, by omega⟩, ?_⟩
      have hw := yfS (l.take (k + 1))
      rw [List.length_take] at hw
      refine ybK (by rw [List.length_append, List.length_singleton]; omega) ⟨⟨by omega, by omega⟩, m - 1, by omega, k + 1, by omega, by omega, ?_⟩
      have t1 : l.take (k + 1) = l.take k ++ [gi l k] := by rw [List.take_add_one, List.getElem?_eq_getElem (by omega), ybz (by omega)]; rfl
      have t2 : l.take (k + 1 + 1) = l.take (k + 1) ++ [gi l (k + 1)] := by rw [List.take_add_one, List.getElem?_eq_getElem h1, ybz h1]; rfl
      rw [t2, t1, yem, List.append_assoc]; rfl
    · rcases Nat.lt_or_ge (k + 1) l.length with q | q
      · omega
      · rw [List.take_of_length_le q]; exact h
def ycl (a n : Nat) : List (Int × Int) := (List.range n).map fun (i : Nat) => (((a + i : Nat) : Int), ((a + i : Nat) : Int) + 1)
theorem lineL_snoc (a n : Nat) : ycl a (n + 1) = ycl a n ++ [(((a + n : Nat) : Int), ((a + n : Nat) : Int) + 1)] := by simp [ycl, List.range_succ]
theorem ygm (a : Nat) : ∀ n : Nat, wayL (cntL a (n + 1)) = ycl a n
  | 0 => by simp [cntL, wayL, ycl]
  | n + 1 => by
    rw [ycv a (n + 1), ycv a n, yem, ← ycv a n, ygm a n, lineL_snoc]
    simp; omega
theorem wayL_close (a n : Nat) (z : Int) : wayL (cntL a (n + 1) ++ [z]) = ycl a n ++ [(((a + n : Nat) : Int), z)] := by
  rw [ycv, yem, ← ycv, ygm]
def ycc (m n : Nat) : List (Int × Int) := (List.range m).flatMap fun (i : Nat) => (cntL m n).map fun b => ((i : Int), b)
theorem yfW {α : Type} (f : Nat → List α) (c : Nat) (h : ∀ i, (f i).length = c) : ∀ k, ((List.range k).flatMap f).length = k * c
  | 0 => by simp
  | k + 1 => by rw [List.range_succ, List.flatMap_append, List.length_append, yfW f c h k]; simp [h, Nat.add_mul]
def compL (n : Nat) : List (Int × Int) := (List.range n).flatMap fun (v : Nat) => (cntL (v + 1) (n - v - 1)).map fun b => ((v : Int), b)
theorem yeH (n : Nat) : ycc 1 n = (cntL 1 n).map fun b => ((0 : Int), b) := by simp [ycc, List.range_succ]
section
variable {s : Int} {n : Nat} {R : List (Int × Int) → Prop}
theorem p_fam_path (h1 : 1 ≤ n) (h2 : n ≤ 1000) (h : R (ycl 0 (n - 1))) : ybQ s [] [(n : Int)] R := by
  refine ⟨by simp, ybv (a := 0) (n := n) (by omega) (by omega) (ydv (by rw [yaZ]; simp; omega) ?_)⟩
  obtain ⟨k, rfl⟩ : ∃ k, n = k + 1 := ⟨n - 1, by omega⟩
  rw [ygm]; exact h
theorem p_fam_cycle (h1 : 1 ≤ n) (h2 : n ≤ 1000) (h : R (ycl 0 (n - 1) ++ [((n : Int) - 1, 0)])) : ybO s [] [(n : Int)] R := by
  refine ⟨by simp, ybv (a := 0) (n := n) (by omega) (by omega) ⟨by rw [yaZ]; omega, ydv (by rw [List.length_append, yaZ]; simp; omega) ?_⟩⟩
  obtain ⟨k, rfl⟩ : ∃ k, n = k + 1 := ⟨n - 1, by omega⟩
  rw [wayL_close]
  have e : (((k + 1 : Nat) : Int) - 1) = ((0 + k : Nat) : Int) := by omega
  rw [e] at h
  exact h
theorem p_fam_star (h2 : n ≤ 1000) (h : R (ycc 1 n)) : ybM s [] [(n : Int)] R := by
  refine ⟨by simp, ybv (a := 1) (n := n) (by omega) (by omega) (ybK (by rw [yaZ]; simp; omega) ?_)⟩
  rw [yeH] at h; exact h
theorem p_fam_banana (h2 : n ≤ 1000) (h : R (List.replicate n (0, 1))) : ybR s [] [(n : Int)] R := by
  refine ⟨by simp, ybT (n := n) (by omega) (by exact Int.toNat_natCast n) (ybK (by rw [List.length_replicate]; simp; omega) ?_)⟩
  simpa using h
theorem p_fam_wheel (h1 : 1 ≤ n) (h2 : n ≤ 1000) (h : R ((ycc 1 n ++ ycl 1 (n - 1)) ++ [((n : Int), 1)])) : ybN s [] [(n : Int)] R := by
  refine ⟨by simp, ybv (a := 1) (n := n) (by omega) (by omega) (ybK (by rw [yaZ]; simp; omega) ?_)⟩
  refine ybv (a := 1) (n := n) (by omega) (by omega) ⟨by rw [yaZ]; omega, ydv (by rw [List.length_append, List.length_append, List.length_map, yaZ]; simp; omega) ?_⟩
  obtain ⟨k, rfl⟩ : ∃ k, n = k + 1 := ⟨n - 1, by omega⟩
  rw [wayL_close]
  have e : (((k + 1 : Nat) : Int)) = ((1 + k : Nat) : Int) := by omega
  rw [yeH, List.append_assoc, e] at h
  exact h
theorem p_fam_complete (h1 : 1 ≤ n) (h2 : n ≤ 12) (h : R (compL n)) : ybS s [] [(n : Int)] R := by
  refine ⟨by simp, fun m v s3 => ∃ k : Nat, v = k ∧ k + m = n ∧ s3 = ((List.range k).flatMap fun (v : Nat) => (cntL (v + 1) (n - v - 1)).map fun b => ((v : Int), b)) ∧ s3.length ≤ k * 12, ⟨n, 0, rfl, by omega, rfl, by simp⟩, ?_⟩
  rintro m v s3 ⟨k, rfl, hk, rfl, hl⟩
  have hg : gi [(n : Int)] (Int.toNat 0) = n := rfl
  rw [hg]
  refine ⟨fun hlt => ⟨⟨by omega, by omega⟩, ⟨by omega, by omega⟩, ⟨by omega, by omega⟩, ?_⟩, fun hge => ?_⟩
  · have e1 : ((k : Int) + 1) = ((k + 1 : Nat) : Int) := by omega
    have e2 : ((n : Int) - k - 1) = ((n - k - 1 : Nat) : Int) := by omega
    rw [e1, e2]
    refine ybv (by omega) (by omega) (ybK (by rw [yaZ]; omega) ⟨m - 1, by omega, k + 1, rfl, by omega, ?_, ?_⟩)
    · rw [List.range_succ, List.flatMap_append]; simp
    · rw [List.length_append, List.length_map, yaZ]; omega
  · have : k = n := by omega
    subst this
    exact h
theorem yf8 {m : Nat} (h1 : m ≤ 12) (h2 : n ≤ 12) (h : R (ycc m n)) : ybI s [] [(m : Int), (n : Int)] R := by
  refine ⟨by simp, fun q v s3 => ∃ k : Nat, v = k ∧ k + q = m ∧ s3 = ((List.range k).flatMap fun (i : Nat) => (cntL m n).map fun b => ((i : Int), b)), ⟨m, 0, rfl, by omega, rfl⟩, ?_⟩
  rintro q v s3 ⟨k, rfl, hk, rfl⟩
  have hg : gi [(m : Int), (n : Int)] (Int.toNat 0) = m := rfl
  have hg1 : gi [(m : Int), (n : Int)] (Int.toNat 1) = n := rfl
  rw [hg, hg1]
  have hl := yfW (fun (i : Nat) => (cntL m n).map fun b => ((i : Int), b)) n (fun i => by simp [yaZ]) k
  have hb : k * n ≤ 12 * 12 := Nat.mul_le_mul (by omega) h2
  refine ⟨fun hlt => ⟨by simp, ybv (by omega) (by omega) (ybK (by rw [hl, yaZ]; omega) ⟨⟨by omega, by omega⟩, q - 1, by omega, k + 1, rfl, by omega, ?_⟩)⟩, fun hge => ?_⟩
  · rw [List.range_succ, List.flatMap_append]; simp
  · have : k = m := by omega
    subst this
    exact h
end
section
variable {n : Nat} {R : List (Int × Int) → Prop}
end
def atV (a j : Nat) : Int := if j = 0 then 0 else ((a + j - 1 : Nat) : Int)
def segL (a j : Nat) : List Int := [0] ++ cntL a j
theorem segL_end (a : Nat) : ∀ j, ∃ pre, segL a j = pre ++ [atV a j]
  | 0 => ⟨[], rfl⟩
  | j + 1 => ⟨[0] ++ cntL a j, by simp [segL, ycv, atV]⟩
theorem yfv (a j : Nat) (x : Int) : wayL (segL a j ++ [x]) = wayL (segL a j) ++ [(atV a j, x)] := by
  obtain ⟨pre, h⟩ := segL_end a j
  rw [h, yem]
theorem segL_snoc (a j : Nat) : segL a (j + 1) = segL a j ++ [((a + j : Nat) : Int)] := by simp [segL, ycv]
def nxt (l : Nat → Nat) : Nat → Nat
  | 0 => 2
  | k + 1 => nxt l k + (l k - 1)
def thL (l : Nat → Nat) : Nat → List (Int × Int)
  | 0 => []
  | k + 1 => thL l k ++ wayL (segL (nxt l k) (l k - 1) ++ [1])
theorem nxt_le {l : Nat → Nat} (h : ∀ k, l k ≤ 20) : ∀ k, nxt l k ≤ 2 + 20 * k
  | 0 => Nat.le_refl _
  | k + 1 => by have := nxt_le h k; have := h k; simp only [nxt]; omega
theorem thL_len {l : Nat → Nat} (h : ∀ k, l k ≤ 20) : ∀ k, (thL l k).length ≤ 25 * k
  | 0 => Nat.le_refl _
  | k + 1 => by
    have := thL_len h k; have := h k
    have h2 := yfS (segL (nxt l k) (l k - 1) ++ [1])
    simp only [segL, List.length_append, List.length_singleton, yaZ] at h2
    simp only [thL, segL, List.length_append] at h2 ⊢; omega
section
variable {s : Int} {l : Nat → Nat} {R : List (Int × Int) → Prop}
theorem gi3 {l : Nat → Nat} {k : Nat} (h : k < 3) : gi [((l 0 : Nat) : Int), ((l 1 : Nat) : Int), ((l 2 : Nat) : Int)] k = l k := by
  rcases (show k = 0 ∨ k = 1 ∨ k = 2 by omega) with rfl | rfl | rfl <;> rfl
theorem p_fam_theta (h1 : ∀ k, 1 ≤ l k) (h2 : ∀ k, l k ≤ 20) (h : R (thL l 3)) : ybD s [] [((l 0 : Nat) : Int), ((l 1 : Nat) : Int), ((l 2 : Nat) : Int)] R := by
  refine ⟨fun m next v s3 => ∃ k : Nat, v = k ∧ k + m = 3 ∧ next = nxt l k ∧ s3 = thL l k, ⟨3, 0, rfl, rfl, rfl, rfl⟩, ?_⟩
  rintro m next v s3 ⟨k, rfl, hk, rfl, rfl⟩
  have hlen : [((l 0 : Nat) : Int), ((l 1 : Nat) : Int), ((l 2 : Nat) : Int)].length = 3 := rfl
  rw [hlen]
  have a1 := h1 k; have a2 := h2 k; have a3 := nxt_le h2 k; have a4 := thL_len h2 k
  refine ⟨fun hlt => ?_, fun hge => ?_⟩
  · rw [Int.toNat_natCast, gi3 (by omega)]
    have e : ((l k : Nat) : Int) - 1 = ((l k - 1 : Nat) : Int) := by omega
    rw [e]
    refine ⟨⟨by omega, by omega⟩, ⟨by omega, by omega⟩, ybv (by omega) (by omega) ⟨by rw [yaZ]; simp; omega, by rw [List.length_append, yaZ]; simp; omega, ?_⟩⟩
    refine ydv (by rw [List.length_append, List.length_append, yaZ]; simp; omega) ⟨⟨by omega, by omega⟩, ⟨by omega, by omega⟩, m - 1, by omega, k + 1, by omega, by omega, ?_, ?_⟩
    · simp only [nxt]; omega
    · rfl
  · have : k = 3 := by omega
    subst this
    exact h
end
def yds (m n i j : Nat) : List (Int × Int) := (if j + 1 < n then [(((i * n + j : Nat) : Int), ((i * n + j + 1 : Nat) : Int))] else []) ++ (if i + 1 < m then [(((i * n + j : Nat) : Int), ((i * n + n + j : Nat) : Int))] else [])
def gridL (m n : Nat) : List (Int × Int) := (List.range m).flatMap fun i => (List.range n).flatMap fun j => yds m n i j
theorem yfg (m n i j : Nat) : (yds m n i j).length ≤ 2 := by unfold yds; split <;> split <;> simp
theorem yeS {α : Type} (f : Nat → List α) (c : Nat) (h : ∀ i, (f i).length ≤ c) : ∀ k, ((List.range k).flatMap f).length ≤ k * c
  | 0 => by simp
  | k + 1 => by
              have := yeS f c h k
              have h2 := h k
              have e : ((List.range (k + 1)).flatMap f).length = ((List.range k).flatMap f).length + (f k).length := by rw [List.range_succ, List.flatMap_append, List.length_append]; simp
              rw [e, Nat.add_mul]; omega
def gcell (m n v : Nat) : List (Int × Int) := yds m n (v / n) (v % n)
theorem gridL_flat (m : Nat) {n : Nat} (hn : 1 ≤ n) : (List.range (m * n)).flatMap (gcell m n) = gridL m n := by
  have key : ∀ k, (List.range (k * n)).flatMap (gcell m n) = (List.range k).flatMap fun i => (List.range n).flatMap fun j => yds m n i j := by
    intro k
    induction k with
    | zero => simp
    | succ k ih =>
      rw [Nat.add_mul, Nat.one_mul, List.range_add, List.flatMap_append, ih, List.range_succ, List.flatMap_append, List.flatMap_map]
      congr 1
      simp only [List.flatMap_cons, List.flatMap_nil, List.append_nil]
      have : ∀ L : List Nat, (∀ j ∈ L, j < n) → L.flatMap (fun a => gcell m n (k * n + a)) = L.flatMap fun j => yds m n k j := by
        intro L hL
        induction L with
        | nil => rfl
        | cons a L ih2 =>
          have ha := hL a (by simp)
          have e1 : (k * n + a) / n = k := by rw [Nat.mul_comm, Nat.mul_add_div (by omega), Nat.div_eq_of_lt ha, Nat.add_zero]
          have e2 : (k * n + a) % n = a := by rw [Nat.mul_comm, Nat.mul_add_mod, Nat.mod_eq_of_lt ha]
          simp only [List.flatMap_cons]
          rw [ih2 fun j hj => hL j (by simp [hj])]
          simp only [gcell, e1, e2]
      exact this _ fun j hj => List.mem_range.1 hj
  exact key m
theorem p_fam_grid {s : Int} {m n : Nat} (h1 : m ≤ 12) (hn : 1 ≤ n) (h2 : n ≤ 12) {R : List (Int × Int) → Prop} (h : R (gridL m n)) : ybq s [] [(m : Int), (n : Int)] R := by
  have hg : gi [(m : Int), (n : Int)] (Int.toNat 0) = m := rfl
  have hg1 : gi [(m : Int), (n : Int)] (Int.toNat 1) = n := rfl
  unfold ybq
  rw [hg, hg1]
  have hmn : m * n ≤ 12 * 12 := Nat.mul_le_mul h1 h2
  have hc : ((m : Int) * (n : Int)) = ((m * n : Nat) : Int) := by simp
  rw [hc]
  refine ⟨by simp, by simp, ⟨by omega, by omega⟩, fun q v s3 => ∃ k : Nat, v = k ∧ k + q = m * n ∧ s3 = (List.range k).flatMap (gcell m n), ⟨m * n, 0, rfl, by omega, rfl⟩, ?_⟩
  rintro q v s3 ⟨k, rfl, hk, rfl⟩
  refine ⟨fun hlt => ?_, fun hge => ?_⟩
  · have hL := yeS (gcell m n) 2 (fun i => yfg m n _ _) k
    have hkv : k = (k / n) * n + k % n := by rw [Nat.mul_comm]; exact (Nat.div_add_mod k n).symm
    have hmod : k % n < n := Nat.mod_lt k (by omega)
    have hd : k / n < m := Nat.div_lt_of_lt_mul (by rw [Nat.mul_comm]; omega)
    have c1 : ((k : Int) + 1).tmod n = 0 ↔ ¬ (k % n + 1 < n) := by
      have e : ((k : Int) + 1).tmod n = (((k + 1) % n : Nat) : Int) := by
        rw [Int.tmod_eq_emod_of_nonneg (by omega), Int.natCast_emod]; rfl
      rw [e]
      have e2 : (k + 1) % n = if k % n + 1 < n then k % n + 1 else 0 := by
        rw [Nat.add_mod]
        by_cases q : n = 1
        · subst q; simp [Nat.mod_one]
        · rw [Nat.mod_eq_of_lt (show 1 < n by omega)]
          split
          · rename_i q2; exact Nat.mod_eq_of_lt q2
          · have : k % n + 1 = n := by omega
            rw [this, Nat.mod_self]
      rw [e2]
      by_cases q2 : k % n + 1 < n
      · rw [if_pos q2]; exact ⟨fun z => by omega, fun z => absurd q2 z⟩
      · rw [if_neg q2]; exact ⟨fun _ => q2, fun _ => rfl⟩
    have c2 : (k : Int) + n < ((m * n : Nat) : Int) ↔ k / n + 1 < m := by
      constructor
      · intro q
        have q : k + n < m * n := by omega
        have := Nat.div_lt_of_lt_mul (show k + n < n * m by rw [Nat.mul_comm]; exact q)
        rw [Nat.add_div_right _ (by omega)] at this
        exact this
      · intro q
        have : (k / n + 1 + 1) * n ≤ m * n := Nat.mul_le_mul_right n q
        rw [Nat.add_mul, Nat.add_mul] at this
        omega
    have hcell : gcell m n k = (if k % n + 1 < n then [((k : Int), (k : Int) + 1)] else []) ++ (if k / n + 1 < m then [((k : Int), (k : Int) + n)] else []) := by
      unfold gcell yds
      have e1 : k / n * n + n + k % n = k + n := by omega
      rw [← hkv, e1]
      rfl
    refine ⟨⟨by omega, by omega⟩, by omega, fun s4 => s4 = (List.range k).flatMap (gcell m n) ++ (if k % n + 1 < n then [((k : Int), (k : Int) + 1)] else []), ?_, ?_⟩
    · rintro s4 rfl
      refine ⟨⟨by omega, by omega⟩, fun q2 => ybK ?_ ⟨q - 1, by omega, k + 1, by omega, by omega, ?_⟩, fun q2 => ⟨q - 1, by omega, k + 1, by omega, by omega, ?_⟩⟩
      · rw [List.length_append]; split <;> simp only [List.length_singleton, List.length_nil] <;> omega
      · rw [List.range_succ, List.flatMap_append]
        simp only [List.flatMap_cons, List.flatMap_nil, List.append_nil]
        rw [hcell, if_pos (c2.1 q2), List.append_assoc]; rfl
      · rw [List.range_succ, List.flatMap_append]
        simp only [List.flatMap_cons, List.flatMap_nil, List.append_nil]
        rw [hcell, if_neg (fun z => q2 (c2.2 z))]; simp
    · refine ⟨fun q2 => ?_, fun q2 => ybK (by rw [List.length_singleton]; omega) ?_⟩
      · rw [if_neg (c1.1 q2)]; simp
      · rw [if_pos (Classical.byContradiction fun z => q2 (c1.2 z))]; rfl
  · have : k = m * n := by omega
    subst this
    rw [gridL_flat m hn] 
    exact h
end Go.Proofs.Ytdbpajnjhgocoaa

/- The facts of a graph that is made of ends: in normal form, its size, its genus, its degrees. -/
namespace Go.Proofs.Ytdbpajnjhgocoaa
open Go Go.RowKit Go.Shelf Go.Proofs.Try
set_option linter.unusedVariables false
set_option linter.unusedSimpArgs false
def sF : List E3 → List E3
  | [] => []
  | x :: t => List.replicate x.2.2.toNat (x.1, x.2.1, 1) ++ sF t
theorem yf9 : ∀ (a b : List E3), sF (a ++ b) = sF a ++ sF b
  | [], b => rfl
  | x :: t, b => by rw [List.cons_append, sF, sF, yf9 t b, List.append_assoc]
theorem sF_take {es : List E3} {k : Nat} (hk : k < es.length) : sF (es.take (k + 1)) = sF (es.take k) ++ List.replicate (ge es k).2.2.toNat ((ge es k).1, (ge es k).2.1, 1) := by
  rw [List.take_add_one, List.getElem?_eq_getElem hk, ← yfj hk, yf9]
  simp [sF]
theorem sF_pre {es : List E3} {k : Nat} (hk : k < es.length) {j : Nat} (hj : j ≤ (ge es k).2.2.toNat) : sF (es.take k) ++ List.replicate j ((ge es k).1, (ge es k).2.1, 1) <+: sF es := by
  have h1 : es = es.take (k + 1) ++ es.drop (k + 1) := (List.take_append_drop _ _).symm
  have h2 : sF es = sF (es.take k) ++ List.replicate (ge es k).2.2.toNat ((ge es k).1, (ge es k).2.1, 1) ++ sF (es.drop (k + 1)) := by
    conv => lhs; rw [h1]
    rw [yf9, sF_take hk]
  obtain ⟨i, hi⟩ : ∃ i, (ge es k).2.2.toNat = j + i := ⟨(ge es k).2.2.toNat - j, by omega⟩
  rw [h2, hi, ← List.replicate_append_replicate]
  exact ⟨List.replicate i ((ge es k).1, (ge es k).2.1, 1) ++ sF (es.drop (k + 1)), by simp only [List.append_assoc]⟩
theorem sF_ok {n : Nat} : ∀ {es : List E3}, EOk n es → EOk n (sF es)
  | [], _ => fun x hx => by simp [sF] at hx
  | y :: t, h => fun x hx => by
    rw [sF, List.mem_append] at hx
    rcases hx with q | q
    · have := h y (by simp)
      have e := (List.mem_replicate.1 q).2
      subst e
      simp only
      omega
    · exact sF_ok (fun z hz => h z (by simp [hz])) x q
theorem W_rep (a b : Int) (l : List E3) (v u : Nat) : ∀ k : Nat, W (List.replicate k (a, b, 1) ++ l) v u = (k : Int) * w1 (a, b, 1) v u + W l v u
  | 0 => by simp
  | k + 1 => by
    rw [List.replicate_succ, List.cons_append, yfA, W_rep a b l v u k, Int.natCast_add, Int.add_mul]
    omega
theorem W_sF {n : Nat} (v u : Nat) : ∀ {es : List E3}, EOk n es → W (sF es) v u = W es v u
  | [], _ => rfl
  | x :: t, h => by
    have hx := h x (by simp)
    rw [sF, W_rep, yfA, W_sF v u (fun z hz => h z (by simp [hz]))]
    have : ((x.2.2.toNat : Nat) : Int) * w1 (x.1, x.2.1, 1) v u = w1 x v u := by
      unfold w1
      simp only
      split
      · omega
      · omega
    omega
theorem sF_len {n : Nat} : ∀ {es : List E3}, EOk n es → ((sF es).length : Int) = (es.map (·.2.2)).sum
  | [], _ => rfl
  | x :: t, h => by
    have hx := h x (by simp)
    have := sF_len (es := t) fun z hz => h z (by simp [hz])
    rw [sF, List.length_append, List.length_replicate, List.map_cons, List.sum_cons, ← this]
    omega
theorem sF_few {n : Nat} : ∀ {es : List E3}, EOk n es → (sF es).length ≤ 50 * es.length
  | [], _ => Nat.le_refl _
  | x :: t, h => by
    have hx := h x (by simp)
    have := sF_few (es := t) fun z hz => h z (by simp [hz])
    rw [sF, List.length_append, List.length_replicate, List.length_cons]
    omega
def gmap (y : Int × Int × Int) : E3 := (y.2.1, y.2.2, 1)
theorem yfq {n : Nat} {es : List E3} (hE : EOk n es) (hl : es.length ≤ 1000) : ybF (n : Int) es (fun l => l.map gmap <+: sF es) (fun l => l.map gmap = sF es) := by
  unfold ybF
  refine ⟨fun m pre e2 v => Cnt es.length (fun k => pre.map gmap = sF (es.take k) ∧ 0 ≤ e2 ∧ e2 ≤ 50 * k) m v, Cnt.start ⟨rfl, by omega, by omega⟩, ?_⟩
  rintro m pre e2 _ ⟨k, rfl, rfl, hk, hpre, he0, he1⟩
  simp only [Int.toNat_natCast]
  refine ⟨fun hlt => ⟨by omega, ?_⟩, fun hge => ?_⟩
  · have hkl : k < es.length := by omega
    have hx := hE _ (List.mem_of_getElem? (yev hkl))
    refine ⟨fun m pre e3 v => Cnt (ge es k).2.2.toNat (fun j => pre.map gmap = sF (es.take k) ++ List.replicate j ((ge es k).1, (ge es k).2.1, 1) ∧ 0 ≤ e3 ∧ e3 ≤ 50 * k + j) m v, Cnt.start ⟨by simpa using hpre, he0, by omega⟩, ?_⟩
    rintro m3 pre3 e3 _ ⟨j, rfl, rfl, hj, hp3, h30, h31⟩
    have hstep : ∀ e : Int, (pre3 ++ [(e, (ge es k).1, (ge es k).2.1)]).map gmap = sF (es.take k) ++ List.replicate (j + 1) ((ge es k).1, (ge es k).2.1, 1) := fun e => by
      rw [List.map_append, hp3, List.replicate_succ', List.append_assoc]; rfl
    refine ⟨fun h1 => ⟨?_, ⟨i64 (by omega), Cnt.next (by omega) (by omega) ⟨hstep e3, by omega, by omega⟩⟩, trivial⟩, fun h1 => Cnt.next (by omega) (by omega) ⟨?_, by omega, by omega⟩⟩
    · show (pre3 ++ [(e3, (ge es k).1, (ge es k).2.1)]).map gmap <+: sF es
      rw [hstep]; exact sF_pre hkl (by omega)
    · have e : j = (ge es k).2.2.toNat := by omega
      rw [sF_take hkl, hp3, e]
  · have e : k = es.length := by omega
    rw [e, List.take_length] at hpre
    exact hpre
def castF (F : List Nat) : List Int := F.map fun v : Nat => (v : Int)
theorem gi_castF {F : List Nat} {v : Nat} (hv : v < F.length) : gi (castF F) v = (gn F v : Int) := by
  unfold castF
  rw [ybz (by simpa using hv), ye8 hv]; simp
theorem yfn {F : List Nat} (hF : ycK F) {v : Nat} (hv : v < 12) {R : Int → Prop} (h : R (root F v)) : ybf (castF F) (v : Int) R := by
  unfold ybf
  refine ⟨fun m x => ∃ u : Nat, x = u ∧ m = u ∧ u < 12 ∧ root F u = root F v, ⟨v, v, rfl, rfl, hv, rfl⟩, ?_⟩
  rintro m _ ⟨u, rfl, hm, hu, hr⟩
  have hg : gi (castF F) u = (gn F u : Int) := gi_castF (by rw [hF.1]; exact hu)
  have hle := hF.2 u hu
  simp only [Int.toNat_natCast, hg]
  refine ⟨by omega, fun e => ?_, fun e => ⟨gn F u, by omega, gn F u, rfl, rfl, by omega, ?_⟩⟩
  · rw [yct (F := F) (v := u) (by omega)] at hr
    rw [hr]; exact h
  · rw [← yeu hF hu (by omega)]; exact hr
theorem ygf {F : List Nat} (hF : ycK F) {a b : Nat} (ha : a < 12) (hb : b < 12) (hne : root F a ≠ root F b) : ∀ k, k ≤ 12 → ybY (yc3 F a b) k + (if max (root F a) (root F b) < k then 1 else 0) = ybY F k
  | 0, _ => by simp [ybY]
  | k + 1, hk => by
    have ih := ygf hF ha hb hne k (by omega)
    have hj := yeF hF ha hb k (by omega)
    have ra := yge hF ha
    have rb := yge hF hb
    rw [ybY, ybY]
    have hM : root F (max (root F a) (root F b)) = max (root F a) (root F b) := by
      rcases Nat.le_total (root F a) (root F b) with q | q
      · rw [Nat.max_eq_right q]; exact rb
      · rw [Nat.max_eq_left q]; exact ra
    have hm : root F (min (root F a) (root F b)) = min (root F a) (root F b) := by
      rcases Nat.le_total (root F a) (root F b) with q | q
      · rw [Nat.min_eq_left q]; exact ra
      · rw [Nat.min_eq_right q]; exact rb
    by_cases e1 : k = max (root F a) (root F b)
    · have h1 : root F k = k := by rw [e1]; exact hM
      rw [if_pos (h1.trans e1)] at hj
      rw [if_neg (by omega : ¬ root (yc3 F a b) k = k), if_pos h1, if_pos (by omega)]
      rw [if_neg (by omega)] at ih
      omega
    · have h2 : root (yc3 F a b) k = k ↔ root F k = k := by
        rw [hj]
        split
        · rename_i e2
          constructor
          · intro e3; rw [← e3] at e2; rw [hm] at e2; omega
          · intro e3; omega
        · exact Iff.rfl
      by_cases e3 : root F k = k
      · rw [if_pos (h2.2 e3), if_pos e3]
        by_cases e4 : max (root F a) (root F b) < k
        · rw [if_pos e4] at ih; rw [if_pos (by omega)]; omega
        · rw [if_neg e4] at ih; rw [if_neg (by omega)]; omega
      · rw [if_neg (fun q => e3 (h2.1 q)), if_neg e3]
        by_cases e4 : max (root F a) (root F b) < k
        · rw [if_pos e4] at ih; rw [if_pos (by omega)]; omega
        · rw [if_neg e4] at ih; rw [if_neg (by omega)]; omega
theorem ygj {F : List Nat} (hF : ycK F) {a b : Nat} (ha : a < 12) (hb : b < 12) (he : root F a = root F b) : ∀ k, k ≤ 12 → ybY (yc3 F a b) k = ybY F k
  | 0, _ => rfl
  | k + 1, hk => by
    have ih := ygj hF ha hb he k (by omega)
    have hj := yeF hF ha hb k (by omega)
    rw [ybY, ybY, ih, hj, he]
    simp only [Nat.max_self, Nat.min_self]
    congr 2
    split
    · rename_i e; rw [e]
    · rfl
theorem yfC : ∀ k, k ≤ 12 → ybY ydp k = k
  | 0, _ => rfl
  | k + 1, hk => by
    rw [ybY, yfC k (by omega), if_pos]
    exact yct (by rw [ye8 (by simpa [ydp] using (by omega : k < 12))]; simp [ydp])
theorem joinedF_snoc (l : List E3) (x : E3) : ya1 (l ++ [x]) = yc3 (ya1 l) x.1.toNat x.2.1.toNat := by
  unfold ya1; rw [List.foldl_append]; rfl
theorem castF_join {F : List Nat} {a b : Nat} : (castF F).set (mxF (root F a) (root F b)).toNat (mnF (root F a) (root F b)) = castF (yc3 F a b) := by
  unfold castF yc3
  rw [List.map_set, mxF_eq, mnF_eq]
  congr 1
  · omega
  · omega
theorem p_graph_Genus {n : Nat} {es : List E3} {R : Int → Int → Prop} (hl : es.length ≤ 1000) (hg : ycO n es = 0) (hc : ∀ q, q < n → Conn n es q) (h : R ((es.map (·.2.2)).sum + 1 - n) 0) : ycu n es R := by
  obtain ⟨hE, hn1, hn12⟩ := ygo hg
  unfold ycu
  refine p_graph_Check (by omega) ⟨fun _ => ?_, fun q => absurd hg q⟩
  refine ⟨fun m v f => Cnt 12 (fun k => f.length = 12 ∧ ∀ i, i < k → gi f i = (i : Int)) m v, Cnt.start ⟨by simp, fun i hi => absurd hi (by omega)⟩, ?_⟩
  rintro m _ f ⟨k, rfl, rfl, hk, hfl, hf⟩
  simp only [Int.toNat_natCast]
  refine ⟨fun hlt => ⟨by omega, Cnt.next (by omega) (by omega) ⟨by simpa using hfl, fun i hi => ?_⟩⟩, fun hge => ?_⟩
  · rw [yic (by omega)]
    split
    · omega
    · exact hf i (by omega)
  have e12 : k = 12 := by omega
  subst e12
  have hf0 : f = castF ydp := gi_ext (by rw [hfl]; rfl) fun i hi => by
    rw [hf i (by omega), gi_castF (by show i < (List.range 12).length; simpa using (by omega : i < 12)), ye8 (by simpa [ydp] using (by omega : i < 12))]
    simp [ydp]
  show ∃ Pr Rr : List (Int × Int × Int) → Prop, _
  refine ⟨_, _, yfq hE hl, fun pre f2 genus => pre.map gmap <+: sF es ∧ f2 = castF (ya1 (pre.map gmap)) ∧ genus + n - (ybY (ya1 (pre.map gmap)) n : Int) = pre.length ∧ 0 ≤ genus ∧ genus ≤ pre.length, ⟨List.nil_prefix, hf0, ?_, by omega, by simp⟩, ?_, ?_⟩
  · show (0 : Int) + n - (ybY ydp n : Int) = 0
    rw [yfC n hn12]; omega
  · rintro pre e a b f2 genus ⟨hp, rfl, hcount, h0, h1⟩ hPr
    have hPr : (pre ++ [(e, a, b)]).map gmap <+: sF es := hPr
    have hE2 := sF_ok hE
    have hmem : (a, b, 1) ∈ sF es := hPr.subset (by simp [gmap])
    have hx := hE2 _ hmem
    simp only at hx
    obtain ⟨a, rfl⟩ : ∃ k : Nat, a = (k : Int) := ⟨a.toNat, by omega⟩
    obtain ⟨b, rfl⟩ : ∃ k : Nat, b = (k : Int) := ⟨b.toNat, by omega⟩
    have hF : ycK (ya1 (pre.map gmap)) := ydF _ fun x hx => by
      have := hE2 x (hp.subset hx)
      omega
    have hplen : pre.length ≤ 50 * es.length := by
      have h2 := hp.length_le
      have h3 := sF_few hE
      rw [List.length_map] at h2
      omega
    have hsn : (pre ++ [(e, (a : Int), (b : Int))]).map gmap = pre.map gmap ++ [((a : Int), (b : Int), 1)] := by rw [List.map_append]; rfl
    have hjs : ya1 ((pre ++ [(e, (a : Int), (b : Int))]).map gmap) = yc3 (ya1 (pre.map gmap)) a b := by rw [hsn, joinedF_snoc]; simp
    have ra := ydD hF a (by omega)
    have rb := ydD hF b (by omega)
    have hrl : ∀ v, v < n → root (ya1 (pre.map gmap)) v < n := fun v hv => by have := (ydD hF v (by omega)).1; omega
    have hra := hrl a (by omega)
    have hrb := hrl b (by omega)
    refine yfn hF (by omega) (yfn hF (by omega) ?_)
    have hmx : 0 ≤ mxF (root (ya1 (pre.map gmap)) a : Int) (root (ya1 (pre.map gmap)) b) ∧ mxF (root (ya1 (pre.map gmap)) a : Int) (root (ya1 (pre.map gmap)) b) < 12 := by rw [mxF_eq]; omega
    refine ⟨fun g2 => g2 = genus + if root (ya1 (pre.map gmap)) a = root (ya1 (pre.map gmap)) b then 1 else 0, fun g2 hg2 => ⟨hmx, hPr, by rw [hjs]; exact castF_join, ?_, ?_, ?_⟩, fun q => ⟨i64 (by omega), by rw [if_pos (by omega)]⟩, fun q => by rw [if_neg (by omega)]; omega⟩
    · rw [hjs, hg2, List.length_append, List.length_singleton]
      by_cases q : root (ya1 (pre.map gmap)) a = root (ya1 (pre.map gmap)) b
      · rw [if_pos q, ygj hF (by omega) (by omega) q n hn12]; omega
      · have := ygf hF (by omega) (by omega) q n hn12
        rw [if_pos (by omega)] at this
        rw [if_neg q]; omega
    · rw [hg2]; split <;> omega
    · rw [hg2, List.length_append, List.length_singleton]; split <;> omega
  · rintro ys f2 genus ⟨hp, rfl, hcount, h0, h1⟩ hR
    have hR : ys.map gmap = sF es := hR
    have hE2 := sF_ok hE
    have hc2 : yhE n (sF es) = true := (yhl hE2 hn1 hn12 (q := 0) (by omega)).2 fun S h0 h1 => by
      obtain ⟨v, u, a, b, c, d, e⟩ := hc 0 (by omega) S h0 h1
      exact ⟨v, u, a, b, c, d, by rw [W_sF v u hE]; exact e⟩
    unfold yhE at hc2
    rw [beq_iff_eq, Int.toNat_natCast] at hc2
    rw [hR, hc2] at hcount
    have hlen := sF_len hE
    rw [← hR, List.length_map] at hlen
    have e : genus = (es.map (·.2.2)).sum + 1 - n := by omega
    rw [e]; exact h
def yhT (d : Nat) (l : List (Int × Int)) : Prop := ∀ e ∈ l, (0 ≤ e.1 ∧ e.1 < d) ∧ 0 ≤ e.2 ∧ e.2 < d
def made (d : Nat) (l : List (Int × Int)) : List E3 := yed d (tabE d l)
theorem gchk_zero {n : Int} : ∀ (es : List E3) (a b : Int), (∀ x ∈ es, (0 ≤ x.1 ∧ x.1 < n) ∧ (0 ≤ x.2.1 ∧ x.2.1 < n) ∧ 1 ≤ x.2.2 ∧ x.2.2 ≤ 50 ∧ x.1 ≤ x.2.1) → es.Pairwise ltE → (∀ x ∈ es, ydP a b x.1 x.2.1 < 0) → gchk n a b es = 0
  | [], _, _, _, _, _ => rfl
  | x :: t, a, b, h, hp, h0 => by
    have hx := h x (by simp)
    rw [gchk, if_pos ⟨hx.1, hx.2.1, hx.2.2.1, hx.2.2.2.1⟩, if_pos ⟨hx.2.2.2.2, h0 x (by simp)⟩]
    rw [List.pairwise_cons] at hp
    exact gchk_zero t _ _ (fun y hy => h y (by simp [hy])) hp.2 fun y hy => ydO.2 (by have := hp.1 y hy; unfold ltE at this; exact this)
theorem yhR {d : Nat} (h1 : 1 ≤ d) (hd : d ≤ 12) {l : List (Int × Int)} (hm : ∀ a b, cntE l a b ≤ 50) : ycO d (made d l) = 0 := by
  unfold ycO
  rw [if_pos (by omega)]
  refine gchk_zero _ _ _ (fun x hx => ?_) yes fun x hx => ?_
  · obtain ⟨a, b, h2, h3, h4, rfl⟩ := yen.1 hx
    have := hm a b
    simp only
    omega
  · obtain ⟨a, b, h2, h3, h4, rfl⟩ := yen.1 hx
    exact ydO.2 (.inl (by simp only; omega))
theorem ye7 (T : List (List Int)) (k : Nat) (hT : ∀ j, 0 ≤ gi (gx T k) j) : ∀ n, (((List.range n).filterMap (yfP T k)).map (·.2.2)).sum = sm n fun j => gi (gx T k) (k + j)
  | 0 => rfl
  | n + 1 => by
    rw [List.range_succ, List.filterMap_append, List.map_append, List.sum_append, ye7 T k hT n, sm]
    congr 1
    have := hT (k + n)
    by_cases q : 0 < gi (gx T k) (k + n)
    · simp [yfP, q]
    · simp [yfP, q]; omega
theorem sum_joinE {d : Nat} (l : List (Int × Int)) : ((made d l).map (·.2.2)).sum = sm d fun a => sm (d - a) fun j => cntE l (a : Int) ((a + j : Nat) : Int) := by
  have key : ∀ k, k ≤ d → (((List.range k).flatMap (rowJ d (tabE d l))).map (·.2.2)).sum = sm k fun a => sm (d - a) fun j => cntE l (a : Int) ((a + j : Nat) : Int) := by
    intro k hk
    induction k with
    | zero => rfl
    | succ k ih =>
      rw [List.range_succ, List.flatMap_append, List.map_append, List.sum_append, ih (by omega), sm]
      congr 1
      simp only [List.flatMap_cons, List.flatMap_nil, List.append_nil]
      unfold rowJ
      rw [ye7 _ _ (fun j => ?_)]
      · exact yaR fun j hj => by rw [ydY (by omega), yeh (by omega)]
      · rw [ydY (by omega)]
        by_cases q : j < d
        · rw [yeh q]; exact ygz _ _ _
        · unfold gi; rw [List.getD_eq_getElem?_getD, List.getElem?_eq_none (by rw [yeL]; omega)]; exact Int.le_refl 0
  exact key d (Nat.le_refl d)
theorem mn_nat {d : Nat} {e : Int × Int} (h : (0 ≤ e.1 ∧ e.1 < d) ∧ 0 ≤ e.2 ∧ e.2 < d) : ∃ a b : Nat, mnF e.1 e.2 = a ∧ mxF e.1 e.2 = b ∧ a ≤ b ∧ b < d := by
  refine ⟨(mnF e.1 e.2).toNat, (mxF e.1 e.2).toNat, ?_, ?_, ?_, ?_⟩ <;> simp only [mnF, mxF] <;> (try split) <;> (try split) <;> omega
theorem snoc_ind {α : Type} {P : List α → Prop} (h0 : P []) (h : ∀ l x, P l → P (l ++ [x])) (l : List α) : P l := by
  have : ∀ k, k ≤ l.length → P (l.take k) := by
    intro k
    induction k with
    | zero => intro _; exact h0
    | succ k ih =>
      intro hk
      rw [List.take_add_one, List.getElem?_eq_getElem (by omega)]
      exact h _ _ (ih (by omega))
  have := this l.length (Nat.le_refl _)
  rwa [List.take_length] at this
theorem sum_made {d : Nat} (l : List (Int × Int)) : yhT d l → ((made d l).map (·.2.2)).sum = l.length := by
  rw [sum_joinE]
  refine snoc_ind (P := fun l => yhT d l → (sm d fun a => sm (d - a) fun j => cntE l (a : Int) ((a + j : Nat) : Int)) = l.length) (fun _ => ?_) (fun l x ih hl => ?_) l
  · simp only [cntE, List.countP_nil, Int.natCast_zero, List.length_nil]
    rw [yaR (g := fun _ => 0) fun i _ => ycP _, ycP]
  · have ih := ih fun e he => hl e (by simp [he])
    obtain ⟨a, b, ha, hb, hab, hbd⟩ := mn_nat (hl x (by simp))
    have e1 : ∀ i, (sm (d - i) fun j => cntE (l ++ [x]) (i : Int) ((i + j : Nat) : Int)) = (sm (d - i) fun j => cntE l (i : Int) ((i + j : Nat) : Int)) + if i = a then 1 else 0 := by
      intro i
      rw [← (show (sm (d - i) fun j => if a = i ∧ b = i + j then (1 : Int) else 0) = if i = a then 1 else 0 from ?_), ← ydB]
      · refine yaR fun j _ => ?_
        rw [ydq, ha, hb]
        congr 1
        by_cases q : a = i ∧ b = i + j
        · rw [if_pos q, if_pos (by omega)]
        · rw [if_neg q, if_neg (by omega)]
      · by_cases q : i = a
        · subst q
          rw [if_pos rfl]
          refine Eq.trans (yaR fun j _ => ?_) (ygl (1 : Int) (show b - i < d - i by omega))
          by_cases q2 : j = b - i
          · rw [if_pos q2, if_pos (by omega)]
          · rw [if_neg q2, if_neg (by omega)]
        · rw [if_neg q]
          exact Eq.trans (yaR fun j _ => by rw [if_neg (by omega)]) (ycP (d - i))
    rw [yaR fun i _ => e1 i, ydB, ih, ygl (1 : Int) (show a < d by omega), List.length_append, List.length_singleton]
    omega
def Joins (l : List (Int × Int)) (v u : Nat) : Prop := ((v : Int), (u : Int)) ∈ l ∨ ((u : Int), (v : Int)) ∈ l
theorem W_made {d : Nat} {l : List (Int × Int)} (h1 : 1 ≤ d) (hd : d ≤ 12) (hm : ∀ a b, cntE l a b ≤ 50) {v u : Nat} (hv : v < d) (hu : u < d) (hne : v ≠ u) : W (made d l) v u = cntE l (mnF v u) (mxF v u) := by
  have hg := yhR h1 hd hm
  rw [← yhm v u hne _ (-1) (-1) (yhq hg)]
  obtain ⟨a, b, ha, hb, hab, hbd⟩ := mn_nat (d := d) (e := ((v : Int), (u : Int))) ⟨⟨by omega, by simp only; omega⟩, by omega, by simp only; omega⟩
  simp only at ha hb
  rw [ha, hb]
  cases hf : (made d l).find? fun x => decide (x.1 = (a : Int) ∧ x.2.1 = (b : Int)) with
  | none =>
    have h0 := ygz l a b
    rcases Classical.em (0 < cntE l a b) with q | q
    · have := List.find?_eq_none.1 hf _ (yen.2 ⟨a, b, hab, hbd, q, rfl⟩)
      simp at this
    · simp; omega
  | some x =>
    have hx := List.mem_of_find?_eq_some hf
    have hp := List.find?_some hf
    simp only [decide_eq_true_eq] at hp
    obtain ⟨a', b', _, _, _, rfl⟩ := yen.1 hx
    simp only at hp
    simp [hp.1, hp.2]
theorem cntE_pos {l : List (Int × Int)} {v u : Nat} (h : Joins l v u) : 0 < cntE l (mnF v u) (mxF v u) := by
  unfold cntE
  have : 0 < l.countP (isE (mnF v u) (mxF v u)) := by
    rw [List.countP_pos_iff]
    rcases h with h | h
    · exact ⟨_, h, by simp [isE]⟩
    · refine ⟨_, h, ?_⟩
      unfold isE mnF mxF
      simp only [decide_eq_true_eq]
      constructor <;> split <;> split <;> omega
  omega
theorem conn_made {d : Nat} {l : List (Int × Int)} (h1 : 1 ≤ d) (hd : d ≤ 12) (hm : ∀ a b, cntE l a b ≤ 50) (r : Nat → Nat) (hr : ∀ v, v < d → v ≠ 0 → ∃ u, u < d ∧ r u < r v ∧ Joins l v u) : ∀ q, q < d → Conn d (made d l) q := by
  have hg := yhR h1 hd hm
  have key : Conn d (made d l) 0 := by
    rintro S h0 ⟨v, hv, hS⟩
    have : ∀ k, ∀ v, v < d → S v = true → r v ≤ k → ∃ v u, v < d ∧ u < d ∧ S v = true ∧ S u = false ∧ 0 < W (made d l) v u := by
      intro k
      induction k with
      | zero =>
        intro v hv hS hk
        obtain ⟨u, _, h3, _⟩ := hr v hv (by rintro rfl; rw [h0] at hS; cases hS)
        omega
      | succ k ih =>
        intro v hv hS hk
        obtain ⟨u, h2, h3, h4⟩ := hr v hv (by rintro rfl; rw [h0] at hS; cases hS)
        cases hu : S u with
        | true => exact ih u h2 hu (by omega)
        | false => exact ⟨v, u, hv, h2, hS, hu, by rw [W_made h1 hd hm hv h2 (by rintro rfl; omega)]; exact cntE_pos h4⟩
    exact this (r v) v hv hS (Nat.le_refl _)
  obtain ⟨hE, _, _⟩ := ygo hg
  have hc : yhE d (made d l) = true := (yhl hE h1 hd (q := 0) (by omega)).2 key
  exact fun q hq => (yhl hE h1 hd hq).1 hc
end Go.Proofs.Ytdbpajnjhgocoaa

/- The kinds, their sizes and their graphs: program and reference. -/
namespace Go.Proofs.Ytdbpajnjhgocoaa
open Go Go.RowKit Go.Shelf Go.Proofs.Try
set_option linter.unusedVariables false
set_option linter.unusedSimpArgs false
def nszF (kind : Int) : Nat := if kind = 8 then 3 else if 6 ≤ kind then 2 else 1
def vrtK (kind : Int) (l : List Int) : Int :=
  if kind = 4 then (if 50 < gi l 0 then 13 else 2)
  else if kind = 2 ∨ kind = 5 then gi l 0 + 1
  else if kind = 6 then gi l 0 + gi l 1
  else if kind = 7 then gi l 0 * gi l 1
  else if kind = 8 then gi l 0 + gi l 1 + gi l 2 - 1
  else gi l 0
def errK (kind : Int) (l : List Int) : Int :=
  if kind < 0 ∨ 8 < kind then 1 else if l.length ≠ nszF kind then 8 else if ∃ x ∈ l, x < 1 then 2 else if 12 < vrtK kind l then 5 else 0
theorem len1 {l : List Int} (h : l.length = 1) : l = [gi l 0] := by
  match l, h with
  | [x], _ => rfl
theorem len2 {l : List Int} (h : l.length = 2) : l = [gi l 0, gi l 1] := by
  match l, h with
  | [x, y], _ => rfl
theorem len3 {l : List Int} (h : l.length = 3) : l = [gi l 0, gi l 1, gi l 2] := by
  match l, h with
  | [x, y, z], _ => rfl
theorem yeP {kind : Int} {R : Int → Int → Prop} (h : R (if kind < 0 ∨ 8 < kind then 0 else (nszF kind : Int)) (if kind < 0 ∨ 8 < kind then 1 else 0)) : ycj kind R := by
  refine ⟨¬ (kind < 0 ∨ 8 < kind), fun q => ?_, fun q => ?_, fun q => ⟨fun q2 => ?_, fun q2 => by omega⟩⟩
  · rw [if_neg q, if_neg q] at h
    refine ⟨⟨by omega, by omega⟩, ?_⟩
    unfold nszF at h
    refine ⟨fun e => ?_, fun e => ?_, fun e => ?_, fun e => ?_, fun e => ?_, fun e => ?_, fun e => ?_, fun e => ?_, fun e => ?_⟩ <;> (subst e; exact h)
  · rw [if_pos (.inl q), if_pos (.inl q)] at h; exact h
  · rw [if_pos (.inr q2), if_pos (.inr q2)] at h; exact h
theorem ydJ {l : List Int} {k : Nat} (h : k < l.length) : gi l k ∈ l := by rw [ybz h]; exact List.getElem_mem h
theorem errK_zero {kind : Int} {l : List Int} (h : errK kind l = 0) : (0 ≤ kind ∧ kind ≤ 8) ∧ l.length = nszF kind ∧ (∀ x ∈ l, 1 ≤ x) ∧ vrtK kind l ≤ 12 := by
  unfold errK at h
  split at h
  · cases h
  · split at h
    · cases h
    · split at h
      · cases h
      · split at h
        · cases h
        · rename_i a b c d
          exact ⟨by omega, by omega, fun x hx => Classical.byContradiction fun q => c ⟨x, hx, by omega⟩, by omega⟩
end Go.Proofs.Ytdbpajnjhgocoaa

/- The graphs of the kinds: program and reference make the same ones. -/
namespace Go.Proofs.Ytdbpajnjhgocoaa
open Go Go.RowKit Go.Shelf Go.Proofs.Try
set_option linter.unusedVariables false
set_option linter.unusedSimpArgs false
def szF (l : List Int) (k : Nat) : Nat := (gi l k).toNat
def yfQ (kind : Int) (l : List Int) : List (Int × Int) :=
  if kind = 0 then ycl 0 (szF l 0 - 1)
  else if kind = 1 then ycl 0 (szF l 0 - 1) ++ [((szF l 0 : Int) - 1, 0)]
  else if kind = 2 then ycc 1 (szF l 0)
  else if kind = 3 then compL (szF l 0)
  else if kind = 4 then List.replicate (szF l 0) (0, 1)
  else if kind = 5 then (ycc 1 (szF l 0) ++ ycl 1 (szF l 0 - 1)) ++ [((szF l 0 : Int), 1)]
  else if kind = 6 then ycc (szF l 0) (szF l 1)
  else if kind = 7 then gridL (szF l 0) (szF l 1)
  else thL (fun k => szF l k) 3
structure Right (kind : Int) (l : List Int) : Prop where
  k : 0 ≤ kind ∧ kind ≤ 8
  len : l.length = nszF kind
  one : ∀ i, i < nszF kind → 1 ≤ szF l i ∧ gi l i = szF l i ∧ (kind ≠ 4 → szF l i ≤ 12)
  b50 : kind = 4 → szF l 0 ≤ 50
  vrt : vrtK kind l ≤ 12
theorem ye2 {kind : Int} {l : List Int} (h : errK kind l = 0) : Right kind l := by
  obtain ⟨h1, h2, h3, h4⟩ := errK_zero h
  have hn1 : 1 ≤ nszF kind ∧ nszF kind ≤ 3 := by unfold nszF; split <;> (try split) <;> omega
  have hpos : ∀ i, i < nszF kind → 1 ≤ gi l i := fun i hi => h3 _ (ydJ (by omega))
  refine ⟨h1, h2, fun i hi => ?_, fun q => ?_, h4⟩
  · have hp := hpos i hi
    refine ⟨by unfold szF; omega, by unfold szF; omega, fun k4 => ?_⟩
    have : gi l i ≤ 12 := by
      have h0 := hpos 0 (by omega)
      unfold vrtK at h4
      rw [if_neg k4] at h4
      by_cases c2 : kind = 2 ∨ kind = 5
      · rw [if_pos c2] at h4
        have : nszF kind = 1 := by unfold nszF; rw [if_neg (by omega), if_neg (by omega)]
        have : i = 0 := by omega
        subst this; omega
      rw [if_neg c2] at h4
      by_cases c6 : kind = 6
      · rw [if_pos c6] at h4
        have : nszF kind = 2 := by subst c6; rfl
        have hy := hpos 1 (by omega)
        rcases (show i = 0 ∨ i = 1 by omega) with rfl | rfl <;> omega
      rw [if_neg c6] at h4
      by_cases c7 : kind = 7
      · rw [if_pos c7] at h4
        have : nszF kind = 2 := by subst c7; rfl
        have hy := hpos 1 (by omega)
        rcases (show i = 0 ∨ i = 1 by omega) with rfl | rfl
        · have := Int.mul_le_mul_of_nonneg_left hy (show 0 ≤ gi l 0 by omega)
          rw [Int.mul_one] at this
          omega
        · have := Int.mul_le_mul_of_nonneg_right h0 (show 0 ≤ gi l 1 by omega)
          rw [Int.one_mul] at this
          omega
      rw [if_neg c7] at h4
      by_cases c8 : kind = 8
      · rw [if_pos c8] at h4
        have : nszF kind = 3 := by subst c8; rfl
        have hy := hpos 1 (by omega)
        have hz := hpos 2 (by omega)
        rcases (show i = 0 ∨ i = 1 ∨ i = 2 by omega) with rfl | rfl | rfl <;> omega
      · rw [if_neg c8] at h4
        have : nszF kind = 1 := by unfold nszF; rw [if_neg c8, if_neg (by omega)]
        have : i = 0 := by omega
        subst this; omega
    unfold szF; omega
  · subst q
    unfold vrtK at h4
    rw [if_pos rfl] at h4
    split at h4
    · omega
    · unfold szF; omega
theorem ycA {kind : Int} {l : List Int} (h : Right kind l) {P : Int → List Int → Prop}
    (h0 : ∀ n : Nat, 1 ≤ n → n ≤ 12 → P 0 [(n : Int)]) (h1 : ∀ n : Nat, 1 ≤ n → n ≤ 12 → P 1 [(n : Int)]) (h2 : ∀ n : Nat, 1 ≤ n → n ≤ 11 → P 2 [(n : Int)])
    (h3 : ∀ n : Nat, 1 ≤ n → n ≤ 12 → P 3 [(n : Int)]) (h4 : ∀ n : Nat, 1 ≤ n → n ≤ 50 → P 4 [(n : Int)]) (h5 : ∀ n : Nat, 1 ≤ n → n ≤ 11 → P 5 [(n : Int)])
    (h6 : ∀ m n : Nat, 1 ≤ m → 1 ≤ n → m + n ≤ 12 → P 6 [(m : Int), (n : Int)]) (h7 : ∀ m n : Nat, 1 ≤ m → 1 ≤ n → m * n ≤ 12 → P 7 [(m : Int), (n : Int)])
    (h8 : ∀ a b c : Nat, 1 ≤ a → 1 ≤ b → 1 ≤ c → a + b + c ≤ 13 → P 8 [(a : Int), (b : Int), (c : Int)]) : P kind l := by
  have hk := h.k
  have hl := h.len
  have hv := h.vrt
  have ho := h.one
  rcases (show kind = 0 ∨ kind = 1 ∨ kind = 2 ∨ kind = 3 ∨ kind = 4 ∨ kind = 5 ∨ kind = 6 ∨ kind = 7 ∨ kind = 8 by omega) with rfl | rfl | rfl | rfl | rfl | rfl | rfl | rfl | rfl
  · obtain ⟨a1, a2, a3⟩ := ho 0 (by decide)
    rw [len1 hl, a2]; exact h0 _ a1 (a3 (by decide))
  · obtain ⟨a1, a2, a3⟩ := ho 0 (by decide)
    rw [len1 hl, a2]; exact h1 _ a1 (a3 (by decide))
  · obtain ⟨a1, a2, a3⟩ := ho 0 (by decide)
    have hv : gi l 0 + 1 ≤ 12 := hv
    rw [len1 hl, a2]; exact h2 _ a1 (by omega)
  · obtain ⟨a1, a2, a3⟩ := ho 0 (by decide)
    rw [len1 hl, a2]; exact h3 _ a1 (a3 (by decide))
  · obtain ⟨a1, a2, a3⟩ := ho 0 (by decide)
    rw [len1 hl, a2]; exact h4 _ a1 (h.b50 rfl)
  · obtain ⟨a1, a2, a3⟩ := ho 0 (by decide)
    have hv : gi l 0 + 1 ≤ 12 := hv
    rw [len1 hl, a2]; exact h5 _ a1 (by omega)
  · obtain ⟨a1, a2, a3⟩ := ho 0 (by decide)
    obtain ⟨b1, b2, b3⟩ := ho 1 (by decide)
    have hv : gi l 0 + gi l 1 ≤ 12 := hv
    rw [len2 hl, a2, b2]; exact h6 _ _ a1 b1 (by omega)
  · obtain ⟨a1, a2, a3⟩ := ho 0 (by decide)
    obtain ⟨b1, b2, b3⟩ := ho 1 (by decide)
    have hv : gi l 0 * gi l 1 ≤ 12 := hv
    rw [a2, b2] at hv
    rw [len2 hl, a2, b2]; exact h7 _ _ a1 b1 (by exact_mod_cast hv)
  · obtain ⟨a1, a2, a3⟩ := ho 0 (by decide)
    obtain ⟨b1, b2, b3⟩ := ho 1 (by decide)
    obtain ⟨c1, c2, c3⟩ := ho 2 (by decide)
    have hv : gi l 0 + gi l 1 + gi l 2 - 1 ≤ 12 := hv
    rw [len3 hl, a2, b2, c2]; exact h8 _ _ _ a1 b1 c1 (by omega)
theorem wayL_mem : ∀ {l : List Int} {e : Int × Int}, e ∈ wayL l → e.1 ∈ l ∧ e.2 ∈ l
  | a :: b :: t, e, h => by
    rw [wayL, List.mem_cons] at h
    rcases h with rfl | h
    · simp
    · have := wayL_mem h; simp only [List.mem_cons] at this ⊢; exact ⟨.inr this.1, .inr this.2⟩
theorem wayL_len1 : ∀ (l : List Int), (wayL l).length = l.length - 1
  | [] => rfl
  | [_] => rfl
  | a :: b :: t => by have := wayL_len1 (b :: t); simp only [wayL, List.length_cons] at this ⊢; omega
theorem yf4 {a n : Nat} {e : Int × Int} (h : e ∈ ycl a n) : (a : Int) ≤ e.1 ∧ e.2 = e.1 + 1 ∧ e.2 ≤ ((a + n : Nat) : Int) := by
  simp only [ycl, List.mem_map, List.mem_range] at h
  obtain ⟨i, hi, rfl⟩ := h
  show (a : Int) ≤ ((a + i : Nat) : Int) ∧ ((a + i : Nat) : Int) + 1 = ((a + i : Nat) : Int) + 1 ∧ ((a + i : Nat) : Int) + 1 ≤ ((a + n : Nat) : Int)
  omega
theorem yf0 {a n : Nat} {x : Int} (h : x ∈ cntL a n) : (a : Int) ≤ x ∧ x < ((a + n : Nat) : Int) := by
  simp only [cntL, List.mem_map, List.mem_range] at h
  obtain ⟨i, hi, rfl⟩ := h
  show (a : Int) ≤ ((a + i : Nat) : Int) ∧ ((a + i : Nat) : Int) < ((a + n : Nat) : Int)
  omega
theorem yfy {m n : Nat} {e : Int × Int} (h : e ∈ ycc m n) : 0 ≤ e.1 ∧ e.1 < m ∧ (m : Int) ≤ e.2 ∧ e.2 < ((m + n : Nat) : Int) := by
  simp only [ycc, List.mem_flatMap, List.mem_range, List.mem_map] at h
  obtain ⟨i, hi, b, hb, rfl⟩ := h
  have := yf0 hb
  simp only; omega
theorem compL_mem {n : Nat} {e : Int × Int} (h : e ∈ compL n) : 0 ≤ e.1 ∧ e.1 < e.2 ∧ e.2 < n := by
  simp only [compL, List.mem_flatMap, List.mem_range, List.mem_map] at h
  obtain ⟨i, hi, b, hb, rfl⟩ := h
  have := yf0 hb
  simp only; omega
theorem cellG_mem {m n i j : Nat} (hi : i < m) (hj : j < n) {e : Int × Int} (h : e ∈ yds m n i j) : (0 ≤ e.1 ∧ e.1 < ((m * n : Nat) : Int)) ∧ 0 ≤ e.2 ∧ e.2 < ((m * n : Nat) : Int) := by
  have h1 : (i + 1) * n ≤ m * n := Nat.mul_le_mul_right n hi
  rw [Nat.add_mul] at h1
  unfold yds at h
  rw [List.mem_append] at h
  rcases h with h | h
  · split at h
    · rw [List.mem_singleton] at h; subst h; simp only; omega
    · simp at h
  · split at h
    · rename_i q
      have h2 : (i + 1 + 1) * n ≤ m * n := Nat.mul_le_mul_right n q
      rw [Nat.add_mul, Nat.add_mul] at h2
      rw [List.mem_singleton] at h; subst h; simp only; omega
    · simp at h
theorem gridL_mem {m n : Nat} {e : Int × Int} (h : e ∈ gridL m n) : (0 ≤ e.1 ∧ e.1 < ((m * n : Nat) : Int)) ∧ 0 ≤ e.2 ∧ e.2 < ((m * n : Nat) : Int) := by
  simp only [gridL, List.mem_flatMap, List.mem_range] at h
  obtain ⟨i, hi, j, hj, h⟩ := h
  exact cellG_mem hi hj h
theorem thL_mem {l : Nat → Nat} (h1 : ∀ k, 1 ≤ l k) : ∀ {k : Nat} {e : Int × Int}, e ∈ thL l k → (0 ≤ e.1 ∧ e.1 < (nxt l k : Int)) ∧ 0 ≤ e.2 ∧ e.2 < (nxt l k : Int)
  | k + 1, e, h => by
    have hk := h1 k
    have h2 : ∀ k, 2 ≤ nxt l k := fun k => by induction k with
      | zero => exact Nat.le_refl _
      | succ k ih => simp only [nxt]; omega
    have h2 := h2 k
    rw [thL, List.mem_append] at h
    simp only [nxt]
    rcases h with h | h
    · have := thL_mem h1 h; omega
    · have := wayL_mem h
      simp only [segL, List.mem_append, List.mem_singleton] at this
      have aux : ∀ x : Int, (x = 0 ∨ x ∈ cntL (nxt l k) (l k - 1)) ∨ x = 1 → 0 ≤ x ∧ x < ((nxt l k + (l k - 1) : Nat) : Int) := by
        rintro x ((rfl | h) | rfl)
        · omega
        · have := yf0 h; omega
        · omega
      exact ⟨aux _ this.1, aux _ this.2⟩
theorem thL_len3 (l : Nat → Nat) (h1 : ∀ k, 1 ≤ l k) : (thL l 3).length = l 0 + l 1 + l 2 := by
  have a0 := h1 0
  have a1 := h1 1
  have a2 := h1 2
  simp only [thL, List.length_append, wayL_len1, segL, yaZ, List.length_singleton, List.length_nil, List.length_cons]
  omega
theorem cnt_flat {f : Nat → List (Int × Int)} {p : Int × Int → Bool} {a c : Nat} (h : ∀ i, i ≠ a → (f i).countP p = 0) (h2 : (f a).countP p ≤ c) : ∀ k, ((List.range k).flatMap f).countP p ≤ if a < k then c else 0
  | 0 => by simp
  | k + 1 => by
    have ih := cnt_flat h h2 k
    have e : ((List.range (k + 1)).flatMap f).countP p = ((List.range k).flatMap f).countP p + (f k).countP p := by rw [List.range_succ, List.flatMap_append, List.countP_append]; simp
    rw [e]
    by_cases q : k = a
    · subst q
      rw [if_neg (by omega)] at ih
      rw [if_pos (by omega)]; omega
    · rw [h k q]
      split at ih
      · rw [if_pos (by omega)]; omega
      · rw [if_neg (by omega)]; omega
theorem compL_few {n : Nat} (hn : n ≤ 12) (a b : Int) : cntE (compL n) a b ≤ 50 := by
  unfold cntE compL
  have := cnt_flat (f := fun (v : Nat) => (cntL (v + 1) (n - v - 1)).map fun b => ((v : Int), b)) (p := isE a b) (a := a.toNat) (c := 12) (fun i hi => ?_) ?_ n
  · split at this <;> omega
  · rw [List.countP_eq_zero]
    intro e he
    simp only [List.mem_map] at he
    obtain ⟨x, hx, rfl⟩ := he
    have := yf0 hx
    simp only [isE, mnF, decide_eq_true_eq]
    rintro ⟨q, _⟩
    split at q <;> omega
  · refine Nat.le_trans List.countP_le_length ?_
    rw [List.length_map, yaZ]; omega
theorem ycC {l : List (Int × Int)} (h : l.length ≤ 50) (a b : Int) : cntE l a b ≤ 50 := by have := cntE_le l a b; omega
structure EndsR (d : Nat) (l : List (Int × Int)) : Prop where
  one : 1 ≤ d
  few : d ≤ 12
  ok : yhT d l
  len : l.length ≤ 100
  mult : ∀ a b, cntE l a b ≤ 50
theorem yhf {kind : Int} {l : List Int} (h : Right kind l) : EndsR (vrtK kind l).toNat (yfQ kind l) := by
  refine ycA h (P := fun kind l => EndsR (vrtK kind l).toNat (yfQ kind l)) (fun n a b => ?_) (fun n a b => ?_) (fun n a b => ?_) (fun n a b => ?_) (fun n a b => ?_) (fun n a b => ?_) (fun m n a b c => ?_) (fun m n a b c => ?_) (fun x y z a b c d => ?_)
  · show EndsR n (ycl 0 (n - 1))
    refine ⟨a, b, fun e he => ?_, by simp [ycl]; omega, ycC (by simp [ycl]; omega)⟩
    have := yf4 he; omega
  · show EndsR n (ycl 0 (n - 1) ++ [((n : Int) - 1, 0)])
    refine ⟨a, b, fun e he => ?_, by simp [ycl]; omega, ycC (by simp [ycl]; omega)⟩
    rcases List.mem_append.1 he with he | he
    · have := yf4 he; omega
    · rw [List.mem_singleton] at he; subst he; simp only; omega
  · show EndsR (n + 1) (ycc 1 n)
    refine ⟨by omega, by omega, fun e he => ?_, by rw [yeH, List.length_map, yaZ]; omega, ycC (by rw [yeH, List.length_map, yaZ]; omega)⟩
    have := yfy he; omega
  · show EndsR n (compL n)
    refine ⟨a, b, fun e he => ?_, ?_, compL_few b⟩
    · have := compL_mem he; omega
    · rcases (show n = 1 ∨ n = 2 ∨ n = 3 ∨ n = 4 ∨ n = 5 ∨ n = 6 ∨ n = 7 ∨ n = 8 ∨ n = 9 ∨ n = 10 ∨ n = 11 ∨ n = 12 by omega) with rfl | rfl | rfl | rfl | rfl | rfl | rfl | rfl | rfl | rfl | rfl | rfl <;> decide
  · have e : (vrtK 4 [(n : Int)]).toNat = 2 := by
      unfold vrtK
      rw [if_pos rfl, if_neg (by show ¬ 50 < (n : Int); omega)]; rfl
    rw [e]
    show EndsR 2 (List.replicate n (0, 1))
    refine ⟨by omega, by omega, fun e he => ?_, by simp; omega, ycC (by simp; omega)⟩
    rw [(List.mem_replicate.1 he).2]; simp only; omega
  · show EndsR (n + 1) ((ycc 1 n ++ ycl 1 (n - 1)) ++ [((n : Int), 1)])
    have hlen : ((ycc 1 n ++ ycl 1 (n - 1)) ++ [((n : Int), 1)]).length ≤ 50 := by rw [yeH]; simp [yaZ, ycl]; omega
    refine ⟨by omega, by omega, fun e he => ?_, by omega, ycC hlen⟩
    rcases List.mem_append.1 he with he | he
    · rcases List.mem_append.1 he with he | he
      · have := yfy he; omega
      · have := yf4 he; omega
    · rw [List.mem_singleton] at he; subst he; simp only; omega
  · show EndsR (m + n) (ycc m n)
    have hlen : (ycc m n).length = m * n := by
      unfold ycc
      exact yfW _ n (fun i => by simp [yaZ]) m
    have hmn : m * n ≤ 36 := by
      have h1 : (m : Int) * n ≤ 36 := by
        have h2 := Int.mul_nonneg (show 0 ≤ ((m : Int) - n) * ((m : Int) - n) by
          rcases Int.le_total (m : Int) n with q | q
          · have := Int.mul_nonneg (show 0 ≤ (n : Int) - m by omega) (show 0 ≤ (n : Int) - m by omega)
            rw [← Int.neg_sub (n : Int) m, Int.neg_mul_neg]; exact this
          · exact Int.mul_nonneg (by omega) (by omega)) (show (0 : Int) ≤ 1 by decide)
        have h3 : ((m : Int) + n) * ((m : Int) + n) ≤ 12 * 12 := Int.mul_le_mul (by omega) (by omega) (by omega) (by omega)
        have h4 : ((m : Int) + n) * ((m : Int) + n) = ((m : Int) - n) * ((m : Int) - n) + 4 * ((m : Int) * n) := by
          simp only [Int.add_mul, Int.mul_add, Int.sub_mul, Int.mul_sub]
          rw [Int.mul_comm (n : Int) m]; omega
        omega
      exact_mod_cast h1
    refine ⟨by omega, by omega, fun e he => ?_, by omega, ycC (by omega)⟩
    have := yfy he; omega
  · have hd : (vrtK 7 [(m : Int), (n : Int)]).toNat = m * n := by
      show ((m : Int) * n).toNat = m * n
      rw [← Int.natCast_mul]; exact Int.toNat_natCast _
    rw [hd]
    show EndsR (m * n) (gridL m n)
    have hlen : (gridL m n).length ≤ m * (n * 2) := yeS _ _ (fun i => yeS _ _ (yfg m n i) n) m
    rw [← Nat.mul_assoc] at hlen
    refine ⟨Nat.mul_le_mul a b, c, fun e he => gridL_mem he, by omega, ycC (by omega)⟩
  · show EndsR ((x : Int) + y + z - 1).toNat (thL (fun k => szF [(x : Int), (y : Int), (z : Int)] k) 3)
    generalize hL : (fun k => szF [(x : Int), (y : Int), (z : Int)] k) = L
    have h0 : L 0 = x := by rw [← hL]; rfl
    have h1 : L 1 = y := by rw [← hL]; rfl
    have h2 : L 2 = z := by rw [← hL]; rfl
    have hl' : thL L 3 = thL (fun k => max 1 (L k)) 3 := by
      have e0 : max 1 (L 0) = L 0 := by omega
      have e1 : max 1 (L 1) = L 1 := by omega
      have e2 : max 1 (L 2) = L 2 := by omega
      simp only [thL, nxt, e0, e1, e2]
    rw [hl']
    have hge : ∀ k, 1 ≤ (fun k => max 1 (L k)) k := fun k => Nat.le_max_left _ _
    have hlen := thL_len3 _ hge
    simp only [h0, h1, h2] at hlen
    have hnx : nxt (fun k => max 1 (L k)) 3 = x + y + z - 1 := by simp only [nxt, h0, h1, h2]; omega
    refine ⟨by omega, by omega, fun e he => ?_, by omega, ycC (by omega)⟩
    have := thL_mem hge he
    rw [hnx] at this
    omega
end Go.Proofs.Ytdbpajnjhgocoaa

/- family.Make and the reference's Make give the same graph. -/
namespace Go.Proofs.Ytdbpajnjhgocoaa
open Go Go.RowKit Go.Shelf Go.Proofs.Try
set_option linter.unusedVariables false
set_option linter.unusedSimpArgs false
theorem ycD {kind most : Int} {l : List Int} {R0 : Int → Int → Prop} {K A : Prop} {V : (Int → Prop) → Prop} (k4 : kind ≠ 4) (herr : errK kind l = if 12 < vrtK kind l then 5 else 0) (hb : 1000 < most → 12 < vrtK kind l) (hV : ¬ 1000 < most → ∀ R : Int → Prop, R (vrtK kind l) → V R) (he : errK kind l ≠ 0 → R0 0 (errK kind l)) (hK : errK kind l = 0 → K) :
    (1000 < most → R0 0 5) ∧ (¬ 1000 < most → V fun r => (12 < r → R0 0 5) ∧ (¬ 12 < r → (kind = 4 → A) ∧ (¬ kind = 4 → K))) := by
  refine ⟨fun q => ?_, fun q => hV q _ ⟨fun q2 => ?_, fun q2 => ⟨fun q3 => absurd q3 k4, fun _ => hK ?_⟩⟩⟩
  · rw [if_pos (hb q)] at herr
    have := he (by rw [herr]; decide)
    rwa [herr] at this
  · rw [if_pos q2] at herr
    have := he (by rw [herr]; decide)
    rwa [herr] at this
  · rw [if_neg q2] at herr; exact herr
theorem ydE {l : List Int} {c : Int} {R : Int → Prop} (hl : 0 < l.length) (h0 : gi l 0 ≤ 1000 ∧ 0 ≤ gi l 0) (hc : 0 ≤ c ∧ c ≤ 1) (h : R (gi l 0 + c)) : yaN l c R :=
  ⟨⟨by omega, by omega⟩, ⟨by have : gi l (Int.toNat 0) = gi l 0 := rfl; omega, by have : gi l (Int.toNat 0) = gi l 0 := rfl; omega⟩, h⟩
theorem yaG {kind : Int} {l : List Int} {R0 : Int → Int → Prop} {R1 R2 R3 R4 R6 : Int → Prop} {R5 R7 R8 R9 : Prop} (hll : l.length ≤ 1000000) (he : errK kind l ≠ 0 → R0 0 (errK kind l))
    (h : errK kind l = 0 → (kind = 0 → R1 0) ∧ (kind = 1 → R2 0) ∧ (kind = 2 → R3 1) ∧ (kind = 3 → R4 0) ∧ (kind = 4 → R5) ∧ (kind = 5 → R6 1) ∧ (kind = 6 → R7) ∧ (kind = 7 → R8) ∧ (kind = 8 → R9)) :
    ycb kind l R0 R1 R2 R3 R4 R5 R6 R7 R8 R9 := by
  refine yeP ⟨fun q => ?_, fun q => ?_⟩
  · have hk : ¬ (kind < 0 ∨ 8 < kind) := fun q2 => by rw [if_pos q2] at q; cases q
    rw [if_neg hk]
    refine ⟨fun hl => ?_, fun hl => ?_⟩
    · have hl : l.length = nszF kind := by omega
      have hn1 : 1 ≤ nszF kind ∧ nszF kind ≤ 3 := by unfold nszF; split <;> (try split) <;> omega
      refine ⟨fun m most v => Cnt l.length (fun k => (∀ i, i < k → 1 ≤ gi l i) ∧ (1000 < most ↔ ∃ i, i < k ∧ 1000 < gi l i)) m v, Cnt.start ⟨fun i hi => absurd hi (by omega), ⟨fun q => absurd q (by omega), fun ⟨i, hi, _⟩ => absurd hi (by omega)⟩⟩, ?_⟩
      rintro m most _ ⟨k, rfl, rfl, hk2, hI, hM⟩
      simp only [Int.toNat_natCast]
      refine ⟨fun hlt => ⟨⟨by omega, by omega⟩, fun q => ?_, fun q => Cnt.next (by omega) (by omega) ⟨fun i hi => ?_, ?_⟩⟩, fun hge => ?_⟩
      · have : errK kind l = 2 := by
          unfold errK; rw [if_neg hk, if_neg (by omega), if_pos ⟨_, ydJ (l := l) (k := k) (by omega), q⟩]
        rw [this] at he; exact he (by decide)
      · rcases (show i < k ∨ i = k by omega) with q2 | rfl
        · exact hI i q2
        · omega
      · have e2 : 1000 < mxF most (gi l k) ↔ 1000 < most ∨ 1000 < gi l k := by
          simp only [mxF]; split <;> omega
        rw [e2, hM]
        constructor
        · rintro (⟨i, hi, h2⟩ | h2)
          · exact ⟨i, by omega, h2⟩
          · exact ⟨k, by omega, h2⟩
        · rintro ⟨i, hi, h2⟩
          rcases (show i < k ∨ i = k by omega) with q2 | rfl
          · exact .inl ⟨i, q2, h2⟩
          · exact .inr h2
      · have hkl : k = l.length := by omega
        subst hkl
        have h1 : ∀ x ∈ l, 1 ≤ x := fun x hx => by
          obtain ⟨i, hi, rfl⟩ := List.mem_iff_getElem.1 hx
          have := hI i (by omega)
          rwa [ybz hi] at this
        have herr : errK kind l = if 12 < vrtK kind l then 5 else 0 := by
          unfold errK; rw [if_neg hk, if_neg (by omega), if_neg]
          rintro ⟨x, hx, q⟩
          have := h1 x hx; omega
        have g0 : 1 ≤ gi l 0 := hI 0 (by omega)
        have b0 : ¬ 1000 < most → ∀ i, i < l.length → gi l i ≤ 1000 := fun q i hi => Classical.byContradiction fun q2 => q (hM.2 ⟨i, hi, by omega⟩)
        have hM0 : l.length = 1 → 1000 < most → 1000 < gi l 0 := fun hn q => by
          obtain ⟨i, hi, h2⟩ := hM.1 q
          have : i = 0 := by omega
          rw [this] at h2; exact h2
        have t0 : gi l (Int.toNat 0) = gi l 0 := rfl
        have t1 : gi l (Int.toNat 1) = gi l 1 := rfl
        have t2 : gi l (Int.toNat 2) = gi l 2 := rfl
        show (0 ≤ kind ∧ kind < 9) ∧ _
        refine ⟨⟨by omega, by omega⟩, fun e => ?_, fun e => ?_, fun e => ?_, fun e => ?_, fun e => ?_, fun e => ?_, fun e => ?_, fun e => ?_, fun e => ?_⟩
        · subst e
          have hn : l.length = 1 := hl
          have hv : vrtK 0 l = gi l 0 + 0 := by show gi l 0 = _; omega
          exact ycD (by decide) herr (fun q => by have := hM0 hn q; omega) (fun q R hR => ydE (by omega) ⟨b0 q 0 (by omega), by omega⟩ (by decide) (by rw [hv] at hR; exact hR)) he fun q => (h q).1 rfl
        · subst e
          have hn : l.length = 1 := hl
          have hv : vrtK 1 l = gi l 0 + 0 := by show gi l 0 = _; omega
          exact ycD (by decide) herr (fun q => by have := hM0 hn q; omega) (fun q R hR => ydE (by omega) ⟨b0 q 0 (by omega), by omega⟩ (by decide) (by rw [hv] at hR; exact hR)) he fun q => (h q).2.1 rfl
        · subst e
          have hn : l.length = 1 := hl
          have hv : vrtK 2 l = gi l 0 + 1 := rfl
          exact ycD (by decide) herr (fun q => by have := hM0 hn q; omega) (fun q R hR => ydE (by omega) ⟨b0 q 0 (by omega), by omega⟩ (by decide) (by rw [hv] at hR; exact hR)) he fun q => (h q).2.2.1 rfl
        · subst e
          have hn : l.length = 1 := hl
          have hv : vrtK 3 l = gi l 0 + 0 := by show gi l 0 = _; omega
          exact ycD (by decide) herr (fun q => by have := hM0 hn q; omega) (fun q R hR => ydE (by omega) ⟨b0 q 0 (by omega), by omega⟩ (by decide) (by rw [hv] at hR; exact hR)) he fun q => (h q).2.2.2.1 rfl
        · subst e
          have hn : l.length = 1 := hl
          have hv : vrtK 4 l = if 50 < gi l 0 then 13 else 2 := rfl
          have h5 : 50 < gi l 0 → R0 0 5 := fun q => by
            rw [hv, if_pos q, if_pos (by decide)] at herr
            have := he (by rw [herr]; decide)
            rwa [herr] at this
          refine ⟨fun q => h5 ?_, fun q => ⟨fun q2 => absurd q2 (by decide), fun _ => ⟨fun _ => ⟨⟨by omega, by omega⟩, fun q3 => h5 q3, fun q3 => ?_⟩, fun q3 => absurd rfl q3⟩⟩⟩
          · obtain ⟨i, hi, h2⟩ := hM.1 q
            have : i = 0 := by omega
            subst this; omega
          · have q3 : ¬ 50 < gi l 0 := q3
            rw [hv, if_neg q3, if_neg (by decide)] at herr
            exact (h herr).2.2.2.2.1 rfl
        · subst e
          have hn : l.length = 1 := hl
          have hv : vrtK 5 l = gi l 0 + 1 := rfl
          exact ycD (by decide) herr (fun q => by have := hM0 hn q; omega) (fun q R hR => ydE (by omega) ⟨b0 q 0 (by omega), by omega⟩ (by decide) (by rw [hv] at hR; exact hR)) he fun q => (h q).2.2.2.2.2.1 rfl
        · subst e
          have hn : l.length = 2 := hl
          have g1 : 1 ≤ gi l 1 := hI 1 (by omega)
          have hv : vrtK 6 l = gi l 0 + gi l 1 := rfl
          refine ycD (by decide) herr (fun q => ?_) (fun q R hR => ?_) he fun q => (h q).2.2.2.2.2.2.1 rfl
          · obtain ⟨i, hi, h2⟩ := hM.1 q
            rcases (show i = 0 ∨ i = 1 by omega) with rfl | rfl <;> omega
          · have c0 := b0 q 0 (by omega)
            have c1 := b0 q 1 (by omega)
            unfold ybn
            rw [t0, t1]
            exact ⟨⟨by omega, by omega⟩, ⟨by omega, by omega⟩, ⟨by omega, by omega⟩, hR⟩
        · subst e
          have hn : l.length = 2 := hl
          have g1 : 1 ≤ gi l 1 := hI 1 (by omega)
          have hv : vrtK 7 l = gi l 0 * gi l 1 := rfl
          refine ycD (by decide) herr (fun q => ?_) (fun q R hR => ?_) he fun q => (h q).2.2.2.2.2.2.2.1 rfl
          · obtain ⟨i, hi, h2⟩ := hM.1 q
            rw [hv]
            rcases (show i = 0 ∨ i = 1 by omega) with rfl | rfl
            · have := Int.mul_le_mul_of_nonneg_left g1 (show 0 ≤ gi l 0 by omega)
              rw [Int.mul_one] at this
              omega
            · have := Int.mul_le_mul_of_nonneg_right g0 (show 0 ≤ gi l 1 by omega)
              rw [Int.one_mul] at this
              omega
          · have c0 := b0 q 0 (by omega)
            have c1 := b0 q 1 (by omega)
            have m1 := Int.mul_le_mul c0 c1 (by omega) (by omega)
            have m2 := Int.mul_nonneg (show 0 ≤ gi l 0 by omega) (show 0 ≤ gi l 1 by omega)
            unfold ybr
            rw [t0, t1]
            exact ⟨⟨by omega, by omega⟩, ⟨by omega, by omega⟩, ⟨by omega, by omega⟩, hR⟩
        · subst e
          have hn : l.length = 3 := hl
          have g1 : 1 ≤ gi l 1 := hI 1 (by omega)
          have g2 : 1 ≤ gi l 2 := hI 2 (by omega)
          have hv : vrtK 8 l = gi l 0 + gi l 1 + gi l 2 - 1 := rfl
          refine ycD (by decide) herr (fun q => ?_) (fun q R hR => ?_) he fun q => (h q).2.2.2.2.2.2.2.2 rfl
          · obtain ⟨i, hi, h2⟩ := hM.1 q
            rcases (show i = 0 ∨ i = 1 ∨ i = 2 by omega) with rfl | rfl | rfl <;> omega
          · have c0 := b0 q 0 (by omega)
            have c1 := b0 q 1 (by omega)
            have c2 := b0 q 2 (by omega)
            unfold ybb
            rw [t0, t1, t2]
            exact ⟨⟨by omega, by omega⟩, ⟨by omega, by omega⟩, ⟨by omega, by omega⟩, ⟨by omega, by omega⟩, ⟨by omega, by omega⟩, ⟨by omega, by omega⟩, hR⟩
    · have : errK kind l = 8 := by unfold errK; rw [if_neg hk, if_pos (by omega)]
      rw [this] at he; exact he (by decide)
  · have hk : kind < 0 ∨ 8 < kind := Classical.byContradiction fun q2 => by rw [if_neg q2] at q; exact q rfl
    have : errK kind l = 1 := by unfold errK; rw [if_pos hk]
    rw [this] at he
    rw [if_pos hk]; exact he (by decide)
def gK (kind : Int) (l : List Int) : List E3 := made (vrtK kind l).toNat (yfQ kind l)
theorem ygt {kind : Int} {l : List Int} (h : Right kind l) : vrtK kind l = ((vrtK kind l).toNat : Int) := by
  have := (yhf h).one
  omega
theorem ydR {kind : Int} {l : List Int} {R : Int → List E3 → Int → Prop} (hll : l.length ≤ 1000000) (he : errK kind l ≠ 0 → R 0 [] (errK kind l)) (h : Right kind l → R (vrtK kind l) (gK kind l) 0) : ybl kind l R := by
  by_cases q : errK kind l = 0
  case neg => exact yaG hll (fun q => ⟨fun q2 => absurd q2 q, fun _ => he q⟩) fun q2 => absurd q2 q
  have hr := ye2 q
  have h := h hr
  have hE := yhf hr
  have hmk : ∀ (v : Int) (es : List (Int × Int)), v = vrtK kind l → es = yfQ kind l → ya3 v es (fun r5 r6 r7 => R r5 r6 r7) := by
    rintro v es hv rfl
    rw [hv, ygt hr]
    rw [ygt hr] at h
    exact p_graph_Make hE.one hE.few hE.ok (by have := hE.len; omega) hE.mult h
  clear h hE he
  revert hmk q hll
  refine ycA hr (P := fun kind l => l.length ≤ 1000000 → errK kind l = 0 → (∀ (v : Int) (es : List (Int × Int)), v = vrtK kind l → es = yfQ kind l → ya3 v es (fun r5 r6 r7 => R r5 r6 r7)) → ybl kind l R) ?_ ?_ ?_ ?_ ?_ ?_ ?_ ?_ ?_
  · refine fun n a b hll q H => yaG hll (fun q2 => absurd q q2) fun _ => ⟨fun _ => ⟨fun _ => ydE (by simp) (by show (n : Int) ≤ 1000 ∧ 0 ≤ (n : Int); omega) (by decide) (p_fam_path a (by omega) (H _ _ (by show (n : Int) + 0 = n; omega) rfl)), fun q => absurd rfl q⟩, ?_⟩
    refine ⟨?_, ?_, ?_, ?_, ?_, ?_, ?_, ?_⟩ <;> exact fun q => absurd q (by decide)
  · refine fun n a b hll q H => yaG hll (fun q2 => absurd q q2) fun _ => ⟨fun q => absurd q (by decide), fun _ => ⟨fun _ => ydE (by simp) (by show (n : Int) ≤ 1000 ∧ 0 ≤ (n : Int); omega) (by decide) (p_fam_cycle a (by omega) (H _ _ (by show (n : Int) + 0 = n; omega) rfl)), fun q => absurd rfl q⟩, ?_⟩
    refine ⟨?_, ?_, ?_, ?_, ?_, ?_, ?_⟩ <;> exact fun q => absurd q (by decide)
  · refine fun n a b hll q H => yaG hll (fun q2 => absurd q q2) fun _ => ⟨fun q => absurd q (by decide), fun q => absurd q (by decide), fun _ => ⟨fun _ => ydE (by simp) (by show (n : Int) ≤ 1000 ∧ 0 ≤ (n : Int); omega) (by decide) (p_fam_star (by omega) (H _ _ rfl rfl)), fun q => absurd rfl q⟩, ?_⟩
    refine ⟨?_, ?_, ?_, ?_, ?_, ?_⟩ <;> exact fun q => absurd q (by decide)
  · refine fun n a b hll q H => yaG hll (fun q2 => absurd q q2) fun _ => ⟨fun q => absurd q (by decide), fun q => absurd q (by decide), fun q => absurd q (by decide), fun _ => ⟨fun _ => ydE (by simp) (by show (n : Int) ≤ 1000 ∧ 0 ≤ (n : Int); omega) (by decide) (p_fam_complete a (by omega) (H _ _ (by show (n : Int) + 0 = n; omega) rfl)), fun q => absurd rfl q⟩, ?_⟩
    refine ⟨?_, ?_, ?_, ?_, ?_⟩ <;> exact fun q => absurd q (by decide)
  · refine fun n a b hll q H => yaG hll (fun q2 => absurd q q2) fun _ => ⟨fun q => absurd q (by decide), fun q => absurd q (by decide), fun q => absurd q (by decide), fun q => absurd q (by decide), fun _ => ⟨fun _ => ?_, fun q => absurd rfl q⟩, ?_⟩
    · refine p_fam_banana (by omega) (H _ _ ?_ rfl)
      unfold vrtK
      rw [if_pos rfl, if_neg (by show ¬ 50 < (n : Int); omega)]
    refine ⟨?_, ?_, ?_, ?_⟩ <;> exact fun q => absurd q (by decide)
  · refine fun n a b hll q H => yaG hll (fun q2 => absurd q q2) fun _ => ⟨fun q => absurd q (by decide), fun q => absurd q (by decide), fun q => absurd q (by decide), fun q => absurd q (by decide), fun q => absurd q (by decide), fun _ => ⟨fun _ => ydE (by simp) (by show (n : Int) ≤ 1000 ∧ 0 ≤ (n : Int); omega) (by decide) (p_fam_wheel a (by omega) (H _ _ rfl rfl)), fun q => absurd rfl q⟩, ?_⟩
    refine ⟨?_, ?_, ?_⟩ <;> exact fun q => absurd q (by decide)
  · refine fun m n a b c hll q H => yaG hll (fun q2 => absurd q q2) fun _ => ⟨fun q => absurd q (by decide), fun q => absurd q (by decide), fun q => absurd q (by decide), fun q => absurd q (by decide), fun q => absurd q (by decide), fun q => absurd q (by decide), fun _ => ⟨fun _ => ?_, fun q => absurd rfl q⟩, ?_⟩
    · refine ⟨by simp, by simp, ⟨?_, ?_⟩, yf8 (by omega) (by omega) (H _ _ rfl rfl)⟩
      · show _ ≤ (m : Int) + n; omega
      · show (m : Int) + n ≤ _; omega
    refine ⟨?_, ?_⟩ <;> exact fun q => absurd q (by decide)
  · refine fun m n a b c hll q H => yaG hll (fun q2 => absurd q q2) fun _ => ⟨fun q => absurd q (by decide), fun q => absurd q (by decide), fun q => absurd q (by decide), fun q => absurd q (by decide), fun q => absurd q (by decide), fun q => absurd q (by decide), fun q => absurd q (by decide), fun _ => ⟨fun _ => ?_, fun q => absurd rfl q⟩, fun q => absurd q (by decide)⟩
    have hm : m ≤ 12 := Nat.le_trans (Nat.le_mul_of_pos_right m b) c
    have hn : n ≤ 12 := Nat.le_trans (Nat.le_mul_of_pos_left n a) c
    refine ⟨by simp, by simp, ⟨?_, ?_⟩, p_fam_grid hm b hn (H _ _ rfl rfl)⟩
    · show _ ≤ (m : Int) * n; rw [← Int.natCast_mul]; omega
    · show (m : Int) * n ≤ _; rw [← Int.natCast_mul]; omega
  · refine fun x y z a b c d hll q H => yaG hll (fun q2 => absurd q q2) fun _ => ⟨fun q => absurd q (by decide), fun q => absurd q (by decide), fun q => absurd q (by decide), fun q => absurd q (by decide), fun q => absurd q (by decide), fun q => absurd q (by decide), fun q => absurd q (by decide), fun q => absurd q (by decide), fun _ => ⟨fun _ => ?_, fun q => absurd rfl q⟩⟩
    have e0 : gi [(x : Int), (y : Int), (z : Int)] (Int.toNat 0) = x := rfl
    have e1 : gi [(x : Int), (y : Int), (z : Int)] (Int.toNat 1) = y := rfl
    have e2 : gi [(x : Int), (y : Int), (z : Int)] (Int.toNat 2) = z := rfl
    unfold ybb
    rw [e0, e1, e2]
    refine ⟨by simp, by simp, ⟨by omega, by omega⟩, by simp, ⟨by omega, by omega⟩, ⟨by omega, by omega⟩, ?_⟩
    refine p_fam_theta (l := fun k => if k = 0 then x else if k = 1 then y else z) (fun k => ?_) (fun k => ?_) (H _ _ rfl ?_)
    · show 1 ≤ if k = 0 then x else if k = 1 then y else z
      split
      · exact a
      · split <;> assumption
    · show (if k = 0 then x else if k = 1 then y else z) ≤ 20
      split
      · omega
      · split <;> omega
    · rfl
end Go.Proofs.Ytdbpajnjhgocoaa

/- The reference's graphs; connected; the genus. -/
namespace Go.Proofs.Ytdbpajnjhgocoaa
open Go Go.RowKit Go.Shelf Go.Proofs.Try
set_option linter.unusedVariables false
set_option linter.unusedSimpArgs false
theorem mem_line {a n i : Nat} (h : i < n) : (((a + i : Nat) : Int), ((a + i : Nat) : Int) + 1) ∈ ycl a n := List.mem_map.2 ⟨i, List.mem_range.2 h, rfl⟩
theorem ye5 {m n i k : Nat} (hi : i < m) (hk : k < n) : ((i : Int), ((m + k : Nat) : Int)) ∈ ycc m n := by
  simp only [ycc, List.mem_flatMap, List.mem_range, List.mem_map]
  exact ⟨i, hi, _, List.mem_map.2 ⟨k, List.mem_range.2 hk, rfl⟩, rfl⟩
theorem mem_comp {n a b : Nat} (h : a < b) (hb : b < n) : ((a : Int), (b : Int)) ∈ compL n := by
  simp only [compL, List.mem_flatMap, List.mem_range, List.mem_map]
  refine ⟨a, by omega, (b : Int), List.mem_map.2 ⟨b - a - 1, List.mem_range.2 (by omega), ?_⟩, rfl⟩
  omega
theorem mem_grid {m n i j : Nat} (hi : i < m) (hj : j < n) {e : Int × Int} (h : e ∈ yds m n i j) : e ∈ gridL m n := by
  simp only [gridL, List.mem_flatMap, List.mem_range]
  exact ⟨i, hi, j, hj, h⟩
theorem ygu (a : Nat) : ∀ m, wayL (segL a m) = (List.range m).map fun j => (atV a j, ((a + j : Nat) : Int))
  | 0 => rfl
  | m + 1 => by rw [segL_snoc, yfv, ygu a m, List.range_succ, List.map_append]; rfl
theorem mem_way {a m j : Nat} (h : j < m) : (atV a j, ((a + j : Nat) : Int)) ∈ wayL (segL a m ++ [1]) := by
  rw [yfv, ygu, List.mem_append]
  exact .inl (List.mem_map.2 ⟨j, List.mem_range.2 h, rfl⟩)
theorem mem_way1 {a m : Nat} : (atV a m, 1) ∈ wayL (segL a m ++ [1]) := by
  rw [yfv, List.mem_append]
  exact .inr (by simp)
theorem thL_sub {l : Nat → Nat} {k : Nat} {e : Int × Int} (h : e ∈ wayL (segL (nxt l k) (l k - 1) ++ [1])) : ∀ {n : Nat}, k < n → e ∈ thL l n
  | n + 1, hn => by
    rw [thL, List.mem_append]
    rcases (show k < n ∨ k = n by omega) with q | rfl
    · exact .inl (thL_sub h q)
    · exact .inr h
theorem nxt_two (l : Nat → Nat) : ∀ k, 2 ≤ nxt l k
  | 0 => Nat.le_refl _
  | k + 1 => by have := nxt_two l k; simp only [nxt]; omega
theorem atV_nat {a j : Nat} (ha : 2 ≤ a) : ∃ u : Nat, atV a j = u ∧ u ≠ 1 ∧ (u < a + j) ∧ u ≤ a + j - 1 := by
  unfold atV
  split
  · exact ⟨0, rfl, by omega, by omega, by omega⟩
  · exact ⟨a + j - 1, rfl, by omega, by omega, by omega⟩
theorem conn_theta {l : Nat → Nat} (h1 : ∀ k, 1 ≤ l k) {v : Nat} (hv : v < nxt l 3) (h0 : v ≠ 0) : ∃ u, u < nxt l 3 ∧ (if u = 1 then 100 else u) < (if v = 1 then 100 else v) + (if v = 1 then nxt l 3 else 0) ∧ Joins (thL l 3) v u := by
  have hm : ∀ k, k < 3 → nxt l (k + 1) ≤ nxt l 3 := by
    intro k hk
    rcases (show k = 0 ∨ k = 1 ∨ k = 2 by omega) with rfl | rfl | rfl <;> simp only [nxt] <;> omega
  have h2 := nxt_two l
  by_cases q1 : v = 1
  · subst q1
    obtain ⟨u, hu, hu1, hu2, hu3⟩ := atV_nat (a := nxt l 0) (j := l 0 - 1) (h2 0)
    have hs : nxt l (0 + 1) = nxt l 0 + (l 0 - 1) := rfl
    have := hm 0 (by omega)
    refine ⟨u, by omega, ?_, .inr (thL_sub (k := 0) ?_ (by omega))⟩
    · rw [if_neg hu1, if_pos rfl, if_pos rfl]; omega
    · rw [← hu]; exact mem_way1
  · have hk : ∃ k, k < 3 ∧ nxt l k ≤ v ∧ v < nxt l (k + 1) := by
      rcases Nat.lt_or_ge v (nxt l 1) with q | q
      · exact ⟨0, by omega, by show 2 ≤ v; omega, q⟩
      · rcases Nat.lt_or_ge v (nxt l 2) with q2 | q2
        · exact ⟨1, by omega, q, q2⟩
        · exact ⟨2, by omega, q2, hv⟩
    obtain ⟨k, hk3, hk1, hk2⟩ := hk
    have hs : nxt l (k + 1) = nxt l k + (l k - 1) := rfl
    obtain ⟨u, hu, hu1, hu2, hu3⟩ := atV_nat (a := nxt l k) (j := v - nxt l k) (h2 k)
    refine ⟨u, by omega, ?_, .inr (thL_sub (k := k) ?_ hk3)⟩
    · rw [if_neg hu1, if_neg q1, if_neg q1]; omega
    · have := mem_way (a := nxt l k) (m := l k - 1) (j := v - nxt l k) (by omega)
      rw [hu, show nxt l k + (v - nxt l k) = v by omega] at this
      exact this
theorem yeU {d : Nat} {l : List (Int × Int)} (h : ∀ v, v < d → v ≠ 0 → ∃ u, u < v ∧ Joins l v u) : ∃ r : Nat → Nat, ∀ v, v < d → v ≠ 0 → ∃ u, u < d ∧ r u < r v ∧ Joins l v u :=
  ⟨id, fun v hv h0 => by obtain ⟨u, h1, h2⟩ := h v hv h0; exact ⟨u, by omega, h1, h2⟩⟩
theorem near_K {kind : Int} {l : List Int} (h : Right kind l) : ∃ r : Nat → Nat, ∀ v, v < (vrtK kind l).toNat → v ≠ 0 → ∃ u, u < (vrtK kind l).toNat ∧ r u < r v ∧ Joins (yfQ kind l) v u := by
  have hline : ∀ {a n v : Nat}, a < v → v ≤ a + n → (((v - 1 : Nat) : Int), (v : Int)) ∈ ycl a n := fun {a n v} h1 h2 => by
    have := mem_line (a := a) (n := n) (i := v - 1 - a) (by omega)
    rw [show ((a + (v - 1 - a) : Nat) : Int) + 1 = (v : Int) by omega, show ((a + (v - 1 - a) : Nat) : Int) = ((v - 1 : Nat) : Int) by omega] at this
    exact this
  refine ycA h (P := fun kind l => ∃ r : Nat → Nat, ∀ v, v < (vrtK kind l).toNat → v ≠ 0 → ∃ u, u < (vrtK kind l).toNat ∧ r u < r v ∧ Joins (yfQ kind l) v u) (fun n a b => yeU fun v hv h0 => ?_) (fun n a b => yeU fun v hv h0 => ?_) (fun n a b => yeU fun v hv h0 => ?_) (fun n a b => yeU fun v hv h0 => ?_) (fun n a b => yeU fun v hv h0 => ?_) (fun n a b => yeU fun v hv h0 => ?_) (fun m n a b c => ?_) (fun m n a b c => yeU fun v hv h0 => ?_) (fun x y z a b c d => ?_)
  · have hv : v < n := hv
    exact ⟨v - 1, by omega, .inr (hline (by omega) (by show v ≤ 0 + (n - 1); omega))⟩
  · have hv : v < n := hv
    exact ⟨v - 1, by omega, .inr (List.mem_append.2 (.inl (hline (by omega) (by show v ≤ 0 + (n - 1); omega))))⟩
  · have hv : v < n + 1 := hv
    refine ⟨0, by omega, .inr ?_⟩
    have := ye5 (m := 1) (n := n) (i := 0) (k := v - 1) (by omega) (by omega)
    rwa [show 1 + (v - 1) = v by omega] at this
  · have hv : v < n := hv
    exact ⟨0, by omega, .inr (mem_comp (by omega) hv)⟩
  · have e : (vrtK 4 [(n : Int)]).toNat = 2 := by
      unfold vrtK
      rw [if_pos rfl, if_neg (by show ¬ 50 < (n : Int); omega)]; rfl
    rw [e] at hv
    have : v = 1 := by omega
    subst this
    exact ⟨0, by omega, .inr (List.mem_replicate.2 ⟨by show n ≠ 0; omega, rfl⟩)⟩
  · have hv : v < n + 1 := hv
    refine ⟨0, by omega, .inr (List.mem_append.2 (.inl (List.mem_append.2 (.inl ?_))))⟩
    have := ye5 (m := 1) (n := n) (i := 0) (k := v - 1) (by omega) (by omega)
    rwa [show 1 + (v - 1) = v by omega] at this
  · refine ⟨fun v => if v = 0 then 0 else if v < m then 2 else 1, fun v hv h0 => ?_⟩
    have hv : v < m + n := hv
    show ∃ u, u < m + n ∧ _
    by_cases q : v < m
    · refine ⟨m, by omega, ?_, .inl ?_⟩
      · simp only; rw [if_neg (by omega), if_neg (by omega), if_neg h0, if_pos q]; omega
      · exact ye5 (m := m) (n := n) (i := v) (k := 0) q (by omega)
    · refine ⟨0, by omega, ?_, .inr ?_⟩
      · simp only; rw [if_pos True.intro, if_neg h0, if_neg q]; omega
      · have := ye5 (m := m) (n := n) (i := 0) (k := v - m) (by omega) (by omega)
        rwa [show m + (v - m) = v by omega] at this
  · have hd : (vrtK 7 [(m : Int), (n : Int)]).toNat = m * n := by
      show ((m : Int) * n).toNat = m * n
      rw [← Int.natCast_mul]; exact Int.toNat_natCast _
    rw [hd] at hv
    have hkv : v = (v / n) * n + v % n := by rw [Nat.mul_comm]; exact (Nat.div_add_mod v n).symm
    have hmod : v % n < n := Nat.mod_lt v (by omega)
    have hdv : v / n < m := Nat.div_lt_of_lt_mul (by rw [Nat.mul_comm]; omega)
    by_cases q : v % n = 0
    · have hi : 1 ≤ v / n := by
        rcases Nat.eq_zero_or_pos (v / n) with q2 | q2
        · rw [q2, q] at hkv; omega
        · exact q2
      obtain ⟨i, hi2⟩ : ∃ i, v / n = i + 1 := ⟨v / n - 1, by omega⟩
      rw [hi2, Nat.add_mul] at hkv
      refine ⟨v - n, by omega, .inr (mem_grid (m := m) (n := n) (i := i) (j := 0) (by omega) b ?_)⟩
      unfold yds
      rw [List.mem_append]
      refine .inr ?_
      show _ ∈ if i + 1 < m then _ else _
      rw [if_pos (by omega), List.mem_singleton, Prod.mk.injEq]
      show ((v - n : Nat) : Int) = ((i * n + 0 : Nat) : Int) ∧ (v : Int) = ((i * n + n + 0 : Nat) : Int)
      omega
    · refine ⟨v - 1, by omega, .inr (mem_grid (m := m) (n := n) (i := v / n) (j := v % n - 1) hdv (by omega) ?_)⟩
      unfold yds
      rw [List.mem_append]
      refine .inl ?_
      show _ ∈ if v % n - 1 + 1 < n then _ else _
      rw [if_pos (by omega), List.mem_singleton, Prod.mk.injEq]
      show ((v - 1 : Nat) : Int) = ((v / n * n + (v % n - 1) : Nat) : Int) ∧ (v : Int) = ((v / n * n + (v % n - 1) + 1 : Nat) : Int)
      omega
  · generalize hL : (fun k => max 1 (szF [(x : Int), (y : Int), (z : Int)] k)) = L
    have h0 : L 0 = x := by rw [← hL]; show max 1 x = x; omega
    have h1 : L 1 = y := by rw [← hL]; show max 1 y = y; omega
    have h2 : L 2 = z := by rw [← hL]; show max 1 z = z; omega
    have hge : ∀ k, 1 ≤ L k := fun k => by rw [← hL]; exact Nat.le_max_left _ _
    have e : yfQ 8 [(x : Int), (y : Int), (z : Int)] = thL L 3 := by
      show thL (fun k => szF [(x : Int), (y : Int), (z : Int)] k) 3 = _
      simp only [thL, nxt, h0, h1, h2]; rfl
    have hd : (vrtK 8 [(x : Int), (y : Int), (z : Int)]).toNat = nxt L 3 := by
      show ((x : Int) + y + z - 1).toNat = _
      simp only [nxt, h0, h1, h2]; omega
    rw [e, hd]
    refine ⟨fun v => (if v = 1 then 100 else v) + (if v = 1 then nxt L 3 else 0), fun v hv hv0 => ?_⟩
    obtain ⟨u, h3, h4, h5⟩ := conn_theta hge hv hv0
    refine ⟨u, h3, ?_, h5⟩
    simp only
    by_cases q : u = 1
    · subst q
      exfalso
      rw [if_pos rfl] at h4
      by_cases q2 : v = 1
      · subst q2
        rcases h5 with h5 | h5
        all_goals
          rcases (show ((1 : Int), (1 : Int)) ∈ thL L 3 from h5) with _
          have hh : ∀ e ∈ thL L 3, e.1 ≠ 1 := by
            intro e he
            have hw : ∀ k e, e ∈ wayL (segL (nxt L k) (L k - 1) ++ [1]) → e.1 ≠ 1 := by
              intro k e he
              rw [yfv, ygu, List.mem_append, List.mem_map, List.mem_singleton] at he
              rcases he with ⟨j, _, rfl⟩ | rfl
              · obtain ⟨u, hu, hu1, _⟩ := atV_nat (a := nxt L k) (j := j) (nxt_two L k)
                show atV (nxt L k) j ≠ 1
                rw [hu]; omega
              · obtain ⟨u, hu, hu1, _⟩ := atV_nat (a := nxt L k) (j := L k - 1) (nxt_two L k)
                show atV (nxt L k) (L k - 1) ≠ 1
                rw [hu]; omega
            simp only [thL, List.mem_append, List.not_mem_nil, false_or] at he
            rcases he with (he | he) | he
            · exact hw 0 e he
            · exact hw 1 e he
            · exact hw 2 e he
          exact hh _ h5 rfl
      · rw [if_neg q2, if_neg q2] at h4
        simp only [nxt, h0, h1, h2] at hv; omega
    · rw [if_neg q] at h4 ⊢
      rw [if_neg q]; exact h4
theorem connK {kind : Int} {l : List Int} (h : Right kind l) : ∀ q, q < (vrtK kind l).toNat → Conn (vrtK kind l).toNat (gK kind l) q := by
  have hE := yhf h
  obtain ⟨r, hr⟩ := near_K h
  exact conn_made hE.one hE.few hE.mult r hr
theorem gK_ok {kind : Int} {l : List Int} (h : Right kind l) : ycO (vrtK kind l).toNat (gK kind l) = 0 := by
  have hE := yhf h
  exact yhR hE.one hE.few hE.mult
theorem sumK {kind : Int} {l : List Int} (h : Right kind l) : ((gK kind l).map (·.2.2)).sum = ((yfQ kind l).length : Int) := sum_made _ (yhf h).ok
theorem yhH : ∀ (es : List E3), (∀ x ∈ es, 1 ≤ x.2.2) → (es.length : Int) ≤ (es.map (·.2.2)).sum
  | [], _ => by simp
  | x :: t, h => by
    have := yhH t fun y hy => h y (by simp [hy])
    have := h x (by simp)
    rw [List.length_cons, List.map_cons, List.sum_cons]; omega
theorem multK {kind : Int} {l : List Int} (h : Right kind l) : ∀ x ∈ gK kind l, 1 ≤ x.2.2 ∧ x.2.2 ≤ 50 := fun x hx => by
  obtain ⟨hE, _, _⟩ := ygo (gK_ok h)
  have := hE x hx; omega
theorem lenK {kind : Int} {l : List Int} (h : Right kind l) : (gK kind l).length ≤ 100 := by
  have h1 := yhH (gK kind l) fun x hx => (multK h x hx).1
  rw [sumK h] at h1
  have := (yhf h).len; omega
def genK (kind : Int) (l : List Int) : Int := ((yfQ kind l).length : Int) + 1 - vrtK kind l
theorem ygW {kind : Int} {l : List Int} {R : Int → Int → Prop} (hll : l.length ≤ 1000000) (he : errK kind l ≠ 0 → R 0 (errK kind l)) (h : Right kind l → R (genK kind l) 0) : ycf kind l R := by
  refine ydR hll (fun q => ⟨fun q2 => absurd q2 q, fun _ => he q⟩) fun hr => ⟨fun _ => ?_, fun q => absurd rfl q⟩
  have h := h hr
  unfold genK at h
  rw [← sumK hr] at h
  rw [ygt hr] at h ⊢
  exact p_graph_Genus (by have := lenK hr; omega) (gK_ok hr) (connK hr) h
end Go.Proofs.Ytdbpajnjhgocoaa

/- The cyclic groups and the spanning trees of the kinds. -/
namespace Go.Proofs.Ytdbpajnjhgocoaa
open Go Go.RowKit Go.Shelf Go.Proofs.Try
set_option linter.unusedVariables false
set_option linter.unusedSimpArgs false
def serF : Nat → Int → Int → Int
  | 0, a, _ => a
  | n + 1, a, b => serF n b (a + b)
def yeV : Nat → Int × Int → Int × Int
  | 0, p => p
  | n + 1, p => yeV n (p.2, p.1 + p.2)
theorem stepF_snoc : ∀ (n : Nat) (p : Int × Int), yeV (n + 1) p = ((yeV n p).2, (yeV n p).1 + (yeV n p).2)
  | 0, p => rfl
  | n + 1, p => by rw [yeV, stepF_snoc n]; rfl
theorem ygr : ∀ (n : Nat) (a b : Int), (yeV n (a, b)).1 = serF n a b
  | 0, a, b => rfl
  | n + 1, a, b => by rw [yeV, ygr n, serF]
theorem yeY {c : Int} (hc : 0 ≤ c) : ∀ (n : Nat) {a b : Int}, 0 ≤ a → 0 ≤ b → a ≤ c → b ≤ c → 0 ≤ (yeV n (a, b)).1 ∧ 0 ≤ (yeV n (a, b)).2 ∧ (yeV n (a, b)).1 ≤ c * 2 ^ n ∧ (yeV n (a, b)).2 ≤ c * 2 ^ n
  | 0, a, b, h1, h2, h3, h4 => by simp [yeV]; omega
  | n + 1, a, b, h1, h2, h3, h4 => by
    have := yeY (c := c * 2) (by omega) n (a := b) (b := a + b) h2 (by omega) (by omega) (by omega)
    rw [yeV]
    have e : c * 2 * 2 ^ n = c * 2 ^ (n + 1) := by rw [Int.pow_succ, Int.mul_assoc, Int.mul_comm 2]
    rw [e] at this
    exact this
theorem ser_loop {n : Nat} (hn : n ≤ 30) {a b : Int} (ha : 0 ≤ a ∧ a ≤ 2) (hb : 0 ≤ b ∧ b ≤ 2) {R : Int → Prop} (h : R (serF n a b)) {t : Int} (ht : t = n) :
    (∃ I2 : Nat → Int → Int → Int → Prop, (∃ m0, I2 m0 a b 0) ∧ ∀ (m2 : Nat) (a2 : Int) (b2 : Int) (v : Int), I2 m2 a2 b2 v → ((v < t → (In64 (a2 + b2) ∧ (In64 (v + 1) ∧ ∃ m3, m3 < m2 ∧ I2 m3 b2 (a2 + b2) (v + 1)))) ∧ (¬ (v < t) → R a2))) := by
  subst ht
  refine ⟨fun m a2 b2 v => ∃ k : Nat, v = k ∧ k + m = n ∧ (a2, b2) = yeV k (a, b), ⟨n, 0, rfl, by omega, rfl⟩, ?_⟩
  rintro m a2 b2 v ⟨k, rfl, hk, he⟩
  have hbd := yeY (c := 2) (by omega) k ha.1 hb.1 ha.2 hb.2
  rw [← he] at hbd
  simp only at hbd
  have hp : (2 : Int) * 2 ^ k ≤ 2 * 2 ^ 30 := by
    have : (2 : Nat) ^ k ≤ 2 ^ 30 := Nat.pow_le_pow_right (by omega) (by omega)
    have h2 : (2 : Int) ^ k ≤ 2 ^ 30 := by exact_mod_cast this
    omega
  refine ⟨fun hlt => ⟨⟨by omega, by omega⟩, ⟨by omega, by omega⟩, m - 1, by omega, k + 1, by omega, by omega, ?_⟩, fun hge => ?_⟩
  · rw [stepF_snoc, ← he]
  · have : k = n := by omega
    subst this
    have e : a2 = serF k a b := by rw [← ygr, ← he]
    rw [e]; exact h
theorem yeA {n : Nat} (hn : n ≤ 30) {a b : Int} (ha : 0 ≤ a ∧ a ≤ 2) (hb : 0 ≤ b ∧ b ≤ 2) {t : Int} (ht : t = n) {R : Int → Prop} (h : R (serF n a b)) : yb4 a b t R := ser_loop hn ha hb h ht
theorem yef {a b : Nat} {R : Int → Prop} (h : R ((Nat.gcd a b : Nat) : Int)) : yb3 a b R := by
  refine ⟨fun m x y => ∃ c d : Nat, x = c ∧ y = d ∧ m = d ∧ Nat.gcd c d = Nat.gcd a b, ⟨b, a, b, rfl, rfl, rfl, rfl⟩, ?_⟩
  rintro m x y ⟨c, d, rfl, rfl, rfl, hg⟩
  refine ⟨fun hlt => ⟨by omega, c % m, Nat.mod_lt c (by omega), m, c % m, rfl, ?_, rfl, ?_⟩, fun hge => ?_⟩
  · rw [Int.tmod_eq_emod_of_nonneg (by omega), Int.natCast_emod]
  · rw [← hg, Nat.gcd_comm m, Nat.gcd_comm c m]; exact (Nat.gcd_rec m c).symm
  · have : m = 0 := by omega
    subst this
    rw [Nat.gcd_zero_right] at hg
    rw [hg]; exact h
def gcdK (l : List Int) : Nat := Nat.gcd (Nat.gcd (szF l 0) (szF l 1)) (szF l 2)
def totK (l : List Int) : Int := (szF l 0 : Int) * szF l 1 + (szF l 0 : Int) * szF l 2 + (szF l 1 : Int) * szF l 2
def ordK (kind : Int) (l : List Int) : List Int :=
  if kind = 1 ∨ kind = 4 then [(szF l 0 : Int)]
  else if kind = 3 then List.replicate (szF l 0 - 2) (szF l 0 : Int)
  else if kind = 5 then (if szF l 0 % 2 = 1 then [serF (szF l 0) 2 1, serF (szF l 0) 2 1] else [serF (szF l 0) 0 1, 5 * serF (szF l 0) 0 1])
  else if kind = 6 then (if szF l 0 < 2 ∨ szF l 1 < 2 then [] else (List.replicate (szF l 1 - 2) (szF l 0 : Int) ++ List.replicate (szF l 0 - 2) (szF l 1 : Int)) ++ [(szF l 0 : Int) * szF l 1])
  else if kind = 8 then [(gcdK l : Int), totK l / (gcdK l : Int)]
  else []
def cycK (kind : Int) (l : List Int) : List Int := (ordK kind l).filter fun x => decide (x ≠ 1)
theorem ycd {L : List Int} (hl : L.length ≤ 1000) {R : List Int → Int → Prop} (h : R (L.filter fun x => decide (x ≠ 1)) 0) :
    (∃ I2 : Nat → (List Int) → Int → Prop, (∃ m0, I2 m0 ([]) 0) ∧ ∀ (m2 : Nat) (out : List Int) (v : Int), I2 m2 out v → 
    ((v < ((L.length : Nat) : Int) →
    ((0 ≤ v ∧ v < ((L.length : Nat) : Int)) ∧
    (((gi L v.toNat) = 1 →
    (In64 (v + 1) ∧
    ∃ m3, m3 < m2 ∧ I2 m3 out (v + 1))) ∧
    (¬ ((gi L v.toNat) = 1) →
    (out.length + 1 ≤ 1000000000 ∧
    (In64 (v + 1) ∧
    ∃ m4, m4 < m2 ∧ I2 m4 (out ++ [gi L v.toNat]) (v + 1))))))) ∧
    (¬ (v < ((L.length : Nat) : Int)) →
    R out 0))) := by
  refine ⟨fun m out v => Cnt L.length (fun k => out = (L.take k).filter fun x => decide (x ≠ 1)) m v, Cnt.start rfl, ?_⟩
  rintro m out _ ⟨k, rfl, rfl, hk, rfl⟩
  simp only [Int.toNat_natCast]
  refine ⟨fun hlt => ?_, fun hge => ?_⟩
  · have hkl : k < L.length := by omega
    have ht : L.take (k + 1) = L.take k ++ [gi L k] := by rw [List.take_add_one, List.getElem?_eq_getElem hkl, ybz hkl]; rfl
    refine ⟨⟨by omega, by omega⟩, fun q => Cnt.next hkl (by omega) ?_, fun q => ⟨?_, Cnt.next hkl (by omega) ?_⟩⟩
    · rw [ht, List.filter_append]; simp [q]
    · have := List.length_filter_le (fun x => decide (x ≠ 1)) (L.take k)
      rw [List.length_take] at this; omega
    · rw [ht, List.filter_append]; simp [q]
  · have e : k = L.length := by omega
    rw [e, List.take_length]; exact h
theorem yfw (n : Nat) : ((n : Int) - 2).toNat = n - 2 := by omega
theorem tmod2 (n : Nat) : ((n : Int).tmod 2 = 1) ↔ n % 2 = 1 := by
  rw [Int.tmod_eq_emod_of_nonneg (by omega)]; omega
theorem gcdK_pos {a b c : Nat} (ha : 1 ≤ a) : 0 < Nat.gcd (Nat.gcd a b) c := Nat.gcd_pos_of_pos_left c (Nat.gcd_pos_of_pos_left b ha)
theorem yci {a b : Nat} (ha : a ≤ 20) (hb : b ≤ 20) : 0 ≤ (a : Int) * b ∧ (a : Int) * b ≤ 400 := by
  have h : a * b ≤ 20 * 20 := Nat.mul_le_mul ha hb
  have e : (a : Int) * b = ((a * b : Nat) : Int) := (Int.natCast_mul a b).symm
  rw [e]; omega
theorem tdiv_pos {t g : Int} (ht : 0 ≤ t) : t.tdiv g = t / g := Int.tdiv_eq_ediv_of_nonneg ht
theorem ordK_len {kind : Int} {l : List Int} (h : Right kind l) : (ordK kind l).length ≤ 100 := by
  refine ycA h (P := fun kind l => (ordK kind l).length ≤ 100) (fun n a b => ?_) (fun n a b => ?_) (fun n a b => ?_) (fun n a b => ?_) (fun n a b => ?_) (fun n a b => ?_) (fun m n a b c => ?_) (fun m n a b c => ?_) (fun x y z a b c d => ?_)
  · exact Nat.zero_le _
  · show 1 ≤ 100; omega
  · exact Nat.zero_le _
  · show (List.replicate (n - 2) (n : Int)).length ≤ 100; rw [List.length_replicate]; omega
  · show 1 ≤ 100; omega
  · show (if n % 2 = 1 then [serF n 2 1, serF n 2 1] else [serF n 0 1, 5 * serF n 0 1]).length ≤ 100
    split <;> simp
  · show (if m < 2 ∨ n < 2 then [] else (List.replicate (n - 2) (m : Int) ++ List.replicate (m - 2) (n : Int)) ++ [(m : Int) * n]).length ≤ 100
    split
    · simp
    · simp; omega
  · exact Nat.zero_le _
  · show 2 ≤ 100; omega
theorem yhg {n : Nat} (hn : n ≤ 30) {a b : Int} (ha : 0 ≤ a ∧ a ≤ 2) (hb : 0 ≤ b ∧ b ≤ 2) : 0 ≤ serF n a b ∧ serF n a b ≤ 2 * 2 ^ 30 := by
  have := yeY (c := 2) (by omega) n ha.1 hb.1 ha.2 hb.2
  rw [ygr] at this
  have : (2 : Nat) ^ n ≤ 2 ^ 30 := Nat.pow_le_pow_right (by omega) (by omega)
  have h2 : (2 : Int) ^ n ≤ 2 ^ 30 := by exact_mod_cast this
  omega
theorem p_fam17 {a b c : Nat} (ha : 1 ≤ a) (ha2 : a ≤ 12) (hb2 : b ≤ 12) (hc2 : c ≤ 12) {R : List Int → Prop} (h : R (ordK 8 [(a : Int), (b : Int), (c : Int)])) : ybo [(a : Int), (b : Int), (c : Int)] R := by
  have e0 : gi [(a : Int), (b : Int), (c : Int)] (Int.toNat 0) = a := rfl
  have e1 : gi [(a : Int), (b : Int), (c : Int)] (Int.toNat 1) = b := rfl
  have e2 : gi [(a : Int), (b : Int), (c : Int)] (Int.toNat 2) = c := rfl
  unfold ybo
  rw [e0, e1, e2]
  have m1 := yci (a := a) (b := b) (by omega) (by omega)
  have m2 := yci (a := a) (b := c) (by omega) (by omega)
  have m3 := yci (a := b) (b := c) (by omega) (by omega)
  have hg := gcdK_pos (b := b) (c := c) ha
  refine ⟨by simp, by simp, by simp, yef (yef ?_)⟩
  rw [tdiv_pos (by omega)]
  have hT : 0 ≤ ((a : Int) * b + a * c + b * c) / ((Nat.gcd (Nat.gcd a b) c : Nat) : Int) := Int.ediv_nonneg (by omega) (by omega)
  have hT2 : ((a : Int) * b + a * c + b * c) / ((Nat.gcd (Nat.gcd a b) c : Nat) : Int) ≤ (a : Int) * b + a * c + b * c := Int.ediv_le_self _ (by omega)
  exact ⟨⟨by omega, by omega⟩, ⟨by omega, by omega⟩, ⟨by omega, by omega⟩, ⟨by omega, by omega⟩, ⟨by omega, by omega⟩, by omega, ⟨by omega, by omega⟩, h⟩
theorem yel {kind : Int} {l : List Int} {R : List Int → Int → Prop} (hll : l.length ≤ 1000000) (he : errK kind l ≠ 0 → R [] (errK kind l)) (h7 : Right kind l → kind = 7 → R [] 15) (h : Right kind l → kind ≠ 7 → R (cycK kind l) 0) : yba kind l R := by
  by_cases q : errK kind l = 0
  case neg => exact yaG hll (fun q2 => ⟨fun q2 => absurd q2 q, fun _ => he q⟩) fun q2 => absurd q2 q
  have hr := ye2 q
  have hL := ordK_len hr
  have h := h hr
  have h7 := h7 hr
  clear he
  revert q hll h hL h7
  refine ycA hr (P := fun kind l => l.length ≤ 1000000 → errK kind l = 0 → (ordK kind l).length ≤ 100 → (kind ≠ 7 → R (cycK kind l) 0) → (kind = 7 → R [] 15) → yba kind l R) ?_ ?_ ?_ ?_ ?_ ?_ ?_ ?_ ?_
  · refine fun n a b hll q hL H H7 => yaG hll (fun q2 => absurd q q2) fun _ => ⟨fun _ => ⟨fun _ => ycd (L := []) (by simp) (H (by decide)), fun q => absurd rfl q⟩, ?_⟩
    refine ⟨?_, ?_, ?_, ?_, ?_, ?_, ?_, ?_⟩ <;> exact fun q => absurd q (by decide)
  · refine fun n a b hll q hL H H7 => yaG hll (fun q2 => absurd q q2) fun _ => ⟨fun q => absurd q (by decide), fun _ => ⟨fun _ => ⟨⟨by decide, by show (1 : Int) ≤ 1; omega⟩, ycd (L := [(n : Int)]) (by simp) (H (by decide))⟩, fun q => absurd rfl q⟩, ?_⟩
    refine ⟨?_, ?_, ?_, ?_, ?_, ?_, ?_⟩ <;> exact fun q => absurd q (by decide)
  · refine fun n a b hll q hL H H7 => yaG hll (fun q2 => absurd q q2) fun _ => ⟨fun q => absurd q (by decide), fun q => absurd q (by decide), fun _ => ⟨fun _ => ycd (L := []) (by simp) (H (by decide)), fun q => absurd rfl q⟩, ?_⟩
    refine ⟨?_, ?_, ?_, ?_, ?_, ?_⟩ <;> exact fun q => absurd q (by decide)
  · refine fun n a b hll q hL H H7 => yaG hll (fun q2 => absurd q q2) fun _ => ⟨fun q => absurd q (by decide), fun q => absurd q (by decide), fun q => absurd q (by decide), fun _ => ⟨fun _ => ?_, fun q => absurd rfl q⟩, ?_⟩
    · refine ⟨by simp, ⟨?_, ?_⟩, ybT (n := n - 2) (by omega) (by exact yfw n) (ycd (by rw [List.length_replicate]; omega) (H (by decide)))⟩
      · show _ ≤ (n : Int) - 2; omega
      · show (n : Int) - 2 ≤ _; omega
    refine ⟨?_, ?_, ?_, ?_, ?_⟩ <;> exact fun q => absurd q (by decide)
  · refine fun n a b hll q hL H H7 => yaG hll (fun q2 => absurd q q2) fun _ => ⟨fun q => absurd q (by decide), fun q => absurd q (by decide), fun q => absurd q (by decide), fun q => absurd q (by decide), fun _ => ⟨fun _ => ⟨⟨by decide, by show (1 : Int) ≤ 1; omega⟩, ycd (L := [(n : Int)]) (by simp) (H (by decide))⟩, fun q => absurd rfl q⟩, ?_⟩
    refine ⟨?_, ?_, ?_, ?_⟩ <;> exact fun q => absurd q (by decide)
  · refine fun n a b hll q hL H H7 => yaG hll (fun q2 => absurd q q2) fun _ => ⟨fun q => absurd q (by decide), fun q => absurd q (by decide), fun q => absurd q (by decide), fun q => absurd q (by decide), fun q => absurd q (by decide), fun _ => ⟨fun _ => ?_, fun q => absurd rfl q⟩, ?_⟩
    · have H : R ((if n % 2 = 1 then [serF n 2 1, serF n 2 1] else [serF n 0 1, 5 * serF n 0 1]).filter fun x => decide (x ≠ 1)) 0 := H (by decide)
      refine ⟨by simp, by decide, fun q => ?_, fun q => ?_⟩
      · rw [if_pos ((tmod2 n).1 q)] at H
        exact yeA (n := n) (by omega) (by omega) (by omega) rfl (ybT (n := 2) (by omega) rfl (ycd (by simp) H))
      · rw [if_neg fun z => q ((tmod2 n).2 z)] at H
        have hs := yhg (n := n) (by omega) (a := 0) (b := 1) (by omega) (by omega)
        exact yeA (n := n) (by omega) (by omega) (by omega) rfl ⟨⟨by omega, by omega⟩, ycd (by simp) H⟩
    refine ⟨?_, ?_, ?_⟩ <;> exact fun q => absurd q (by decide)
  · refine fun m n a b c hll q hL H H7 => yaG hll (fun q2 => absurd q q2) fun _ => ⟨fun q => absurd q (by decide), fun q => absurd q (by decide), fun q => absurd q (by decide), fun q => absurd q (by decide), fun q => absurd q (by decide), fun q => absurd q (by decide), fun _ => ⟨fun _ => ?_, fun q => absurd rfl q⟩, ?_⟩
    · have H : R ((if m < 2 ∨ n < 2 then [] else (List.replicate (n - 2) (m : Int) ++ List.replicate (m - 2) (n : Int)) ++ [(m : Int) * n]).filter fun x => decide (x ≠ 1)) 0 := H (by decide)
      have e0 : gi [(m : Int), (n : Int)] (Int.toNat 0) = m := rfl
      have e1 : gi [(m : Int), (n : Int)] (Int.toNat 1) = n := rfl
      unfold ybJ
      rw [e0, e1]
      refine ⟨2 ≤ m ∧ 2 ≤ n, fun q => ?_, by simp, fun q => ?_, fun q => ⟨by simp, fun q2 => ?_, fun q2 => by omega⟩⟩
      · rw [if_neg (by omega)] at H
        have mm := yci (a := m) (b := n) (by omega) (by omega)
        refine ⟨by simp, by simp, ⟨by omega, by omega⟩, ⟨by omega, by omega⟩, ybT (n := n - 2) (by omega) (by exact yfw n) (ybT (n := m - 2) (by omega) (by exact yfw m) ?_)⟩
        exact ⟨by simp; omega, ⟨by omega, by omega⟩, by simp; omega, ycd (by simp; omega) H⟩
      · rw [if_pos (by omega)] at H
        exact ycd (L := []) (by simp) H
      · rw [if_pos (by omega)] at H
        exact ycd (L := []) (by simp) H
    refine ⟨?_, ?_⟩ <;> exact fun q => absurd q (by decide)
  · refine fun m n a b c hll q hL H H7 => yaG hll (fun q2 => absurd q q2) fun _ => ⟨fun q => absurd q (by decide), fun q => absurd q (by decide), fun q => absurd q (by decide), fun q => absurd q (by decide), fun q => absurd q (by decide), fun q => absurd q (by decide), fun q => absurd q (by decide), fun _ => ⟨fun _ => H7 rfl, fun q => absurd rfl q⟩, fun q => absurd q (by decide)⟩
  · refine fun x y z a b c d hll q hL H H7 => yaG hll (fun q2 => absurd q q2) fun _ => ⟨fun q => absurd q (by decide), fun q => absurd q (by decide), fun q => absurd q (by decide), fun q => absurd q (by decide), fun q => absurd q (by decide), fun q => absurd q (by decide), fun q => absurd q (by decide), fun q => absurd q (by decide), fun _ => ⟨fun _ => ?_, fun q => absurd rfl q⟩⟩
    exact p_fam17 a (by omega) (by omega) (by omega) (ycd (by simp [ordK]) (H (by decide)))
end Go.Proofs.Ytdbpajnjhgocoaa

/- The reference's orders and trees; the program's trees. -/
namespace Go.Proofs.Ytdbpajnjhgocoaa
open Go Go.RowKit Go.Shelf Go.Proofs.Try
set_option linter.unusedVariables false
set_option linter.unusedSimpArgs false
def ybX : List Int → Int
  | [] => 1
  | x :: t => x * ybX t
theorem ycZ : ∀ (a b : List Int), ybX (a ++ b) = ybX a * ybX b
  | [], b => by simp [ybX]
  | x :: t, b => by rw [List.cons_append, ybX, ybX, ycZ t b, Int.mul_assoc]
theorem ygq : ∀ n : Nat, (1 : Int) ^ n = 1
  | 0 => rfl
  | n + 1 => by rw [Int.pow_succ, ygq n]; rfl
theorem yey (x : Int) : ∀ n, ybX (List.replicate n x) = x ^ n
  | 0 => by simp [ybX]
  | n + 1 => by rw [List.replicate_succ, ybX, yey x n, Int.pow_succ, Int.mul_comm]
theorem yew : ∀ l : List Int, ybX (l.filter fun x => decide (x ≠ 1)) = ybX l
  | [] => rfl
  | x :: t => by
    rw [List.filter_cons]
    by_cases q : x = 1
    · subst q; rw [if_neg (by decide), yew t, ybX, Int.one_mul]
    · rw [if_pos (by simpa using q), ybX, ybX, yew t]
theorem ye6 : ∀ {l : List Int}, (∀ x ∈ l, 1 ≤ x) → 1 ≤ ybX l
  | [], _ => Int.le_refl _
  | x :: t, h => by
    have h1 := h x (by simp)
    have h2 := ye6 (l := t) fun y hy => h y (by simp [hy])
    have := Int.mul_le_mul h1 h2 (by decide) (by omega)
    rw [ybX]; omega
theorem prodF_take {l : List Int} (h : ∀ x ∈ l, 1 ≤ x) (k : Nat) : 1 ≤ ybX (l.take k) ∧ ybX (l.take k) ≤ ybX l := by
  have h1 : 1 ≤ ybX (l.take k) := ye6 fun x hx => h x (List.mem_of_mem_take hx)
  have h2 : 1 ≤ ybX (l.drop k) := ye6 fun x hx => h x (List.mem_of_mem_drop hx)
  refine ⟨h1, ?_⟩
  have e : ybX l = ybX (l.take k) * ybX (l.drop k) := by rw [← ycZ, List.take_append_drop]
  have := Int.mul_le_mul_of_nonneg_left h2 (show 0 ≤ ybX (l.take k) by omega)
  rw [Int.mul_one] at this
  rw [e]; exact this
def cntK (kind : Int) (l : List Int) : Int :=
  if kind = 1 ∨ kind = 4 then (szF l 0 : Int)
  else if kind = 3 then (szF l 0 : Int) ^ (szF l 0 - 2)
  else if kind = 5 then serF (2 * szF l 0) 2 1 - 2
  else if kind = 6 then (szF l 0 : Int) ^ (szF l 1 - 1) * (szF l 1 : Int) ^ (szF l 0 - 1)
  else if kind = 8 then totK l
  else 1
theorem yeW {a b n m : Nat} (h : a ≤ b) (h2 : n ≤ m) (hb : 1 ≤ b) : (a : Int) ^ n ≤ ((b ^ m : Nat) : Int) := by
  have : a ^ n ≤ b ^ m := Nat.le_trans (Nat.pow_le_pow_left h n) (Nat.pow_le_pow_right hb h2)
  have h3 : ((a ^ n : Nat) : Int) ≤ ((b ^ m : Nat) : Int) := Int.ofNat_le.2 this
  rwa [Int.natCast_pow] at h3
theorem yhc {a : Nat} (h : 1 ≤ a) (n : Nat) : 1 ≤ (a : Int) ^ n := by
  have := ye6 (l := List.replicate n (a : Int)) fun x hx => by rw [(List.mem_replicate.1 hx).2]; omega
  rwa [yey] at this
structure OrdOk (kind : Int) (l : List Int) : Prop where
  one : ∀ x ∈ ordK kind l, 1 ≤ x
  prod : ybX (ordK kind l) = cntK kind l
  few : cntK kind l ≤ 100000000000
theorem ordOk {kind : Int} {l : List Int} (h : Right kind l) : OrdOk kind l := by
  refine ycA h (P := OrdOk) (fun n a b => ?_) (fun n a b => ?_) (fun n a b => ?_) (fun n a b => ?_) (fun n a b => ?_) (fun n a b => ?_) (fun m n a b c => ?_) (fun m n a b c => ?_) (fun x y z a b c d => ?_)
  · exact ⟨fun x hx => absurd hx (by simp [ordK]), rfl, by show (1 : Int) ≤ 100000000000; decide⟩
  · refine ⟨fun x hx => ?_, ?_, ?_⟩
    · have hx : x ∈ [(n : Int)] := hx
      rw [List.mem_singleton] at hx; omega
    · show (n : Int) * 1 = n; omega
    · show (n : Int) ≤ _; omega
  · exact ⟨fun x hx => absurd hx (by simp [ordK]), rfl, by show (1 : Int) ≤ 100000000000; decide⟩
  · refine ⟨fun x hx => ?_, ?_, ?_⟩
    · have hx : x ∈ List.replicate (n - 2) (n : Int) := hx
      rw [(List.mem_replicate.1 hx).2]; omega
    · exact yey _ _
    · have := yeW (a := n) (b := 12) (n := n - 2) (m := 10) b (by omega) (by omega)
      exact Int.le_trans this (by decide)
  · refine ⟨fun x hx => ?_, ?_, ?_⟩
    · have hx : x ∈ [(n : Int)] := hx
      rw [List.mem_singleton] at hx; omega
    · show (n : Int) * 1 = n; omega
    · show (n : Int) ≤ _; omega
  · rcases (show n = 1 ∨ n = 2 ∨ n = 3 ∨ n = 4 ∨ n = 5 ∨ n = 6 ∨ n = 7 ∨ n = 8 ∨ n = 9 ∨ n = 10 ∨ n = 11 by omega) with rfl | rfl | rfl | rfl | rfl | rfl | rfl | rfl | rfl | rfl | rfl <;> exact ⟨by decide, by decide, by decide⟩
  · have ho : ordK 6 [(m : Int), (n : Int)] = (if m < 2 ∨ n < 2 then [] else (List.replicate (n - 2) (m : Int) ++ List.replicate (m - 2) (n : Int)) ++ [(m : Int) * n]) := rfl
    have hc : cntK 6 [(m : Int), (n : Int)] = (m : Int) ^ (n - 1) * (n : Int) ^ (m - 1) := rfl
    have pm := yhc a (n - 1)
    have pn := yhc b (m - 1)
    refine ⟨fun x hx => ?_, ?_, ?_⟩
    · rw [ho] at hx
      split at hx
      · simp at hx
      · simp only [List.mem_append, List.mem_replicate, List.mem_singleton] at hx
        rcases hx with (⟨_, rfl⟩ | ⟨_, rfl⟩) | rfl
        · omega
        · omega
        · have := Int.mul_le_mul (show (1 : Int) ≤ m by omega) (show (1 : Int) ≤ n by omega) (by decide) (by omega)
          omega
    · rw [ho, hc]
      split
      · rename_i q
        rcases q with q | q
        · have : m = 1 := by omega
          subst this
          simp [ybX, ygq]
        · have : n = 1 := by omega
          subst this
          simp [ybX, ygq]
      · rename_i q
        rw [ycZ, ycZ, yey, yey, ybX, ybX, Int.mul_one]
        obtain ⟨m', rfl⟩ : ∃ m', m = m' + 2 := ⟨m - 2, by omega⟩
        obtain ⟨n', rfl⟩ : ∃ n', n = n' + 2 := ⟨n - 2, by omega⟩
        have e1 : n' + 2 - 2 = n' := by omega
        have e2 : m' + 2 - 2 = m' := by omega
        have e3 : n' + 2 - 1 = n' + 1 := by omega
        have e4 : m' + 2 - 1 = m' + 1 := by omega
        rw [e1, e2, e3, e4, Int.pow_succ, Int.pow_succ]
        generalize ((m' + 2 : Nat) : Int) ^ n' = A
        generalize ((n' + 2 : Nat) : Int) ^ m' = B
        generalize ((m' + 2 : Nat) : Int) = C
        generalize ((n' + 2 : Nat) : Int) = D
        rw [Int.mul_assoc, Int.mul_assoc, Int.mul_left_comm B C D]
    · rw [hc]
      have h1 := yeW (a := m) (b := 12) (n := n - 1) (m := n - 1) (by omega) (by omega) (by omega)
      have h2 := yeW (a := n) (b := 12) (n := m - 1) (m := m - 1) (by omega) (by omega) (by omega)
      have h3 := Int.mul_le_mul h1 h2 (by omega) (by omega)
      rw [← Int.natCast_mul, ← Nat.pow_add] at h3
      have h4 : 12 ^ (n - 1 + (m - 1)) ≤ 12 ^ 10 := Nat.pow_le_pow_right (by omega) (by omega)
      have h5 : ((12 ^ (n - 1 + (m - 1)) : Nat) : Int) ≤ ((12 ^ 10 : Nat) : Int) := Int.ofNat_le.2 h4
      have h6 : ((12 ^ 10 : Nat) : Int) ≤ 100000000000 := by decide
      omega
  · exact ⟨fun x hx => absurd hx (by simp [ordK]), rfl, by show (1 : Int) ≤ 100000000000; decide⟩
  · have hg := gcdK_pos (b := y) (c := z) a
    have m1 := yci (a := x) (b := y) (by omega) (by omega)
    have m2 := yci (a := x) (b := z) (by omega) (by omega)
    have m3 := yci (a := y) (b := z) (by omega) (by omega)
    have m4 := Int.mul_le_mul (show (1 : Int) ≤ x by omega) (show (1 : Int) ≤ y by omega) (by decide) (by omega)
    have ht : totK [(x : Int), (y : Int), (z : Int)] = (x : Int) * y + x * z + y * z := rfl
    have hgk : gcdK [(x : Int), (y : Int), (z : Int)] = Nat.gcd (Nat.gcd x y) z := rfl
    have ho : ordK 8 [(x : Int), (y : Int), (z : Int)] = [(gcdK [(x : Int), (y : Int), (z : Int)] : Int), totK [(x : Int), (y : Int), (z : Int)] / (gcdK [(x : Int), (y : Int), (z : Int)] : Int)] := rfl
    have hd : ((Nat.gcd (Nat.gcd x y) z : Nat) : Int) ∣ (x : Int) * y + x * z + y * z := by
      have dx : ((Nat.gcd (Nat.gcd x y) z : Nat) : Int) ∣ (x : Int) := Int.natCast_dvd_natCast.2 (Nat.dvd_trans (Nat.gcd_dvd_left _ _) (Nat.gcd_dvd_left _ _))
      have dy : ((Nat.gcd (Nat.gcd x y) z : Nat) : Int) ∣ (y : Int) := Int.natCast_dvd_natCast.2 (Nat.dvd_trans (Nat.gcd_dvd_left _ _) (Nat.gcd_dvd_right _ _))
      exact Int.dvd_add (Int.dvd_add (Int.dvd_trans dx (Int.dvd_mul_right _ _)) (Int.dvd_trans dx (Int.dvd_mul_right _ _))) (Int.dvd_trans dy (Int.dvd_mul_right _ _))
    have hm := Int.mul_ediv_cancel' hd
    have hq : 1 ≤ ((x : Int) * y + x * z + y * z) / ((Nat.gcd (Nat.gcd x y) z : Nat) : Int) := by
      rcases Int.lt_or_le 0 (((x : Int) * y + x * z + y * z) / ((Nat.gcd (Nat.gcd x y) z : Nat) : Int)) with q | q
      · omega
      · have h0 : 0 ≤ ((x : Int) * y + x * z + y * z) / ((Nat.gcd (Nat.gcd x y) z : Nat) : Int) := Int.ediv_nonneg (by omega) (by omega)
        have h0 : ((x : Int) * y + x * z + y * z) / ((Nat.gcd (Nat.gcd x y) z : Nat) : Int) = 0 := by omega
        rw [h0] at hm
        omega
    refine ⟨fun w hw => ?_, ?_, ?_⟩
    · rw [ho, ht, hgk] at hw
      simp only [List.mem_cons, List.not_mem_nil, or_false] at hw
      rcases hw with rfl | rfl
      · omega
      · exact hq
    · rw [ho, ht, hgk, ybX, ybX, ybX, Int.mul_one, hm]; rfl
    · show totK [(x : Int), (y : Int), (z : Int)] ≤ _
      rw [ht]; omega
theorem cycK_two {kind : Int} {l : List Int} (h : Right kind l) : ∀ x ∈ cycK kind l, 2 ≤ x := fun x hx => by
  unfold cycK at hx
  rw [List.mem_filter] at hx
  have h1 := (ordOk h).one x hx.1
  have h2 : x ≠ 1 := by simpa using hx.2
  omega
theorem prod_cyc {kind : Int} {l : List Int} (h : Right kind l) : ybX (cycK kind l) = cntK kind l := by
  unfold cycK; rw [yew]; exact (ordOk h).prod
theorem cycK_len {kind : Int} {l : List Int} (h : Right kind l) : (cycK kind l).length ≤ 100 := Nat.le_trans (List.length_filter_le _ _) (ordK_len h)
theorem take_gi {L : List Int} {k : Nat} (h : k < L.length) : L.take (k + 1) = L.take k ++ [gi L k] := by rw [List.take_add_one, List.getElem?_eq_getElem h, ybz h]; rfl
theorem ygP {kind : Int} {l : List Int} {R : Int → Int → Prop} (hll : l.length ≤ 1000000) (he : errK kind l ≠ 0 → R 0 (errK kind l)) (h7 : Right kind l → kind = 7 → R 0 15) (h : Right kind l → kind ≠ 7 → R (cntK kind l) 0) : ybU kind l R := by
  refine yel hll (fun q => ⟨fun q2 => absurd q2 q, fun _ => he q⟩) (fun hr q => ⟨fun q2 => absurd q2 (by decide), fun _ => h7 hr q⟩) fun hr q => ⟨fun _ => ?_, fun q2 => absurd rfl q2⟩
  have h := h hr q
  have h2 := cycK_two hr
  have hp := prod_cyc hr
  have hlen := cycK_len hr
  have hf := (ordOk hr).few
  rw [← hp] at h hf
  refine ⟨fun m out v => Cnt (cycK kind l).length (fun k => out = ybX ((cycK kind l).take k)) m v, Cnt.start rfl, ?_⟩
  rintro m out _ ⟨k, rfl, rfl, hk, rfl⟩
  simp only [Int.toNat_natCast]
  refine ⟨fun hlt => ?_, fun hge => ?_⟩
  · have hkl : k < (cycK kind l).length := by omega
    have e : ybX ((cycK kind l).take k) * gi (cycK kind l) k = ybX ((cycK kind l).take (k + 1)) := by rw [take_gi hkl, ycZ, ybX, ybX, Int.mul_one]
    have hb := prodF_take (l := cycK kind l) (fun x hx => by have := h2 x hx; omega) (k + 1)
    rw [e]
    exact ⟨⟨by omega, by omega⟩, ⟨by omega, by omega⟩, Cnt.next hkl (by omega) rfl⟩
  · have e : k = (cycK kind l).length := by omega
    rw [e, List.take_length]; exact h
end Go.Proofs.Ytdbpajnjhgocoaa

/- The laws on families of graphs. -/
namespace Go.Proofs.Ytdbpajnjhgocoaa
open Go Go.RowKit Go.Shelf Go.Proofs.Try
set_option linter.unusedVariables false
set_option linter.unusedSimpArgs false
theorem yeN {a b : List (Int × Int)} {R : Bool → Prop} (hl : a.length ≤ 1000000000) (e : a = b) (h : R true) : ycg a b R := by
  subst e
  refine ⟨fun _ => ⟨Cnt a.length fun _ => True, Cnt.start trivial, ?_⟩, fun q => absurd rfl q⟩
  rintro m _ ⟨k, rfl, rfl, hk, -⟩
  exact ⟨fun hlt => ⟨⟨by omega, by omega⟩, ⟨by omega, by omega⟩, fun _ => Cnt.next (by omega) (by omega) trivial, fun q => absurd rfl q⟩, fun _ => h⟩
theorem mk_ok {kind : Int} {l : List Int} (hll : l.length ≤ 1000000) (h0 : errK kind l = 0) {R : Int → List E3 → Int → Prop} (h : R (vrtK kind l) (gK kind l) 0) : ybl kind l R :=
  ydR hll (fun q => absurd h0 q) fun _ => h
theorem tr_ok {kind : Int} {l : List Int} (hll : l.length ≤ 1000000) (h0 : errK kind l = 0) (h7 : kind ≠ 7) {R : Int → Int → Prop} (h : R (cntK kind l) 0) : ybU kind l R :=
  ygP hll (fun q => absurd h0 q) (fun _ q => absurd q h7) fun _ _ => h
theorem cy_ok {kind : Int} {l : List Int} (hll : l.length ≤ 1000000) (h0 : errK kind l = 0) (h7 : kind ≠ 7) {R : List Int → Int → Prop} (h : R (cycK kind l) 0) : yba kind l R :=
  yel hll (fun q => absurd h0 q) (fun _ q => absurd q h7) fun _ _ => h
theorem ge_ok {kind : Int} {l : List Int} (hll : l.length ≤ 1000000) (h0 : errK kind l = 0) {R : Int → Int → Prop} (h : R (genK kind l) 0) : ycf kind l R :=
  ygW hll (fun q => absurd h0 q) fun _ => h
theorem yeX {R : Bool → Prop} (h : R true) : yc4 R := by
  have w0 : errK 5 [4] = 0 := by decide
  have t0 : errK 8 [2, 2, 4] = 0 := by decide
  have b0 : errK 6 [2, 3] = 0 := by decide
  refine mk_ok (by decide) w0 (tr_ok (by decide) w0 (by decide) (cy_ok (by decide) w0 (by decide) (ge_ok (by decide) w0 (mk_ok (by decide) t0 (cy_ok (by decide) t0 (by decide) (tr_ok (by decide) b0 (by decide) (cy_ok (by decide) b0 (by decide) ?_)))))))
  have E : ((((((((0 : Int) + 0) + 0) + 0) + 0) + 0) + 0) + 0) = 0 := rfl
  refine ⟨True, fun _ => ?_, ⟨by decide, by decide⟩, ⟨by decide, by decide⟩, ⟨by decide, by decide⟩, ⟨by decide, by decide⟩, ⟨by decide, by decide⟩, ⟨by decide, by decide⟩, ⟨by decide, by decide⟩, fun _ => ⟨fun _ => ⟨fun _ => ⟨fun _ => trivial, fun q => absurd (by decide) q⟩, fun q => absurd (by decide) q⟩, fun q => absurd (by decide) q⟩, fun q => absurd rfl q⟩
  have r1 := ye2 w0
  have r2 := ye2 t0
  refine yhe (by have := lenK r1; omega) (multK r1) (yeN (by decide) (by decide) ⟨fun _ => ?_, fun q => absurd rfl q⟩)
  refine ⟨True, fun _ => ?_, fun _ => yhe (by have := lenK r2; omega) (multK r2) (yeN (by decide) (by decide) ⟨fun _ => trivial, fun q => absurd rfl q⟩), fun q => absurd (by decide) q⟩
  refine ycz (by decide) ?_
  rw [decide_eq_true (by decide : cycK 5 [4] = [3, 15])]
  refine ⟨fun _ => ycz (by decide) ?_, fun q => absurd rfl q⟩
  rw [decide_eq_true (by decide : cycK 8 [2, 2, 4] = [2, 10])]
  refine ⟨fun _ => ycz (by decide) ?_, fun q => absurd rfl q⟩
  rw [decide_eq_true (by decide : cycK 6 [2, 3] = [2, 6])]
  exact h
end Go.Proofs.Ytdbpajnjhgocoaa

/- The laws on families that look at few sizes. -/
namespace Go.Proofs.Ytdbpajnjhgocoaa
open Go Go.RowKit Go.Shelf Go.Proofs.Try
set_option linter.unusedVariables false
set_option linter.unusedSimpArgs false
set_option maxRecDepth 100000
theorem small_of {d m : Int} (h : 0 ≤ d ∧ d ≤ 255) {c : Nat} (hc : 1 ≤ c) (hm : m = c) : ∃ k : Nat, k < c ∧ 1 + d.tmod m = ((k + 1 : Nat) : Int) := by
  subst hm
  refine ⟨(d.tmod c).toNat, ?_, ?_⟩
  · rw [Int.tmod_eq_emod_of_nonneg h.1]
    have := Int.emod_lt_of_pos d (show (0 : Int) < c by omega)
    have := Int.emod_nonneg d (show (c : Int) ≠ 0 by omega)
    omega
  · rw [Int.tmod_eq_emod_of_nonneg h.1]
    have := Int.emod_nonneg d (show (c : Int) ≠ 0 by omega)
    omega
theorem swap_fin : ∀ a < 4, ∀ b < 4, ∀ c < 4, errK 8 [((a + 1 : Nat) : Int), ((b + 1 : Nat) : Int), ((c + 1 : Nat) : Int)] = 0 ∧ cntK 8 [((a + 1 : Nat) : Int), ((b + 1 : Nat) : Int), ((c + 1 : Nat) : Int)] = cntK 8 [((c + 1 : Nat) : Int), ((a + 1 : Nat) : Int), ((b + 1 : Nat) : Int)] ∧ cycK 8 [((a + 1 : Nat) : Int), ((b + 1 : Nat) : Int), ((c + 1 : Nat) : Int)] = cycK 8 [((b + 1 : Nat) : Int), ((a + 1 : Nat) : Int), ((c + 1 : Nat) : Int)] := by decide +kernel
theorem swap_fin2 : ∀ a < 4, ∀ b < 4, errK 6 [((a + 1 : Nat) : Int), ((b + 1 : Nat) : Int)] = 0 ∧ cntK 6 [((a + 1 : Nat) : Int), ((b + 1 : Nat) : Int)] = cntK 6 [((b + 1 : Nat) : Int), ((a + 1 : Nat) : Int)] := by decide +kernel
theorem swap_fin3 : ∀ a < 4, (∀ v : Nat, v < 3 → errK 5 [((a + 1 : Nat) : Int) + (v : Int)] = 0 ∧ 0 ≤ cntK 5 [((a + 1 : Nat) : Int) + (v : Int)] ∧ cntK 5 [((a + 1 : Nat) : Int) + (v : Int)] ≤ 1000000) ∧ cntK 5 [((a + 1 : Nat) : Int) + 2] = 3 * cntK 5 [((a + 1 : Nat) : Int) + 1] - cntK 5 [((a + 1 : Nat) : Int) + 0] + 2 := by decide +kernel
theorem p_swaps {d i a : Int} (hd : 0 ≤ d ∧ d ≤ 255) (hi : 0 ≤ i ∧ i ≤ 255) (ha : 0 ≤ a ∧ a ≤ 255) : yh9 d i a fun r => r = true := by
  obtain ⟨x, hx, e1⟩ := small_of hd (c := 4) (m := 4) (by omega) rfl
  obtain ⟨y, hy, e2⟩ := small_of hi (c := 4) (m := 4) (by omega) rfl
  obtain ⟨z, hz, e3⟩ := small_of ha (c := 4) (m := 4) (by omega) rfl
  unfold yh9
  rw [e1, e2, e3]
  refine ⟨⟨by omega, by omega⟩, by decide, ⟨by omega, by omega⟩, ⟨by omega, by omega⟩, ⟨by omega, by omega⟩, ⟨by omega, by omega⟩, ⟨by omega, by omega⟩, ?_⟩
  obtain ⟨a1, a2, a3⟩ := swap_fin x hx y hy z hz
  obtain ⟨b1, _⟩ := swap_fin z hz x hx y hy
  obtain ⟨c1, _⟩ := swap_fin y hy x hx z hz
  obtain ⟨d1, d2⟩ := swap_fin2 x hx y hy
  obtain ⟨f1, _⟩ := swap_fin2 y hy x hx
  obtain ⟨g1, g2⟩ := swap_fin3 x hx
  refine tr_ok (by simp) a1 (by decide) (tr_ok (by simp) b1 (by decide) (cy_ok (by simp) a1 (by decide) (cy_ok (by simp) c1 (by decide) (tr_ok (by simp) d1 (by decide) (tr_ok (by simp) f1 (by decide) ?_)))))
  refine ⟨True, fun _ => ?_, ⟨by decide, by decide⟩, ⟨by decide, by decide⟩, ⟨by decide, by decide⟩, ⟨by decide, by decide⟩, ⟨by decide, by decide⟩, fun _ => ⟨fun _ => ?_, fun q => absurd a2 q⟩, fun q => absurd rfl q⟩
  · refine ⟨fun m v v2 => Cnt 3 (fun k => v2.length = 3 ∧ ∀ j, j < k → gi v2 j = cntK 5 [((x + 1 : Nat) : Int) + (j : Int)]) m v, Cnt.start ⟨rfl, fun j hj => absurd hj (by omega)⟩, ?_⟩
    rintro m _ v2 ⟨k, rfl, rfl, hk, hlen, hI⟩
    simp only [Int.toNat_natCast]
    refine ⟨fun hlt => ⟨⟨by omega, by omega⟩, ?_⟩, fun hge => ?_⟩
    · have hk3 : k < 3 := by omega
      refine tr_ok (by simp) (g1 k hk3).1 (by decide) ⟨⟨by omega, by omega⟩, fun _ => Cnt.next hk3 (by omega) ⟨by simpa using hlen, fun j hj => ?_⟩, fun q => absurd rfl q⟩
      rw [yic (by omega)]
      by_cases q : j = k
      · rw [if_pos q, q]
      · rw [if_neg q]; exact hI j (by omega)
    · have hk3 : k = 3 := by omega
      subst hk3
      have w0 : gi v2 (Int.toNat 0) = cntK 5 [((x + 1 : Nat) : Int) + 0] := hI 0 (by omega)
      have w1 : gi v2 (Int.toNat 1) = cntK 5 [((x + 1 : Nat) : Int) + 1] := hI 1 (by omega)
      have w2 : gi v2 (Int.toNat 2) = cntK 5 [((x + 1 : Nat) : Int) + 2] := hI 2 (by omega)
      have q0 := (g1 0 (by omega)).2
      have q1 := (g1 1 (by omega)).2
      have q0 : 0 ≤ cntK 5 [((x + 1 : Nat) : Int) + 0] ∧ cntK 5 [((x + 1 : Nat) : Int) + 0] ≤ 1000000 := q0
      have q1 : 0 ≤ cntK 5 [((x + 1 : Nat) : Int) + 1] ∧ cntK 5 [((x + 1 : Nat) : Int) + 1] ≤ 1000000 := q1
      rw [w0, w1, w2]
      exact ⟨by decide, by decide, ⟨by omega, by omega⟩, by decide, ⟨by omega, by omega⟩, ⟨by omega, by omega⟩, fun _ => yeX rfl, fun q => absurd g2 q⟩
  · refine ycz (by have := cycK_len (ye2 a1); omega) ?_
    rw [decide_eq_true a3]
    exact ⟨fun _ => ⟨fun _ => trivial, fun q => absurd d2 q⟩, fun q => absurd rfl q⟩
end Go.Proofs.Ytdbpajnjhgocoaa
