/- Texts laid together: Co, Cp, Cq, Cs, Ct. -/
import Derived.Test.YtinoedockljfeaaK5
/- What the functions of layer 12 (contract) come to: ends, lists laid together, vertices that move, graphs that are made. -/
namespace Go.Proofs.Ytinoedockljfeaa
open Go Go.RowKit Go.Shelf Go.Proofs.Try
set_option linter.unusedVariables false
set_option linter.unusedSimpArgs false
theorem sF_ends : ∀ es : List E3, sF es = (yaI es).map fun e => (e.1, e.2, 1)
  | [] => rfl
  | x :: t => by
    have e : yaI (x :: t) = List.replicate x.2.2.toNat (x.1, x.2.1) ++ yaI t := by unfold yaI; rw [List.flatMap_cons]
    rw [sF, sF_ends t, e, List.map_append, List.map_replicate]
theorem yds {n : Int} {es : List E3} {R : List (Int × Int) → Int → Prop} (hl : es.length ≤ 100) (he : yaZ n es ≠ 0 → R [] (yaZ n es)) (h : yaZ n es = 0 → R (yaI es) 0) : ybI n es R := by
  unfold ybI
  refine p_graph_Check (by omega) ⟨fun q => ?_, fun q => he q⟩
  have hn : (1 : Int) ≤ n ∧ n ≤ 12 := by
    unfold yaZ at q; split at q
    · assumption
    · cases q
  obtain ⟨n, rfl⟩ : ∃ k : Nat, n = k := ⟨n.toNat, by omega⟩
  obtain ⟨hE, hn1, hn12⟩ := yfb q
  show ∃ Pr Rr : List (Int × Int × Int) → Prop, _
  refine ⟨_, _, yem hE (by omega), fun pre out => out = pre.map fun y => (y.2.1, y.2.2), rfl, ?_, ?_⟩
  · rintro pre e a b out rfl hPr
    have hPr : (pre ++ [(e, a, b)]).map gmap <+: sF es := hPr
    have h2 := hPr.length_le
    have h3 := sF_few hE
    rw [List.length_map, List.length_append] at h2
    simp only [List.length_singleton] at h2
    refine ⟨by rw [List.length_map]; omega, ?_⟩
    show _ = List.map _ _
    rw [List.map_append]; rfl
  · rintro ys out rfl hR
    have hR : ys.map gmap = sF es := hR
    have e : ys.map (fun y => (y.2.1, y.2.2)) = yaI es := by
      have h2 : (ys.map gmap).map (fun y : E3 => (y.1, y.2.1)) = (sF es).map fun y => (y.1, y.2.1) := by rw [hR]
      rw [sF_ends, List.map_map, List.map_map] at h2
      have e1 : ((fun y : E3 => (y.1, y.2.1)) ∘ gmap) = fun y : Int × Int × Int => (y.2.1, y.2.2) := rfl
      have e2 : ((fun y : E3 => (y.1, y.2.1)) ∘ fun e : Int × Int => (e.1, e.2, 1)) = id := rfl
      rw [e1, e2, List.map_id] at h2
      exact h2
    rw [e]; exact h q
structure GrOk (n : Nat) (es : List E3) (E : List (Int × Int)) : Prop where
  g : yaZ n es = 0
  e : yaI es = E
  one : 1 ≤ n
  few : n ≤ 12
  ok : yc4 n E
  len : E.length ≤ 50 * es.length
theorem yga {n : Int} {es : List E3} (q : yaZ n es = 0) : ∃ k : Nat, n = k ∧ GrOk k es (yaI es) := by
  have hn : (1 : Int) ≤ n ∧ n ≤ 12 := by
    unfold yaZ at q; split at q
    · assumption
    · cases q
  obtain ⟨n, rfl⟩ : ∃ k : Nat, n = k := ⟨n.toNat, by omega⟩
  obtain ⟨hE, hn1, hn12⟩ := yfb q
  refine ⟨n, rfl, q, rfl, hn1, hn12, fun e he => ?_, ?_⟩
  · unfold yaI at he
    obtain ⟨x, hx, hr⟩ := List.mem_flatMap.1 he
    rw [(List.mem_replicate.1 hr).2]
    have := hE x hx
    simp only; omega
  · exact (yc2 es fun x hx => by have := hE x hx; omega).2
theorem GrOk.mult {n : Nat} {es : List E3} {E : List (Int × Int)} (h : GrOk n es E) : ∀ x ∈ es, 1 ≤ x.2.2 ∧ x.2.2 ≤ 50 := fun x hx => by
  obtain ⟨hE, _, _⟩ := yfb h.g
  have := hE x hx; omega
theorem GrOk.size {n : Nat} {es : List E3} {E : List (Int × Int)} (h : GrOk n es E) : (es.map (·.2.2)).sum = (E.length : Int) := by
  rw [← h.e]; exact (yc2 es h.mult).1.symm
theorem p_ends8 {n : Nat} {es : List E3} {E : List (Int × Int)} (h : GrOk n es E) (hl : es.length ≤ 100) {R : List (Int × Int) → Prop} (hR : R E) : ybW n es R :=
  p_r08_Ends (by omega) h.mult (by rw [h.e]; exact hR)
theorem p_size8 {n : Nat} {es : List E3} {E : List (Int × Int)} (h : GrOk n es E) (hl : es.length ≤ 100) {R : Int → Prop} (hR : R (E.length : Int)) : ycj n es R :=
  p_r08_Size (by omega) h.mult (by rw [h.size]; exact hR)
theorem gchk_le {n : Int} : ∀ (es : List E3) (a b : Int), gchk n a b es = 0 → ∀ x ∈ es, x.1 ≤ x.2.1
  | [], _, _, _, x, hx => by simp at hx
  | y :: t, a, b, h, x, hx => by
    rw [gchk] at h
    split at h
    · split at h
      · rename_i h2
        rcases List.mem_cons.1 hx with rfl | hx
        · exact h2.1
        · exact gchk_le t _ _ h x hx
      · cases h
    · cases h
theorem GrOk.le {n : Nat} {es : List E3} {E : List (Int × Int)} (h : GrOk n es E) : ∀ e ∈ E, e.1 ≤ e.2 := fun e he => by
  rw [← h.e] at he
  unfold yaI at he
  obtain ⟨x, hx, hr⟩ := List.mem_flatMap.1 he
  rw [(List.mem_replicate.1 hr).2]
  exact gchk_le es _ _ (ydX h.g) x hx
def sglF (n : Int) (es : List E3) (e : Int) : Int := if yaZ n es ≠ 0 then yaZ n es else if e < 0 ∨ ((yaI es).length : Int) ≤ e then 2 else 0
theorem ydb {n : Int} {es : List E3} {e : Int} (h : sglF n es e = 0) : yaZ n es = 0 ∧ 0 ≤ e ∧ e < ((yaI es).length : Int) := by
  unfold sglF at h
  split at h
  · rename_i q; exact absurd h q
  · rename_i q
    split at h
    · cases h
    · exact ⟨Classical.byContradiction q, by omega, by omega⟩
theorem ybX {n : Int} {es : List E3} {e : Int} {R : List (Int × Int) → Int → Prop} (hl : es.length ≤ 100) (he : sglF n es e ≠ 0 → R [] (sglF n es e)) (h : sglF n es e = 0 → R (yaI es) 0) : ya9 n es e R := by
  refine yds hl (fun q => ⟨fun q2 => absurd q2 q, fun _ => ?_⟩) fun q => ⟨fun _ => ⟨fun q2 => ?_, fun q2 => ⟨fun q3 => ?_, fun q3 => ?_⟩⟩, fun q2 => absurd rfl q2⟩
  · have e1 : sglF n es e = yaZ n es := by unfold sglF; rw [if_pos q]
    rw [e1] at he; exact he q
  · have e1 : sglF n es e = 2 := by unfold sglF; rw [if_neg (fun z => z q), if_pos (.inl q2)]
    rw [e1] at he; exact he (by decide)
  · have e1 : sglF n es e = 2 := by unfold sglF; rw [if_neg (fun z => z q), if_pos (.inr q3)]
    rw [e1] at he; exact he (by decide)
  · exact h (by unfold sglF; rw [if_neg (fun z => z q), if_neg (by omega)])
theorem p_grow2 {n : Int} (hn : 0 ≤ n ∧ n ≤ 1000000) {R : List (Int × Int) → Prop} (h : R []) : ybd n R := by
  refine ⟨True, fun _ => ⟨⟨by decide, by decide⟩, ⟨by omega, by omega⟩, fun q => ⟨⟨by decide, by decide⟩, ⟨by omega, ?_⟩, ⟨by decide, Int.natCast_nonneg _⟩, ?_⟩, fun _ => h⟩, fun q => by omega, fun _ => trivial⟩
  · simp only [List.length_nil]; omega
  · have e : ((0 : Nat) : Int).toNat = 0 := rfl
    rw [e, List.take_zero]; exact h
theorem p_growD {n : Int} (hn : 0 ≤ n ∧ n ≤ 1000000) {R : List Int → Prop} (h : R []) : yff n R := by
  refine ⟨True, fun _ => ⟨⟨by decide, by decide⟩, ⟨by omega, by omega⟩, fun q => ⟨⟨by decide, by decide⟩, ⟨by omega, ?_⟩, ⟨by decide, Int.natCast_nonneg _⟩, ?_⟩, fun _ => h⟩, fun q => by omega, fun _ => trivial⟩
  · simp only [List.length_nil]; omega
  · have e : ((0 : Nat) : Int).toNat = 0 := rfl
    rw [e, List.take_zero]; exact h
theorem p_concat2 {x y : List (Int × Int)} (hx : x.length ≤ 100000) (hy : y.length ≤ 100000) {R : List (Int × Int) → Prop} (h : R (x ++ y)) : ya2 [x, y] R := by
  have g0 : gx [x, y] 0 = x := rfl
  have g1 : gx [x, y] 1 = y := rfl
  refine ⟨fun m s v => Cnt 2 (fun k => s = if k = 0 then 0 else if k = 1 then (x.length : Int) else (x.length : Int) + y.length) m v, Cnt.start rfl, ?_⟩
  rintro m s _ ⟨k, rfl, rfl, hk, hs⟩
  simp only [Int.toNat_natCast]
  refine ⟨fun hlt => ?_, fun hge => ?_⟩
  · have hk2 : k < 2 := by have : ([x, y].length : Nat) = 2 := rfl; omega
    have hb : (gx [x, y] k).length ≤ 100000 := by rcases (show k = 0 ∨ k = 1 by omega) with rfl | rfl <;> assumption
    have hsb : 0 ≤ s ∧ s ≤ 300000 := by rw [hs]; split <;> (try split) <;> omega
    refine ⟨⟨by omega, hlt⟩, ⟨by omega, by omega⟩, fun q => by omega, fun _ => Cnt.next hk2 (by omega) ?_⟩
    rcases (show k = 0 ∨ k = 1 by omega) with rfl | rfl
    · rw [hs, g0]; simp
    · rw [hs, g1]; simp
  · have hk2 : k = 2 := by have : ([x, y].length : Nat) = 2 := rfl; omega
    subst hk2
    have hs : s = (x.length : Int) + y.length := hs
    refine p_grow2 (by omega) ⟨fun m nl v => Cnt 2 (fun k => nl = if k = 0 then [] else if k = 1 then x else x ++ y) m v, Cnt.start rfl, ?_⟩
    rintro m nl _ ⟨k, rfl, rfl, hk, hs2⟩
    simp only [Int.toNat_natCast]
    refine ⟨fun hlt => ?_, fun hge => ?_⟩
    · have hk2 : k < 2 := by have : ([x, y].length : Nat) = 2 := rfl; omega
      refine ⟨⟨by omega, hlt⟩, ?_, Cnt.next hk2 (by omega) ?_⟩
      · rcases (show k = 0 ∨ k = 1 by omega) with rfl | rfl
        · rw [hs2, g0]; simp; omega
        · rw [hs2, g1]; simp; omega
      · rcases (show k = 0 ∨ k = 1 by omega) with rfl | rfl
        · rw [hs2, g0]; simp
        · rw [hs2, g1]; simp
    · have hk2 : k = 2 := by have : ([x, y].length : Nat) = 2 := rfl; omega
      subst hk2
      rw [hs2]; exact h
theorem p_concatD {x y : List Int} (hx : x.length ≤ 100000) (hy : y.length ≤ 100000) {R : List Int → Prop} (h : R (x ++ y)) : yfg [x, y] R := by
  have g0 : gx [x, y] 0 = x := rfl
  have g1 : gx [x, y] 1 = y := rfl
  refine ⟨fun m s v => Cnt 2 (fun k => s = if k = 0 then 0 else if k = 1 then (x.length : Int) else (x.length : Int) + y.length) m v, Cnt.start rfl, ?_⟩
  rintro m s _ ⟨k, rfl, rfl, hk, hs⟩
  simp only [Int.toNat_natCast]
  refine ⟨fun hlt => ?_, fun hge => ?_⟩
  · have hk2 : k < 2 := by have : ([x, y].length : Nat) = 2 := rfl; omega
    have hb : (gx [x, y] k).length ≤ 100000 := by rcases (show k = 0 ∨ k = 1 by omega) with rfl | rfl <;> assumption
    have hsb : 0 ≤ s ∧ s ≤ 300000 := by rw [hs]; split <;> (try split) <;> omega
    refine ⟨⟨by omega, hlt⟩, ⟨by omega, by omega⟩, fun q => by omega, fun _ => Cnt.next hk2 (by omega) ?_⟩
    rcases (show k = 0 ∨ k = 1 by omega) with rfl | rfl
    · rw [hs, g0]; simp
    · rw [hs, g1]; simp
  · have hk2 : k = 2 := by have : ([x, y].length : Nat) = 2 := rfl; omega
    subst hk2
    have hs : s = (x.length : Int) + y.length := hs
    refine p_growD (by omega) ⟨fun m nl v => Cnt 2 (fun k => nl = if k = 0 then [] else if k = 1 then x else x ++ y) m v, Cnt.start rfl, ?_⟩
    rintro m nl _ ⟨k, rfl, rfl, hk, hs2⟩
    simp only [Int.toNat_natCast]
    refine ⟨fun hlt => ?_, fun hge => ?_⟩
    · have hk2 : k < 2 := by have : ([x, y].length : Nat) = 2 := rfl; omega
      refine ⟨⟨by omega, hlt⟩, ?_, Cnt.next hk2 (by omega) ?_⟩
      · rcases (show k = 0 ∨ k = 1 by omega) with rfl | rfl
        · rw [hs2, g0]; simp; omega
        · rw [hs2, g1]; simp; omega
      · rcases (show k = 0 ∨ k = 1 by omega) with rfl | rfl
        · rw [hs2, g0]; simp
        · rw [hs2, g1]; simp
    · have hk2 : k = 2 := by have : ([x, y].length : Nat) = 2 := rfl; omega
      subst hk2
      rw [hs2]; exact h
def mvF (a b v : Int) : Int := if a = b ∨ v < b then v else if v = b then a else v - 1
theorem ycV {v a b : Int} (hv : -1000 ≤ v ∧ v ≤ 1000) {R : Int → Prop} (h : R (mvF a b v)) : yaD v a b R := by
  unfold mvF at h
  refine ⟨fun q => ?_, fun q => ⟨fun q2 => ?_, fun q2 => ⟨fun q3 => ?_, fun q3 => ⟨⟨by omega, by omega⟩, ?_⟩⟩⟩⟩
  · rw [if_pos (.inl q)] at h; exact h
  · rw [if_pos (.inr q2)] at h; exact h
  · rw [if_neg (by omega), if_pos q3] at h; exact h
  · rw [if_neg (by omega), if_neg q3] at h; exact h
def sndF (f : Int → Int) (e : Int × Int) : Int × Int := (mnF (f e.1) (f e.2), mxF (f e.1) (f e.2))
theorem ydx {E : List (Int × Int)} {F : Int → (Int → Prop) → Prop} {f : Int → Int} (hl : E.length ≤ 100000) (hF : ∀ e ∈ E, ∀ R' : Int → Prop, (R' (f e.1) → F e.1 R') ∧ (R' (f e.2) → F e.2 R')) {R : List (Int × Int) → Prop} (h : R (E.map (sndF f))) : ybm E F R := by
  refine ⟨fun m out v => Cnt E.length (fun k => out = (E.take k).map (sndF f)) m v, Cnt.start rfl, ?_⟩
  rintro m out _ ⟨k, rfl, rfl, hk, rfl⟩
  simp only [Int.toNat_natCast]
  refine ⟨fun hlt => ?_, fun hge => ?_⟩
  · have hkl : k < E.length := by omega
    have hm : gx E k ∈ E := by rw [ybx hkl]; exact List.getElem_mem hkl
    refine ⟨⟨by omega, hlt⟩, by decide, by decide, (hF _ hm _).1 ((hF _ hm _).2 ⟨by rw [List.length_map, List.length_take]; omega, Cnt.next hkl (by omega) ?_⟩)⟩
    rw [List.take_add_one, List.getElem?_eq_getElem hkl, ybx hkl, List.map_append]
    rfl
  · have e : k = E.length := by omega
    rw [e, List.take_length]; exact h
def plcF (n : Nat) (a b : Int) : List Int := (List.range n).map fun v : Nat => mvF a b v
theorem ydE (n : Nat) (a b : Int) : (plcF n a b).length = n := by simp [plcF]
theorem gi_plcF {n k : Nat} (a b : Int) (h : k < n) : gi (plcF n a b) k = mvF a b k := by
  rw [ybl (by rw [ydE]; exact h)]; simp [plcF]
theorem plcF_snoc (n : Nat) (a b : Int) : plcF (n + 1) a b = plcF n a b ++ [mvF a b n] := by simp [plcF, List.range_succ]
theorem ydg {n : Nat} {a b : Int} (hn : n ≤ 12) {R : List Int → Prop} (h : R (plcF n a b)) : ybz n (fun x R => yaD x a b R) R := by
  refine ⟨fun m out v => Cnt n (fun k => out = plcF k a b) m v, Cnt.start rfl, ?_⟩
  rintro m out _ ⟨k, rfl, rfl, hk, rfl⟩
  refine ⟨fun hlt => ycV (by omega) ⟨by rw [ydE]; omega, Cnt.next (by omega) (by omega) (plcF_snoc k a b).symm⟩, fun hge => ?_⟩
  have e : k = n := by omega
  rw [e]; exact h
def Many (l : List (Int × Int)) : Prop := ∃ a b : Int, 50 < cntE l a b
theorem many_ends {d : Nat} {l : List (Int × Int)} (hl : yc4 d l) (h : Many l) : ∃ a b : Nat, a ≤ b ∧ b < d ∧ 50 < cntE l a b := by
  obtain ⟨a, b, h⟩ := h
  unfold cntE at h
  have h2 : 0 < l.countP (isE a b) := by omega
  obtain ⟨e, he, hp⟩ := List.countP_pos_iff.1 h2
  have hp : mnF e.1 e.2 = a ∧ mxF e.1 e.2 = b := of_decide_eq_true hp
  obtain ⟨a', b', h3, h4, h5, h6⟩ := mn_nat (hl e he)
  refine ⟨a', b', h5, h6, ?_⟩
  unfold cntE
  rw [← h3, ← h4, hp.1, hp.2]; exact h
theorem not_many {l : List (Int × Int)} (h : ¬ Many l) : ∀ a b, cntE l a b ≤ 50 := fun a b => Classical.byContradiction fun q => h ⟨a, b, by omega⟩
theorem ygk {d : Nat} (h1 : 1 ≤ d) (hd : d ≤ 12) {l : List (Int × Int)} (hl : yc4 d l) (hn : l.length ≤ 4096) {R : Int → List E3 → Int → Prop} (hm : Many l → R 0 [] 5) (h : ¬ Many l → R d (made d l) 0) : yfq d l R := by
  by_cases q : Many l
  case neg => exact p_r08_Make h1 hd hl hn (not_many q) (h q)
  have hm := hm q
  obtain ⟨a0, b0, h3, h4, h5⟩ := many_ends hl q
  refine ⟨True, fun _ => ⟨fun q => by omega, fun _ => ⟨by omega, ?_⟩⟩, fun q => by omega, fun _ => ⟨fun q => by omega, fun _ => trivial⟩⟩
  refine ⟨fun m v T => ∃ k : Nat, v = k ∧ k + m = l.length ∧ T = tabE d (l.take k), ⟨l.length, 0, rfl, by omega, by simp [tabE_nil]⟩, ?_⟩
  rintro m v T ⟨k, rfl, hk, rfl⟩
  refine ⟨fun hlt => ?_, fun hge => ?_⟩
  · have hkl : k < l.length := by omega
    rw [Int.toNat_natCast]
    have hx := hl (gx l k) (by rw [ybx hkl]; exact List.getElem_mem hkl)
    have htk : l.take (k + 1) = l.take k ++ [gx l k] := by rw [List.take_add_one, List.getElem?_eq_getElem hkl, ybx hkl]; rfl
    generalize gx l k = e at hx htk ⊢
    obtain ⟨a, b, ha, hb, hab, hbd⟩ := mn_nat hx
    have had : a < d := by omega
    refine ⟨by omega, by decide, by decide, True, fun _ => ?_, fun q => by omega, fun _ => ⟨fun q => by omega, fun _ => ⟨fun q => by omega, fun _ => ⟨fun q => by omega, fun _ => trivial⟩⟩⟩⟩
    rw [ha, hb, Int.toNat_natCast, Int.toNat_natCast, yfv, yfn had, yfs, yfr hbd]
    have hc1 := yfG (l.take k) a b
    have hc2 := yfJ (l.take k) a b
    have hc3 : (l.take k).length ≤ 4096 := by rw [List.length_take]; omega
    refine ⟨⟨by omega, by omega⟩, ⟨by omega, by omega⟩, ⟨by omega, by omega⟩, ⟨by omega, by omega⟩, m - 1, by omega, k + 1, by omega, by omega, ?_⟩
    have := tabE_set (l := l.take k) had hbd ha hb
    rw [yfn had, yfr hbd] at this
    rw [htk]
    exact this
  · have hk2 : l.take k = l := List.take_of_length_le (by omega)
    rw [hk2]
    refine ⟨fun m v => ∃ k : Nat, v = k ∧ k + m = d ∧ k ≤ a0, ⟨d, 0, rfl, by omega, by omega⟩, ?_⟩
    rintro m v ⟨a, rfl, ha, hak⟩
    refine ⟨fun hlt => ?_, fun _ => by omega⟩
    refine ⟨fun m v => ∃ k : Nat, v = k ∧ k + m = d ∧ (a = a0 → k ≤ b0), ⟨d, 0, rfl, by omega, by omega⟩, ?_⟩
    rintro m' v ⟨b, rfl, hb, hbk⟩
    refine ⟨fun hlt2 => ?_, fun _ => ⟨⟨by omega, by omega⟩, m - 1, by omega, a + 1, by omega, by omega, by omega⟩⟩
    rw [Int.toNat_natCast, Int.toNat_natCast, yfv, yfn (by omega), yfs, yfr (by omega)]
    refine ⟨⟨by omega, by omega⟩, ⟨by omega, by omega⟩, fun _ => hm, fun q9 => ⟨⟨by omega, by omega⟩, m' - 1, by omega, b + 1, by omega, by omega, fun ea => ?_⟩⟩
    have hne : b ≠ b0 := by
      rintro rfl
      rw [ea] at q9; omega
    have := hbk ea
    omega
theorem yeg {d : Nat} (h1 : 1 ≤ d) (hd : d ≤ 12) {l : List (Int × Int)} (hl : yc4 d l) (hn : l.length ≤ 4096) {R : Int → List E3 → Int → Prop} (hm : Many l → R 0 [] 5) (h : ¬ Many l → R d (made d l) 0) : ybB d l R := by
  by_cases q : Many l
  case neg => exact p_graph_Make h1 hd hl hn (not_many q) (h q)
  have hm := hm q
  obtain ⟨a0, b0, h3, h4, h5⟩ := many_ends hl q
  refine ⟨True, fun _ => ⟨fun q => by omega, fun _ => ?_⟩, fun q => by omega, fun _ => ⟨fun q => by omega, fun _ => trivial⟩⟩
  refine ⟨fun m v M => ∃ k : Nat, v = k ∧ k + m = l.length ∧ BagOk d (l.take k) M, ⟨l.length, 0, rfl, by omega, BagOk.nil d⟩, ?_⟩
  rintro m v M ⟨k, rfl, hk, hM⟩
  refine ⟨fun hlt => ?_, fun hge => ?_⟩
  · have hkl : k < l.length := by omega
    rw [Int.toNat_natCast]
    have hx := hl (gx l k) (by rw [ybx hkl]; exact List.getElem_mem hkl)
    have htk : l.take (k + 1) = l.take k ++ [gx l k] := by rw [List.take_add_one, List.getElem?_eq_getElem hkl, ybx hkl]; rfl
    generalize gx l k = e at hx htk ⊢
    obtain ⟨a, b, ha, hb, hab, hbd⟩ := mn_nat hx
    have hg : (mget M [(a : Int), (b : Int)]).getD 0 = cntE (l.take k) a b := hM.get a b
    have hput := hM.put hd hab hbd ha hb
    have hc1 := yfG (l.take k) a b
    have hc2 := yfJ (l.take k) a b
    have hc3 : (l.take k).length ≤ 4096 := by rw [List.length_take]; omega
    have hK := keyOk2 hd hab hbd
    have hin : In64 (cntE (l.take k) a b + 1) := ⟨by omega, by omega⟩
    refine ⟨by omega, True, fun _ => ?_, by decide, ?_⟩
    · refine ⟨fun M' => M' = mput M [(a : Int), (b : Int)] (cntE (l.take k) a b + 1), fun M' hM' => ?_, by decide, by decide, ?_⟩
      · subst hM'
        exact ⟨⟨by omega, by omega⟩, m - 1, by omega, k + 1, by omega, by omega, by rw [htk]; exact hput⟩
      · unfold ybU
        rw [ha, hb]
        refine ⟨⟨hM.key, hK, by rw [hg]; exact hin, by rw [hg]⟩, hM.key, hK, hM.key.put hK _, ?_, ?_⟩
        · rw [ydG, if_pos rfl, Option.getD_some, hg]; exact hin
        · show _ = _
          rw [ydG, if_pos rfl, Option.getD_some, hg]
    · unfold ya4
      obtain ⟨⟨x1, x2⟩, x3, x4⟩ := hx
      exact ⟨fun _ => ⟨fun _ => ⟨by decide, fun _ => ⟨fun _ => trivial, fun q => absurd (decide_eq_true x4) q⟩, fun q => absurd x3 q⟩, fun q => absurd (decide_eq_true x2) q⟩, fun q => absurd x1 q⟩
  · have hk2 : l.take k = l := List.take_of_length_le (by omega)
    rw [hk2] at hM
    have hin : ∃ (j : Nat) (p : List Int × Int), M[j]? = some p ∧ p.2 = cntE l a0 b0 := by
      have hg := hM.get a0 b0
      cases hq : mget M [(a0 : Int), (b0 : Int)] with
      | none => rw [hq] at hg; simp at hg; omega
      | some v =>
        rw [hq] at hg
        have hg : v = cntE l a0 b0 := hg
        obtain ⟨j, hj⟩ := List.getElem?_of_mem (mget_mem hq)
        exact ⟨j, _, hj, hg⟩
    obtain ⟨j0, p0, hj0, hp0⟩ := hin
    refine ⟨fun m seen => seen.Nodup ∧ (∀ j ∈ seen, j < M.length) ∧ m + seen.length = M.length ∧ j0 ∉ seen, ⟨M.length, List.nodup_nil, by simp, by simp, by simp⟩, ?_⟩
    rintro m seen ⟨q1, q2, q3, q4⟩
    refine ⟨hM.key, fun j ka kb kv hj hns => ?_, fun hall => absurd (hall j0 (List.getElem?_eq_some_iff.1 hj0).1) q4⟩
    have hjl : j < M.length := (List.getElem?_eq_some_iff.1 hj).1
    have hlt := seen_lt q1 q2 hjl hns
    refine ⟨fun _ => hm, fun q9 => ⟨m - 1, by omega, ?_, ?_, ?_, ?_⟩⟩
    · rw [List.nodup_append]
      exact ⟨q1, by simp, fun a ha b hb => by rw [List.mem_singleton] at hb; subst hb; exact fun q => hns (q ▸ ha)⟩
    · intro x hx
      rcases List.mem_append.1 hx with hx | hx
      · exact q2 x hx
      · rw [List.mem_singleton] at hx; subst hx; exact hjl
    · rw [List.length_append, List.length_singleton]; omega
    · intro hx
      rcases List.mem_append.1 hx with hx | hx
      · exact q4 hx
      · rw [List.mem_singleton] at hx
        subst hx
        rw [hj0] at hj
        have e : p0 = ([ka, kb], kv) := Option.some.inj hj
        rw [e] at hp0
        have hp0 : kv = cntE l a0 b0 := hp0
        omega
end Go.Proofs.Ytinoedockljfeaa

/- What Delete, Contract, Vertices, Merge, Subdivide, Spread and Collect come to: program and reference. -/
namespace Go.Proofs.Ytinoedockljfeaa
open Go Go.RowKit Go.Shelf Go.Proofs.Try
set_option linter.unusedVariables false
set_option linter.unusedSimpArgs false
theorem cnt_ends {n : Int} : ∀ (es : List E3) (a0 b0 a b : Int), gchk n a0 b0 es = 0 → cntE (yaI es) a b ≤ 50 ∧ (¬ yc6 a0 b0 a b < 0 → cntE (yaI es) a b = 0)
  | [], a0, b0, a, b, _ => by simp [yaI, cntE]
  | x :: t, a0, b0, a, b, h => by
    rw [gchk] at h
    split at h
    case isFalse => cases h
    rename_i h1
    split at h
    case isFalse => cases h
    rename_i h2
    obtain ⟨i1, i2⟩ := cnt_ends t x.1 x.2.1 a b h
    have e : yaI (x :: t) = List.replicate x.2.2.toNat (x.1, x.2.1) ++ yaI t := by unfold yaI; rw [List.flatMap_cons]
    have em : mnF x.1 x.2.1 = x.1 := by simp only [mnF]; split <;> omega
    have ex : mxF x.1 x.2.1 = x.2.1 := by simp only [mxF]; split <;> omega
    have ec : cntE (yaI (x :: t)) a b = (if x.1 = a ∧ x.2.1 = b then (x.2.2.toNat : Int) else 0) + cntE (yaI t) a b := by
      rw [e]
      unfold cntE
      rw [List.countP_append, List.countP_replicate]
      have : isE a b (x.1, x.2.1) = decide (x.1 = a ∧ x.2.1 = b) := by unfold isE; rw [em, ex]
      rw [this]
      by_cases q : x.1 = a ∧ x.2.1 = b <;> simp [q]
    rw [ec]
    have hp := h2.2
    rw [ycF] at hp i2
    rw [ycF]
    by_cases q : x.1 = a ∧ x.2.1 = b
    · have := i2 (by omega)
      rw [if_pos q, this]
      refine ⟨by omega, fun z => by omega⟩
    · rw [if_neg q]
      refine ⟨by omega, fun z => ?_⟩
      have := i2 (by omega)
      omega
theorem GrOk.cnt {n : Nat} {es : List E3} {E : List (Int × Int)} (h : GrOk n es E) : ∀ a b, cntE E a b ≤ 50 := fun a b => by
  rw [← h.e]; exact (cnt_ends es _ _ a b (ydX h.g)).1
def othF (E : List (Int × Int)) (e : Nat) : List (Int × Int) := E.take e ++ E.drop (e + 1)
theorem othF_sub (E : List (Int × Int)) (e : Nat) : (othF E e).Sublist E := by
  unfold othF
  have := List.take_append_drop e E
  conv => rhs; rw [← this]
  refine List.Sublist.append_left ?_ _
  rw [← List.drop_drop]
  exact List.drop_sublist 1 _
theorem ygg {E : List (Int × Int)} {e : Nat} (h : e < E.length) : (othF E e).length = E.length - 1 := by
  unfold othF
  rw [List.length_append, List.length_take, List.length_drop]; omega
theorem yc4.oth {n : Nat} {E : List (Int × Int)} (h : yc4 n E) (e : Nat) : yc4 n (othF E e) := fun x hx => h x ((othF_sub E e).subset hx)
section
variable {n : Int} {es : List E3} {e : Int}
theorem mvF_in {k : Nat} {a b v : Int} (ha : 0 ≤ a) (hab : a ≤ b) (hb : b < k) (hv : 0 ≤ v ∧ v < k) : 0 ≤ mvF a b v ∧ mvF a b v < ((if a = b then k else k - 1 : Nat) : Int) := by
  unfold mvF
  split
  · split <;> omega
  · split
    · rw [if_neg (by omega)]; omega
    · rw [if_neg (by omega)]; omega
theorem sndF_ok {k d : Nat} {f : Int → Int} {E : List (Int × Int)} (hE : yc4 k E) (hf : ∀ v : Int, 0 ≤ v ∧ v < k → 0 ≤ f v ∧ f v < d) : yc4 d (E.map (sndF f)) := fun x hx => by
  obtain ⟨y, hy, rfl⟩ := List.mem_map.1 hx
  obtain ⟨h1, h2⟩ := hE y hy
  have a1 := hf _ h1
  have a2 := hf _ h2
  simp only [sndF, mnF, mxF]
  split <;> split <;> omega
theorem gx_ok {k : Nat} {E : List (Int × Int)} (hE : yc4 k E) {m : Nat} (hm : m < E.length) : (0 ≤ (gx E m).1 ∧ (gx E m).1 < k) ∧ 0 ≤ (gx E m).2 ∧ (gx E m).2 < k := hE _ (by rw [ybx hm]; exact List.getElem_mem hm)
theorem mn_id {a b : Int} (h : a ≤ b) : mnF a b = a ∧ mxF a b = b := by simp only [mnF, mxF]; constructor <;> split <;> omega
def conD (k : Nat) (x : Int × Int) : Nat := if x.1 = x.2 then k else k - 1
def conL (E : List (Int × Int)) (m : Nat) : List (Int × Int) := (othF E m).map (sndF (mvF (gx E m).1 (gx E m).2))
theorem p_fewer {k : Nat} (hk : k ≤ 12) {x : Int × Int} (h1 : 1 ≤ k) {R : Int → Prop} (h : R (conD k x)) : ybf k x.1 x.2 R := by
  unfold conD at h
  refine ⟨fun q => ?_, fun q => ⟨⟨by omega, by omega⟩, ?_⟩⟩
  · rw [if_pos q] at h; exact h
  · rw [if_neg q] at h
    have e : ((k - 1 : Nat) : Int) = (k : Int) - 1 := by omega
    rwa [e] at h
theorem conD_in {k : Nat} {E : List (Int × Int)} {m : Nat} (hE : yc4 k E) (hle : ∀ e ∈ E, e.1 ≤ e.2) (hm : m < E.length) (hk : k ≤ 12) : 1 ≤ conD k (gx E m) ∧ conD k (gx E m) ≤ 12 ∧ yc4 (conD k (gx E m)) (conL E m) := by
  have hx := gx_ok hE hm
  have hl := hle (gx E m) (by rw [ybx hm]; exact List.getElem_mem hm)
  refine ⟨?_, ?_, sndF_ok (hE.oth m) fun v hv => ?_⟩
  · unfold conD; split <;> omega
  · unfold conD; split <;> omega
  · unfold conD
    exact mvF_in hx.1.1 hl hx.2.2 hv
theorem conL_len {E : List (Int × Int)} {m : Nat} (h : m < E.length) : (conL E m).length = E.length - 1 := by unfold conL; rw [List.length_map, ygg h]
theorem yen (hl : es.length ≤ 40) {R : Int → List E3 → Int → Prop} (he : sglF n es e ≠ 0 → R 0 [] (sglF n es e)) (hm : sglF n es e = 0 → Many (conL (yaI es) e.toNat) → R 0 [] 5)
    (h : sglF n es e = 0 → ¬ Many (conL (yaI es) e.toNat) → R (conD n.toNat (gx (yaI es) e.toNat)) (made (conD n.toNat (gx (yaI es) e.toNat)) (conL (yaI es) e.toNat)) 0) : ya0 n es e R := by
  refine ybX (by omega) (fun q => ⟨fun q2 => absurd q2 q, fun _ => he q⟩) fun q => ⟨fun _ => ?_, fun q2 => absurd rfl q2⟩
  replace h := h q
  replace hm := hm q
  clear he
  obtain ⟨q1, q2, q3⟩ := ydb q
  obtain ⟨k, rfl, G⟩ := yga q1
  obtain ⟨e, rfl⟩ : ∃ m : Nat, e = m := ⟨e.toNat, by omega⟩
  have hlen := G.len
  have hee : e < (yaI es).length := by omega
  simp only [Int.toNat_natCast] at h hm
  have et : ((e : Int) + 1).toNat = e + 1 := by omega
  rw [Int.toNat_natCast, et]
  obtain ⟨c1, c2, c3⟩ := conD_in G.ok G.le hee G.few
  have hx := gx_ok G.ok hee
  have hxl := G.le (gx (yaI es) e) (by rw [ybx hee]; exact List.getElem_mem hee)
  have key : ∀ J2 : Int → Int → List E3 → Prop, (∀ v v2 v3, R v2 v3 v → J2 v v2 v3) → ((0 ≤ (e : Int) ∧ (e : Int) ≤ (((yaI es).length : Nat) : Int)) ∧ (In64 ((e : Int) + 1) ∧ ((0 ≤ ((e : Int) + 1) ∧ ((e : Int) + 1) ≤ (((yaI es).length : Nat) : Int)) ∧ ybf k (gx (yaI es) e).1 (gx (yaI es) e).2 (fun (r3 : Int) => ya2 ([((yaI es).take e), ((yaI es).drop (e + 1))]) (fun (r4 : List (Int × Int)) => (yaB (gx (yaI es) e).1 (gx (yaI es) e).2 (fun (r5 : Int) (r6 : Int) => ybm r4 (fun x R => yaD x r5 r6 R) (fun (r7 : List (Int × Int)) => ybB r3 r7 (fun (r8 : Int) (r9 : List (Int × Int × Int)) (r10 : Int) => J2 r10 r8 r9))))))))) := by
    intro J2 hJ
    refine ⟨⟨by omega, by omega⟩, ⟨by omega, by omega⟩, ⟨by omega, by omega⟩, p_fewer G.few G.one (p_concat2 (by rw [List.length_take]; omega) (by rw [List.length_drop]; omega) ?_)⟩
    unfold yaB
    rw [(mn_id hxl).1, (mn_id hxl).2]
    refine ydx (by have := ygg hee; unfold othF at this; rw [this]; omega) (fun y hy R' => ?_) (yeg c1 c2 c3 (by rw [conL_len hee]; omega) (fun z => hJ _ _ _ (hm z)) fun z => hJ _ _ _ (h z))
    have := (G.ok.oth e) y hy
    have hk := G.few
    exact ⟨fun z => ycV (by omega) z, fun z => ycV (by omega) z⟩
  exact ⟨⟨by omega, by omega⟩, by decide, by decide, fun v v2 v3 => R v2 v3 v, fun v v2 v3 z => z, key _ fun _ _ _ z => z, key _ fun _ _ _ z => z⟩
theorem ygc (hl : es.length ≤ 40) {R : List Int → Int → Prop} (he : sglF n es e ≠ 0 → R [] (sglF n es e)) (h : sglF n es e = 0 → R (plcF n.toNat (gx (yaI es) e.toNat).1 (gx (yaI es) e.toNat).2) 0) : ybn n es e R := by
  refine ybX (by omega) (fun q => ⟨fun q2 => absurd q2 q, fun _ => he q⟩) fun q => ⟨fun _ => ?_, fun q2 => absurd rfl q2⟩
  have h := h q
  obtain ⟨q1, q2, q3⟩ := ydb q
  obtain ⟨k, rfl, G⟩ := yga q1
  obtain ⟨e, rfl⟩ : ∃ m : Nat, e = m := ⟨e.toNat, by omega⟩
  have hee : e < (yaI es).length := by omega
  simp only [Int.toNat_natCast] at h ⊢
  have hxl := G.le (gx (yaI es) e) (by rw [ybx hee]; exact List.getElem_mem hee)
  refine ⟨⟨by omega, by omega⟩, by decide, by decide, ?_⟩
  unfold yaB
  rw [(mn_id hxl).1, (mn_id hxl).2]
  exact ydg G.few h
end
section
variable {n : Int} {es : List E3} {a b : Int}
end
end Go.Proofs.Ytinoedockljfeaa

/- What Subdivide, Spread and Collect come to: program and reference. -/
namespace Go.Proofs.Ytinoedockljfeaa
open Go Go.RowKit Go.Shelf Go.Proofs.Try
set_option linter.unusedVariables false
set_option linter.unusedSimpArgs false
def finF (n : Int) (es : List E3) (k : Int) : Int := if yaZ n es ≠ 0 then yaZ n es else if k < 1 ∨ 12 < k then 2 else if 12 < n + (k - 1) * ((yaI es).length : Int) then 5 else 0
section
variable {n : Int} {es : List E3} {k : Int}
theorem fin_mul {k : Int} (h : ¬ (k < 1 ∨ 12 < k)) {L : Nat} (hL : L ≤ 2000) : 0 ≤ (k - 1) * (L : Int) ∧ (k - 1) * (L : Int) ≤ 22000 := by
  have h1 := Int.mul_nonneg (show 0 ≤ k - 1 by omega) (show (0 : Int) ≤ L by omega)
  have h2 := Int.mul_le_mul (show k - 1 ≤ 11 by omega) (show (L : Int) ≤ 2000 by omega) (by omega) (by decide)
  omega
theorem p_c_finer (hl : es.length ≤ 40) {R : List (Int × Int) → Int → Prop} (he : finF n es k ≠ 0 → R [] (finF n es k)) (h : finF n es k = 0 → R (yaI es) 0) : ybZ n es k R := by
  refine yds (by omega) (fun q => ⟨fun q2 => absurd q2 q, fun _ => ?_⟩) fun q => ⟨fun _ => ?_, fun q2 => absurd rfl q2⟩
  · have e1 : finF n es k = yaZ n es := by unfold finF; rw [if_pos q]
    rw [e1] at he; exact he q
  obtain ⟨N, rfl, G⟩ := yga q
  have hlen := G.len
  have hn := G.few
  have h2 : (k < 1 ∨ 12 < k) → R [] 2 := fun z => by
    have e1 : finF N es k = 2 := by unfold finF; rw [if_neg (fun z => z q), if_pos z]
    rw [e1] at he; exact he (by decide)
  refine ⟨¬ (k < 1 ∨ 12 < k), fun z => ?_, fun z => h2 (.inl z), fun z => ⟨fun z2 => h2 (.inr z2), fun z2 => by omega⟩⟩
  have hb := fin_mul z (L := (yaI es).length) (by omega)
  refine ⟨⟨by omega, by omega⟩, ⟨by omega, by omega⟩, ⟨by omega, by omega⟩, fun z2 => ?_, fun z2 => ?_⟩
  · have e1 : finF N es k = 5 := by unfold finF; rw [if_neg (fun z => z q), if_neg z, if_pos z2]
    rw [e1] at he; exact he (by decide)
  · exact h (by unfold finF; rw [if_neg (fun z => z q), if_neg z, if_neg z2])
theorem yfM (hl : es.length ≤ 40) {R : Int → Prop} (h : R (finF n es k)) : yfm n es k R := by
  refine ye7 (by omega) ⟨fun q => ?_, fun q => ?_⟩
  case refine_2 =>
    have e1 : finF n es k = yaZ n es := by unfold finF; rw [if_pos q]
    rw [e1] at h; exact h
  obtain ⟨N, rfl, G⟩ := yga q
  have hlen := G.len
  have hn := G.few
  have h2 : (k < 1 ∨ 12 < k) → R 2 := fun z => by
    have e1 : finF N es k = 2 := by unfold finF; rw [if_neg (fun z => z q), if_pos z]
    rw [e1] at h; exact h
  refine ⟨¬ (k < 1 ∨ 12 < k), fun z => ?_, fun z => h2 (.inl z), fun z => ⟨fun z2 => h2 (.inr z2), fun z2 => by omega⟩⟩
  have hb := fin_mul z (L := (yaI es).length) (by omega)
  refine ⟨⟨by omega, by omega⟩, p_size8 G (by omega) ⟨⟨by omega, by omega⟩, ⟨by omega, by omega⟩, fun z2 => ?_, fun z2 => ?_⟩⟩
  · have e1 : finF N es k = 5 := by unfold finF; rw [if_neg (fun z => z q), if_neg z, if_pos z2]
    rw [e1] at h; exact h
  · have e1 : finF N es k = 0 := by unfold finF; rw [if_neg (fun z => z q), if_neg z, if_neg z2]
    rw [e1] at h; exact h
theorem yfF (hl : es.length ≤ 40) (h : finF n es k = 0) : ∃ N j : Nat, n = N ∧ k = ((j + 1 : Nat) : Int) ∧ GrOk N es (yaI es) ∧ j ≤ 11 ∧ N + j * (yaI es).length ≤ 12 := by
  unfold finF at h
  split at h
  · rename_i q; exact absurd h q
  rename_i q
  have q : yaZ n es = 0 := Classical.byContradiction q
  split at h
  · cases h
  split at h
  · cases h
  rename_i q1 q2
  obtain ⟨N, rfl, G⟩ := yga q
  obtain ⟨j, hj⟩ : ∃ j : Nat, k = ((j + 1 : Nat) : Int) := ⟨(k - 1).toNat, by omega⟩
  refine ⟨N, j, rfl, hj, G, by omega, ?_⟩
  have e : (k - 1) * ((yaI es).length : Int) = ((j * (yaI es).length : Nat) : Int) := by
    rw [show k - 1 = (j : Int) by omega]; exact (Int.natCast_mul _ _).symm
  rw [e] at q2
  omega
end
def atF (a : Int) (nx j : Nat) : Int := if j = 0 then a else ((nx + j - 1 : Nat) : Int)
def wyF (a : Int) (nx j : Nat) : List (Int × Int) := (List.range j).map fun i => (atF a nx i, ((nx + i : Nat) : Int))
theorem wyF_snoc (a : Int) (nx j : Nat) : wyF a nx (j + 1) = wyF a nx j ++ [(atF a nx j, ((nx + j : Nat) : Int))] := by simp [wyF, List.range_succ]
theorem wyF_len (a : Int) (nx j : Nat) : (wyF a nx j).length = j := by simp [wyF]
def pthF (E : List (Int × Int)) (N j i : Nat) : List (Int × Int) := wyF (gx E i).1 (N + i * j) j ++ [(atF (gx E i).1 (N + i * j) j, (gx E i).2)]
def subF (E : List (Int × Int)) (N j i : Nat) : List (Int × Int) := (List.range i).flatMap (pthF E N j)
theorem ye5 (E : List (Int × Int)) (N j i : Nat) : subF E N j (i + 1) = subF E N j i ++ pthF E N j i := by simp [subF, List.range_succ, List.flatMap_append]
theorem pthF_len (E : List (Int × Int)) (N j i : Nat) : (pthF E N j i).length = j + 1 := by simp [pthF, wyF_len]
theorem yfC (E : List (Int × Int)) (N j : Nat) : ∀ i, (subF E N j i).length = i * (j + 1)
  | 0 => by simp [subF]
  | i + 1 => by rw [ye5, List.length_append, yfC E N j i, pthF_len, Nat.add_mul]; omega
theorem atF_in {a : Int} {nx j d : Nat} (ha : 0 ≤ a ∧ a < d) (h : nx + j ≤ d) : 0 ≤ atF a nx j ∧ atF a nx j < d := by
  unfold atF; split <;> omega
theorem subF_ok {E : List (Int × Int)} {N j : Nat} (hE : yc4 N E) : yc4 (N + E.length * j) (subF E N j E.length) := fun x hx => by
  unfold subF at hx
  obtain ⟨i, hi, hx⟩ := List.mem_flatMap.1 hx
  have hi := List.mem_range.1 hi
  have hm : (i + 1) * j ≤ E.length * j := Nat.mul_le_mul_right j hi
  rw [Nat.add_mul] at hm
  have hg := gx_ok hE hi
  unfold pthF at hx
  rcases List.mem_append.1 hx with hx | hx
  · unfold wyF at hx
    obtain ⟨t, ht, rfl⟩ := List.mem_map.1 hx
    have ht := List.mem_range.1 ht
    have := atF_in (a := (gx E i).1) (nx := N + i * j) (j := t) (d := N + E.length * j) (by omega) (by omega)
    simp only; omega
  · rw [List.mem_singleton] at hx
    subst hx
    have := atF_in (a := (gx E i).1) (nx := N + i * j) (j := j) (d := N + E.length * j) (by omega) (by omega)
    simp only; omega
theorem subF_zero (E : List (Int × Int)) (N : Nat) : subF E N 0 E.length = E := by
  have key : ∀ i, i ≤ E.length → subF E N 0 i = E.take i := by
    intro i
    induction i with
    | zero => intro _; simp [subF]
    | succ i ih =>
      intro hi
      have e : pthF E N 0 i = [gx E i] := by simp [pthF, wyF, atF]
      rw [ye5, ih (by omega), e, List.take_add_one, List.getElem?_eq_getElem (show i < E.length by omega), ybx (show i < E.length by omega)]
      rfl
  rw [key _ (Nat.le_refl _), List.take_length]
theorem subF_few {es : List E3} {E : List (Int × Int)} {N j : Nat} (G : GrOk N es E) (h : N + j * E.length ≤ 12) : ¬ Many (subF E N j E.length) := fun ⟨a, b, q⟩ => by
  rcases Nat.eq_zero_or_pos j with rfl | hj
  · rw [subF_zero] at q
    have := G.cnt a b; omega
  · have h1 := yfJ (subF E N j E.length) a b
    rw [yfC, Nat.mul_add, Nat.mul_one] at h1
    have h2 : E.length ≤ j * E.length := Nat.le_mul_of_pos_left _ hj
    rw [Nat.mul_comm E.length j] at h1
    omega
section
variable {n : Int} {es : List E3} {k : Int}
theorem yfw (hl : es.length ≤ 40) {R : Int → List E3 → Int → Prop} (he : finF n es k ≠ 0 → R 0 [] (finF n es k))
    (h : finF n es k = 0 → R ((n.toNat + (yaI es).length * (k.toNat - 1) : Nat) : Int) (made (n.toNat + (yaI es).length * (k.toNat - 1)) (subF (yaI es) n.toNat (k.toNat - 1) (yaI es).length)) 0) : ybj n es k R := by
  refine p_c_finer hl (fun q => ⟨fun q2 => absurd q2 q, fun _ => he q⟩) fun q => ⟨fun _ => ?_, fun q2 => absurd rfl q2⟩
  replace h := h q
  clear he
  obtain ⟨N, j, rfl, rfl, G, hj, h12⟩ := yfF hl q
  have hlen := G.len
  have ek : ((j + 1 : Nat) : Int).toNat - 1 = j := by omega
  rw [Int.toNat_natCast, ek] at h
  generalize hEE : yaI es = E at *
  have hN1 := G.one
  have hjl : E.length * j = j * E.length := Nat.mul_comm _ _
  refine ⟨fun m out next v => Cnt E.length (fun i => out = subF E N j i ∧ next = ((N + i * j : Nat) : Int)) m v, Cnt.start ⟨rfl, by simp⟩, ?_⟩
  rintro m out next _ ⟨i, rfl, rfl, hi, rfl, rfl⟩
  simp only [Int.toNat_natCast]
  have hsl := yfC E N j i
  have him : i * (j + 1) ≤ E.length * (j + 1) := Nat.mul_le_mul_right _ hi
  have hmm : E.length * (j + 1) = E.length * j + E.length := by rw [Nat.mul_add, Nat.mul_one]
  refine ⟨fun hlt => ?_, fun hge => ?_⟩
  · have hil : i < E.length := by omega
    have hm : (i + 1) * j ≤ E.length * j := Nat.mul_le_mul_right j hil
    have hm2 : (i + 1) * j = i * j + j := by rw [Nat.add_mul, Nat.one_mul]
    have hg := gx_ok G.ok hil
    refine ⟨⟨by omega, hlt⟩, by decide, ⟨by omega, by omega⟩, fun m3 out2 next2 at2 t => Cnt j (fun t => out2 = subF E N j i ++ wyF (gx E i).1 (N + i * j) t ∧ next2 = ((N + i * j + t : Nat) : Int) ∧ at2 = atF (gx E i).1 (N + i * j) t) m3 t, Cnt.start ⟨by simp [wyF], by simp, by simp [atF]⟩, ?_⟩
    rintro m3 out2 next2 at2 _ ⟨t, rfl, rfl, ht, rfl, rfl, rfl⟩
    have hwl := wyF_len (gx E i).1 (N + i * j) t
    refine ⟨fun hlt2 => ⟨by rw [List.length_append]; omega, ⟨by omega, by omega⟩, Cnt.next (by omega) (by omega) ⟨?_, by omega, ?_⟩⟩, fun hge2 => ⟨by decide, by rw [List.length_append]; omega, Cnt.next hil (by omega) ⟨?_, ?_⟩⟩⟩
    · rw [wyF_snoc, List.append_assoc]
    · simp [atF]
    · have : t = j := by omega
      subst this
      rw [ye5, pthF, List.append_assoc]
    · have : t = j := by omega
      subst this
      omega
  · have e : i = E.length := by omega
    subst e
    have hok := subF_ok (j := j) G.ok
    exact yeg (by omega) (by omega) hok (by omega) (fun z => absurd z (subF_few G h12)) fun _ => h
theorem yfy (hl : es.length ≤ 40) {R : Int → List E3 → Int → Prop} (he : finF n es k ≠ 0 → R 0 [] (finF n es k))
    (h : finF n es k = 0 → R ((n.toNat + (yaI es).length * (k.toNat - 1) : Nat) : Int) (made (n.toNat + (yaI es).length * (k.toNat - 1)) (subF (yaI es) n.toNat (k.toNat - 1) (yaI es).length)) 0) : yfk n es k R := by
  refine yfM hl ⟨fun q => ?_, fun q => he q⟩
  replace h := h q
  clear he
  obtain ⟨N, j, rfl, rfl, G, hj, h12⟩ := yfF hl q
  have hlen := G.len
  have ek : ((j + 1 : Nat) : Int).toNat - 1 = j := by omega
  rw [Int.toNat_natCast, ek] at h
  refine p_ends8 G (by omega) ?_
  generalize hEE : yaI es = E at *
  have hN1 := G.one
  have hjl : E.length * j = j * E.length := Nat.mul_comm _ _
  refine ⟨fun m next out v => Cnt E.length (fun i => out = subF E N j i ∧ next = ((N + i * j : Nat) : Int)) m v, Cnt.start ⟨rfl, by simp⟩, ?_⟩
  rintro m next out _ ⟨i, rfl, rfl, hi, rfl, rfl⟩
  simp only [Int.toNat_natCast]
  have hsl := yfC E N j i
  have him : i * (j + 1) ≤ E.length * (j + 1) := Nat.mul_le_mul_right _ hi
  have hmm : E.length * (j + 1) = E.length * j + E.length := by rw [Nat.mul_add, Nat.mul_one]
  refine ⟨fun hlt => ?_, fun hge => ?_⟩
  · have hil : i < E.length := by omega
    have hm : (i + 1) * j ≤ E.length * j := Nat.mul_le_mul_right j hil
    have hm2 : (i + 1) * j = i * j + j := by rw [Nat.add_mul, Nat.one_mul]
    have hg := gx_ok G.ok hil
    refine ⟨⟨by omega, hlt⟩, by decide, fun m3 next2 out2 at2 v => ∃ t : Nat, v = ((t + 1 : Nat) : Int) ∧ t + m3 = j ∧ out2 = subF E N j i ++ wyF (gx E i).1 (N + i * j) t ∧ next2 = ((N + i * j + t : Nat) : Int) ∧ at2 = atF (gx E i).1 (N + i * j) t, ⟨j, 0, rfl, by omega, by simp [wyF], by simp, by simp [atF]⟩, ?_⟩
    rintro m3 next2 out2 at2 v ⟨t, rfl, ht, rfl, rfl, rfl⟩
    have hwl := wyF_len (gx E i).1 (N + i * j) t
    refine ⟨fun hlt2 => ⟨by rw [List.length_append]; omega, ⟨by omega, by omega⟩, ⟨by omega, by omega⟩, m3 - 1, by omega, t + 1, by omega, by omega, ?_, by omega, ?_⟩, fun hge2 => ⟨by decide, by rw [List.length_append]; omega, Cnt.next hil (by omega) ⟨?_, ?_⟩⟩⟩
    · rw [wyF_snoc, List.append_assoc]
    · simp [atF]
    · have : t = j := by omega
      subst this
      rw [ye5, pthF, List.append_assoc]
    · have : t = j := by omega
      subst this
      omega
  · have e : i = E.length := by omega
    subst e
    have hok := subF_ok (j := j) G.ok
    exact ygk (by omega) (by omega) hok (by omega) (fun z => absurd z (subF_few G h12)) fun _ => h
end
def chpF (n : Int) (d : List Int) : Int := if (d.length : Int) ≠ n then 8 else if ∃ x ∈ d, x < -1048576 ∨ 1048576 < x then 2 else 0
theorem yfL {n : Int} {es : List E3} {d : List Int} (hl : d.length ≤ 1000000) {R : Int → Prop} (h : R (chpF n d)) : ybF n es d R := by
  refine ⟨fun q => ?_, fun q => ?_⟩
  · refine ycA (p := fun x => decide (x < -1048576 ∨ 1048576 < x)) (by omega) (fun x R' hR => ⟨fun z => ?_, fun z => ?_⟩) ?_
    · rw [decide_eq_true (.inl z)] at hR; exact hR
    · rw [show decide (x < -1048576 ∨ 1048576 < x) = decide (1048576 < x) from by
        by_cases z2 : 1048576 < x
        · rw [decide_eq_true z2, decide_eq_true (.inr z2)]
        · rw [decide_eq_false z2, decide_eq_false (by omega)]] at hR
      exact hR
    · refine ⟨fun z => ?_, fun z => ?_⟩
      · have e1 : chpF n d = 2 := by
          unfold chpF
          rw [if_neg (fun z => z q), if_pos]
          obtain ⟨x, hx, hp⟩ := List.any_eq_true.1 z
          exact ⟨x, hx, of_decide_eq_true hp⟩
        rw [e1] at h; exact h
      · have e1 : chpF n d = 0 := by
          unfold chpF
          rw [if_neg (fun z => z q), if_neg]
          rintro ⟨x, hx, hp⟩
          exact z (List.any_eq_true.2 ⟨x, hx, decide_eq_true hp⟩)
        rw [e1] at h; exact h
  · have e1 : chpF n d = 8 := by unfold chpF; rw [if_pos q]
    rw [e1] at h; exact h
theorem yfX {n : Int} {es : List E3} {d : List Int} (hl : d.length ≤ 1000000) {R : Int → Prop} (h : R (chpF n d)) : yft n es d R := by
  refine ⟨fun q => ?_, fun q => ?_⟩
  · have h2 : ∀ k, k < d.length → (gi d k < -1048576 ∨ 1048576 < gi d k) → R 2 := fun k hk z => by
      have e1 : chpF n d = 2 := by
        unfold chpF
        rw [if_neg (fun z => z q), if_pos ⟨_, gi_mem hk, z⟩]
      rw [e1] at h; exact h
    refine ⟨fun m v => Cnt d.length (fun k => ∀ i, i < k → ¬ (gi d i < -1048576 ∨ 1048576 < gi d i)) m v, Cnt.start fun i hi => by omega, ?_⟩
    rintro m _ ⟨k, rfl, rfl, hk, hI⟩
    simp only [Int.toNat_natCast]
    refine ⟨fun hlt => ⟨⟨by omega, by omega⟩, fun z => h2 k (by omega) (.inl z), fun z => ⟨fun z2 => h2 k (by omega) (.inr z2), fun z2 => Cnt.next (by omega) (by omega) fun i hi => ?_⟩⟩, fun hge => ?_⟩
    · rcases (show i < k ∨ i = k by omega) with z3 | rfl
      · exact hI i z3
      · omega
    · have e1 : chpF n d = 0 := by
        unfold chpF
        rw [if_neg (fun z => z q), if_neg]
        rintro ⟨x, hx, hp⟩
        obtain ⟨i, hi, rfl⟩ := List.mem_iff_getElem.1 hx
        have := hI i (by omega)
        rw [ybl hi] at this
        exact this hp
      rw [e1] at h; exact h
  · have e1 : chpF n d = 8 := by unfold chpF; rw [if_pos q]
    rw [e1] at h; exact h
theorem chp_zero {n : Int} {d : List Int} (h : chpF n d = 0) : (d.length : Int) = n ∧ ∀ k, k < d.length → -1048576 ≤ gi d k ∧ gi d k ≤ 1048576 := by
  unfold chpF at h
  split at h
  · cases h
  · rename_i q
    split at h
    · cases h
    · rename_i q2
      refine ⟨Classical.byContradiction q, fun k hk => ?_⟩
      have : ¬ (gi d k < -1048576 ∨ 1048576 < gi d k) := fun z => q2 ⟨_, gi_mem hk, z⟩
      omega
section
variable {n : Int} {es : List E3} {k : Int} {d : List Int}
theorem p_c_Spread (hl : es.length ≤ 40) (hd : d.length ≤ 40) {R : List Int → Int → Prop} (he : finF n es k ≠ 0 → R [] (finF n es k)) (hc : finF n es k = 0 → chpF n d ≠ 0 → R [] (chpF n d))
    (h : finF n es k = 0 → chpF n d = 0 → R (d ++ List.replicate ((k - 1) * ((yaI es).length : Int)).toNat 0) 0) : yfj n es k d R := by
  refine p_c_finer hl (fun q => ⟨fun q2 => absurd q2 q, fun _ => he q⟩) fun q => ⟨fun _ => yfL (by omega) ⟨fun q2 => ?_, fun q2 => hc q q2⟩, fun q2 => absurd rfl q2⟩
  replace h := h q q2
  clear he hc
  obtain ⟨N, j, rfl, rfl, G, hj, h12⟩ := yfF hl q
  have e : (((j + 1 : Nat) : Int) - 1) * ((yaI es).length : Int) = ((j * (yaI es).length : Nat) : Int) := by
    rw [show ((j + 1 : Nat) : Int) - 1 = (j : Int) by omega]; exact (Int.natCast_mul _ _).symm
  rw [e] at h ⊢
  exact ⟨⟨by omega, by omega⟩, ⟨by omega, by omega⟩, ⟨by omega, by omega⟩, p_concatD (by omega) (by rw [List.length_replicate]; omega) h⟩
theorem yfx (hl : es.length ≤ 40) (hd : d.length ≤ 40) {R : List Int → Int → Prop} (he : finF n es k ≠ 0 → R [] (finF n es k)) (hc : finF n es k = 0 → chpF n d ≠ 0 → R [] (chpF n d))
    (h : finF n es k = 0 → chpF n d = 0 → R (d ++ List.replicate ((k - 1) * ((yaI es).length : Int)).toNat 0) 0) : yfp n es k d R := by
  refine yfM hl ⟨fun q => yfX (by omega) ⟨fun q2 => ?_, fun q2 => hc q q2⟩, fun q => he q⟩
  replace h := h q q2
  clear he hc
  obtain ⟨N, j, rfl, rfl, G, hj, h12⟩ := yfF hl q
  have e : (((j + 1 : Nat) : Int) - 1) * ((yaI es).length : Int) = ((j * (yaI es).length : Nat) : Int) := by
    rw [show ((j + 1 : Nat) : Int) - 1 = (j : Int) by omega]; exact (Int.natCast_mul _ _).symm
  rw [e] at h
  refine ⟨⟨by omega, by omega⟩, by omega, p_size8 G (by omega) ?_⟩
  rw [e, List.nil_append]
  exact ⟨⟨by omega, by omega⟩, ⟨by omega, by omega⟩, h⟩
end
def colF (m : Nat) (f : Int → Int) (d : List Int) : Nat → List Int
  | 0 => List.replicate m 0
  | k + 1 => (colF m f d k).set (f k).toNat (gi (colF m f d k) (f k).toNat + gi d k)
theorem yd0 (m : Nat) (f : Int → Int) (d : List Int) : ∀ k, (colF m f d k).length = m
  | 0 => by simp [colF]
  | k + 1 => by rw [colF, List.length_set, yd0 m f d k]
theorem colF_bound {m : Nat} {f : Int → Int} {d : List Int} (hd : ∀ k, k < d.length → -1048576 ≤ gi d k ∧ gi d k ≤ 1048576) : ∀ k, k ≤ d.length → ∀ i, i < m → -1048576 * (k : Int) ≤ gi (colF m f d k) i ∧ gi (colF m f d k) i ≤ 1048576 * (k : Int)
  | 0, _, i, hi => by
    have : gi (colF m f d 0) i = 0 := by rw [colF, ybl (by simpa using hi)]; simp
    omega
  | k + 1, hk, i, hi => by
    have ih := colF_bound (m := m) (f := f) hd k (by omega)
    have h1 := hd k (by omega)
    have h0 := ih i hi
    rw [colF]
    by_cases q : (f k).toNat < m
    · rw [ydQ (by rw [yd0]; exact q)]
      have h2 := ih _ q
      split <;> omega
    · rw [List.set_eq_of_length_le (by rw [yd0]; omega)]
      omega
section
variable {n : Int} {es : List E3} {e : Int} {d : List Int}
def cltF (n : Int) (es : List E3) (e : Int) (d : List Int) : List Int := colF (conD n.toNat (gx (yaI es) e.toNat)) (mvF (gx (yaI es) e.toNat).1 (gx (yaI es) e.toNat).2) d n.toNat
theorem col_loop {N m : Nat} {f : Int → Int} {P : List Int} {R : List Int → Prop} (hN : N ≤ 12) (hP : P.length = N) (hPf : ∀ k, k < N → gi P k = f k) (hf : ∀ v : Int, 0 ≤ v ∧ v < N → 0 ≤ f v ∧ f v < m) (hdl : d.length = N) (hd : ∀ k, k < d.length → -1048576 ≤ gi d k ∧ gi d k ≤ 1048576) (h : R (colF m f d N)) {t : Int} (ht : t = N) :
    (∃ I2 : Nat → Int → (List Int) → Prop, (∃ m0, I2 m0 0 (List.replicate m (0 : Int))) ∧ ∀ (m2 : Nat) (v : Int) (v2 : List Int), I2 m2 v v2 → 
    ((v < t →
    ((0 ≤ v ∧ v < ((P.length : Nat) : Int)) ∧
    ((0 ≤ (gi P v.toNat) ∧ (gi P v.toNat) < ((v2.length : Nat) : Int)) ∧
    ((0 ≤ v ∧ v < ((d.length : Nat) : Int)) ∧
    (In64 ((gi v2 (gi P v.toNat).toNat) + (gi d v.toNat)) ∧
    (In64 (v + 1) ∧
    ∃ m3, m3 < m2 ∧ I2 m3 (v + 1) (v2.set (gi P v.toNat).toNat ((gi v2 (gi P v.toNat).toNat) + (gi d v.toNat))))))))) ∧
    (¬ (v < t) →
    R v2))) := by
  subst ht
  refine ⟨fun q v out => Cnt N (fun k => out = colF m f d k) q v, Cnt.start rfl, ?_⟩
  rintro q _ out ⟨k, rfl, rfl, hk, rfl⟩
  simp only [Int.toNat_natCast]
  refine ⟨fun hlt => ?_, fun hge => ?_⟩
  · have hkN : k < N := by omega
    rw [hPf k hkN, yd0]
    have h1 := hf k (by omega)
    have h2 := hd k (by omega)
    have h3 := colF_bound (m := m) (f := f) hd k (by omega) (f k).toNat (by omega)
    refine ⟨⟨by omega, by omega⟩, h1, ⟨by omega, by omega⟩, ⟨by omega, by omega⟩, Cnt.next hkN (by omega) rfl⟩
  · have : k = N := by omega
    subst this; exact h
theorem yfT (hl : es.length ≤ 40) (hdl : d.length ≤ 40) {R : List Int → Int → Prop} (he : sglF n es e ≠ 0 → R [] (sglF n es e)) (hc : sglF n es e = 0 → chpF n d ≠ 0 → R [] (chpF n d))
    (h : sglF n es e = 0 → chpF n d = 0 → (chpF ((cltF n es e d).length : Int) (cltF n es e d) = 0 → R (cltF n es e d) 0) ∧ (chpF ((cltF n es e d).length : Int) (cltF n es e d) ≠ 0 → R [] 11)) : ybt n es e d R := by
  refine ybX (by omega) (fun q => ⟨fun q2 => absurd q2 q, fun _ => he q⟩) fun q => ⟨fun _ => yfL (by omega) ⟨fun q2 => ?_, fun q2 => hc q q2⟩, fun q2 => absurd rfl q2⟩
  replace h := h q q2
  clear he hc
  obtain ⟨q1, q4, q3⟩ := ydb q
  obtain ⟨k, rfl, G⟩ := yga q1
  obtain ⟨e, rfl⟩ : ∃ m : Nat, e = m := ⟨e.toNat, by omega⟩
  have hee : e < (yaI es).length := by omega
  obtain ⟨d1, d2⟩ := chp_zero q2
  have hxl := G.le (gx (yaI es) e) (by rw [ybx hee]; exact List.getElem_mem hee)
  have hx := gx_ok G.ok hee
  obtain ⟨c1, c2, c3⟩ := conD_in G.ok G.le hee G.few
  unfold cltF at h
  simp only [Int.toNat_natCast] at h ⊢
  refine ⟨⟨by omega, by omega⟩, by decide, by decide, p_fewer G.few G.one ⟨⟨by omega, by omega⟩, ?_⟩⟩
  unfold yaB
  rw [(mn_id hxl).1, (mn_id hxl).2, Int.toNat_natCast]
  refine ydg G.few (col_loop G.few (ydE k _ _) (fun j hj => gi_plcF _ _ hj) (fun v hv => ?_) (by omega) d2 ?_ (by rw [ydE]))
  · unfold conD; exact mvF_in hx.1.1 hxl hx.2.2 hv
  · exact yfL (by rw [yd0]; omega) h
end
end Go.Proofs.Ytinoedockljfeaa

/- What Singles comes to: a stable sort of few numbers; program and reference. -/
namespace Go.Proofs.Ytinoedockljfeaa
open Go Go.RowKit Go.Shelf Go.Proofs.Try
set_option linter.unusedVariables false
set_option linter.unusedSimpArgs false
theorem swap_list (P S : List Int) (x y : Int) : ((P ++ y :: x :: S).set (P.length + 1) y).set P.length x = P ++ x :: y :: S := by
  rw [List.set_append_right _ _ (by omega), show P.length + 1 - P.length = 1 by omega, List.set_append_right _ _ (Nat.le_refl _), Nat.sub_self]
  rfl
theorem gi_app (P : List Int) (x : Int) (S : List Int) : gi (P ++ x :: S) P.length = x := by
  rw [ybl (by simp)]; simp
theorem gi_app1 (P : List Int) (x y : Int) (S : List Int) : gi (P ++ y :: x :: S) (P.length + 1) = x := by
  rw [ybl (by simp)]; simp [List.getElem_append]
theorem p_insertion {data : List Int} {F : Int → Int → (Int → Prop) → Prop} {c : Int → Int → Int} {lt : Int → Int → Prop} (hl : data.length ≤ 1000) (hF : ∀ x ∈ data, ∀ y ∈ data, ∀ R' : Int → Prop, R' (c x y) → F x y R')
    (h1 : ∀ x ∈ data, ∀ y ∈ data, c x y < 0 → lt x y) (h2 : data.Pairwise fun x y => ¬ c y x < 0 → lt x y) (ht : ∀ x y z, lt x y → lt y z → lt x z) {R : List Int → Prop} (h : ∀ y : List Int, y.Perm data → y.Pairwise lt → R y) {b : Int} (hb : b = data.length) : yaG data 0 b F R := by
  subst hb
  refine ⟨⟨by decide, by decide⟩, ?_⟩
  by_cases h0 : data = []
  · subst h0
    refine ⟨fun m i d => i = 1 ∧ d = [], ⟨0, rfl, rfl⟩, ?_⟩
    rintro m i d ⟨rfl, rfl⟩
    exact ⟨fun q => by simp at q, fun _ => h [] (List.Perm.refl _) List.Pairwise.nil⟩
  have hpos : 0 < data.length := List.length_pos_iff.2 h0
  refine ⟨fun m i d2 => ∃ (k : Nat) (A : List Int), i = k ∧ 1 ≤ k ∧ k + m = data.length ∧ d2 = A ++ data.drop k ∧ A.Perm (data.take k) ∧ A.Pairwise lt, ⟨data.length - 1, 1, data.take 1, rfl, by omega, by omega, (List.take_append_drop 1 data).symm, List.Perm.refl _, ?_⟩, ?_⟩
  · cases data with
    | nil => exact absurd rfl h0
    | cons x t => simp
  rintro m i d2 ⟨k, A, rfl, hk1, hkm, rfl, hA, hAs⟩
  have hAl : A.length = k := by rw [hA.length_eq, List.length_take]; omega
  refine ⟨fun hlt => ?_, fun hge => ?_⟩
  · have hkl : k < data.length := by omega
    obtain ⟨x, hx⟩ : ∃ x, data.drop k = x :: data.drop (k + 1) := ⟨_, List.drop_eq_getElem_cons hkl⟩
    have hxm : x ∈ data := List.mem_of_mem_drop (by rw [hx]; simp)
    have hAm : ∀ y ∈ A, y ∈ data := fun y hy => List.mem_of_mem_take (hA.subset hy)
    have hbefore : ∀ y ∈ A, ¬ c x y < 0 → lt y x := fun y hy => by
      have h3 := h2
      rw [← List.take_append_drop k data, hx, List.pairwise_append] at h3
      exact h3.2.2 y (hA.subset hy) x (by simp)
    refine ⟨fun m3 j d3 => ∃ (p : Nat) (P S : List Int), j = p ∧ m3 = p ∧ P.length = p ∧ A = P ++ S ∧ d3 = P ++ x :: (S ++ data.drop (k + 1)) ∧ ∀ y ∈ S, lt x y, ⟨k, k, A, [], rfl, rfl, hAl, by simp, by rw [hx]; simp, by simp⟩, ?_⟩
    rintro m3 j d3 ⟨p, P, S, rfl, hmp, hP, hPS, rfl, hS⟩
    have hPl : P.length + S.length = k := by rw [← hAl, hPS, List.length_append]
    have hdone : (∀ y ∈ P, lt y x) → In64 ((k : Int) + 1) ∧ ∃ m5, m5 < m ∧ ∃ (k2 : Nat) (A : List Int), ((k : Int) + 1) = k2 ∧ 1 ≤ k2 ∧ k2 + m5 = data.length ∧ P ++ x :: (S ++ data.drop (k + 1)) = A ++ data.drop k2 ∧ A.Perm (data.take k2) ∧ A.Pairwise lt := by
      intro hPx
      refine ⟨⟨by omega, by omega⟩, m - 1, by omega, k + 1, P ++ x :: S, by omega, by omega, by omega, by simp, ?_, ?_⟩
      · have e1 : data.take (k + 1) = data.take k ++ [x] := by
          rw [List.take_add_one, List.getElem?_eq_getElem hkl]
          have : data[k] = x := by rw [List.drop_eq_getElem_cons hkl] at hx; exact (List.cons.inj hx).1
          rw [this]; rfl
        rw [e1]
        refine List.Perm.trans List.perm_middle ?_
        rw [← hPS]
        exact (List.perm_append_singleton x A).symm.trans (hA.append_right [x])
      · rw [hPS, List.pairwise_append] at hAs
        rw [List.pairwise_append, List.pairwise_cons]
        exact ⟨hAs.1, ⟨hS, hAs.2.1⟩, fun y hy z hz => by
          rcases List.mem_cons.1 hz with rfl | hz
          · exact hPx y hy
          · exact hAs.2.2 y hy z hz⟩
    refine ⟨0 < p ∧ ∃ P' y, P = P' ++ [y] ∧ c x y < 0, fun ⟨hp, P', y, hPy, hc⟩ => ?_, fun hp => ?_, fun hp => ?_⟩
    · subst hPy
      have hP' : P'.length = p - 1 := by rw [List.length_append, List.length_singleton] at hP; omega
      have e1 : ((p : Int) - 1).toNat = P'.length := by omega
      have e2 : ((p : Int)).toNat = P'.length + 1 := by omega
      have e3 : (P' ++ [y]) ++ x :: (S ++ data.drop (k + 1)) = P' ++ y :: x :: (S ++ data.drop (k + 1)) := by simp
      have hlen : (P' ++ y :: x :: (S ++ data.drop (k + 1))).length = P'.length + 2 + S.length + (data.length - (k + 1)) := by simp; omega
      rw [e3, e1, e2, gi_app, gi_app1, List.length_set, hlen, swap_list]
      refine ⟨⟨by omega, by omega⟩, ⟨by omega, by omega⟩, ⟨by omega, by omega⟩, ⟨by omega, by omega⟩, p - 1, by omega, p - 1, P', y :: S, by omega, rfl, hP', by rw [hPS]; simp, by simp, fun z hz => ?_⟩
      rcases List.mem_cons.1 hz with rfl | hz
      · exact h1 _ hxm _ (hAm _ (by rw [hPS]; simp)) hc
      · exact hS z hz
    · obtain ⟨P', y, hPy⟩ : ∃ P' y, P = P' ++ [y] := by
        have hne : P ≠ [] := by rintro rfl; simp at hP; omega
        exact ⟨P.dropLast, P.getLast hne, (List.dropLast_concat_getLast hne).symm⟩
      subst hPy
      have hP' : P'.length = p - 1 := by rw [List.length_append, List.length_singleton] at hP; omega
      have e1 : ((p : Int) - 1).toNat = P'.length := by omega
      have e2 : ((p : Int)).toNat = P'.length + 1 := by omega
      have e3 : (P' ++ [y]) ++ x :: (S ++ data.drop (k + 1)) = P' ++ y :: x :: (S ++ data.drop (k + 1)) := by simp
      have hlen : (P' ++ y :: x :: (S ++ data.drop (k + 1))).length = P'.length + 2 + S.length + (data.length - (k + 1)) := by simp; omega
      have hym : y ∈ data := hAm _ (by rw [hPS]; simp)
      rw [e3] at hdone ⊢
      rw [e1, e2, gi_app, gi_app1, hlen]
      refine ⟨⟨by omega, by omega⟩, ⟨by omega, by omega⟩, ⟨by omega, by omega⟩, hF x hxm y hym _ ⟨fun q => ⟨by omega, P', y, rfl, q⟩, fun q => hdone fun z hz => ?_⟩⟩
      have hyx := hbefore y (by rw [hPS]; simp) q
      rcases List.mem_append.1 hz with hz | hz
      · rw [hPS, List.pairwise_append] at hAs
        rw [List.pairwise_append] at hAs
        exact ht _ _ _ (hAs.1.2.2 z hz y (by simp)) hyx
      · rw [List.mem_singleton] at hz; subst hz; exact hyx
    · have hp0 : p = 0 := by omega
      have hPn : P = [] := List.eq_nil_of_length_eq_zero (by omega)
      subst hPn
      exact hdone fun z hz => by simp at hz
  · have e : k = data.length := by omega
    subst e
    rw [List.drop_length, List.append_nil]
    rw [List.take_length] at hA
    exact h A hA hAs
theorem p_stable {data : List Int} {F : Int → Int → (Int → Prop) → Prop} {c : Int → Int → Int} {lt : Int → Int → Prop} (hl : data.length ≤ 19) (hF : ∀ x ∈ data, ∀ y ∈ data, ∀ R' : Int → Prop, R' (c x y) → F x y R')
    (h1 : ∀ x ∈ data, ∀ y ∈ data, c x y < 0 → lt x y) (h2 : data.Pairwise fun x y => ¬ c y x < 0 → lt x y) (ht : ∀ x y z, lt x y → lt y z → lt x z) {R : List Int → Prop} (h : ∀ y : List Int, y.Perm data → y.Pairwise lt → R y) : ya5 data F R := by
  refine ⟨fun m a b d => a = 0 ∧ b = 20 ∧ d = data, ⟨0, rfl, rfl, rfl⟩, ?_⟩
  rintro m a b d ⟨rfl, rfl, rfl⟩
  refine ⟨fun q => by omega, fun _ => p_insertion (by omega) hF h1 h2 ht (fun y hy hs => ⟨fun m b => b = 20, ⟨0, rfl⟩, ?_⟩) rfl⟩
  rintro m b rfl
  exact ⟨fun q => by omega, fun _ => h y hy hs⟩
def bfF (K : List (Int × Int)) (i j : Int) : Prop := ((gx K i.toNat).1 < (gx K j.toNat).1 ∨ (gx K i.toNat).1 = (gx K j.toNat).1 ∧ (gx K i.toNat).2 < (gx K j.toNat).2) ∨ gx K i.toNat = gx K j.toNat ∧ i < j
instance (K : List (Int × Int)) (i j : Int) : Decidable (bfF K i j) := by unfold bfF; exact inferInstance
def lesF (m e : Nat) : List Int := (List.range m).map fun i => if i = e then -1 else if i < e then (i : Int) else (i : Int) - 1
def numF (K : List (Int × Int)) (e i k : Nat) : Nat := (List.range k).countP fun j => decide (j ≠ e ∧ bfF K j i)
def shoF (K : List (Int × Int)) (m e : Nat) : List Int := (List.range m).map fun i => if i = e then -1 else (numF K e i m : Int)
theorem yeh (m e : Nat) : (lesF m e).length = m := by simp [lesF]
theorem numF_succ (K : List (Int × Int)) (e i k : Nat) : numF K e i (k + 1) = numF K e i k + if k ≠ e ∧ bfF K k i then 1 else 0 := by
  unfold numF
  rw [List.range_succ, List.countP_append]
  by_cases q : k ≠ e ∧ bfF K k i
  · rw [if_pos q]; simp [q]
  · rw [if_neg q]; simp [q]
section
variable {n : Int} {es : List E3} {e : Int}
def rstF (e k : Nat) : List Int := ((List.range k).filter fun i => decide (i ≠ e)).map fun i : Nat => (i : Int)
theorem yeN (e k : Nat) : rstF e (k + 1) = rstF e k ++ if k = e then [] else [(k : Int)] := by
  unfold rstF
  rw [List.range_succ, List.filter_append, List.map_append]
  by_cases q : k = e
  · simp [q]
  · simp [q]
theorem rstF_len (e : Nat) : ∀ k, (rstF e k).length = if k ≤ e then k else k - 1
  | 0 => by simp [rstF]
  | k + 1 => by
    rw [yeN, List.length_append, rstF_len e k]
    by_cases q : k = e
    · subst q; rw [if_pos (Nat.le_refl _), if_pos rfl, if_neg (by omega)]; simp
    · rw [if_neg q]
      split
      · rw [if_pos (by omega)]; simp
      · rw [if_neg (by omega)]; simp; omega
theorem yeJ {e k : Nat} {x : Int} : x ∈ rstF e k ↔ ∃ i : Nat, x = i ∧ i < k ∧ i ≠ e := by
  unfold rstF
  simp only [List.mem_map, List.mem_filter, List.mem_range, decide_eq_true_eq]
  constructor
  · rintro ⟨i, ⟨h1, h2⟩, rfl⟩; exact ⟨i, rfl, h1, h2⟩
  · rintro ⟨i, rfl, h1, h2⟩; exact ⟨i, ⟨h1, h2⟩, rfl⟩
theorem ye2 (e k : Nat) : (rstF e k).Pairwise (· < ·) := by
  unfold rstF
  rw [List.pairwise_map]
  exact (List.pairwise_lt_range.filter _).imp fun h => by omega
theorem bfF_trans {K : List (Int × Int)} {x y z : Int} (h1 : bfF K x y) (h2 : bfF K y z) : bfF K x z := by
  unfold bfF at *
  rcases h1 with h1 | ⟨h1, h3⟩
  · rcases h2 with h2 | ⟨h2, h4⟩
    · exact .inl (by omega)
    · rw [← h2]; exact .inl h1
  · rcases h2 with h2 | ⟨h2, h4⟩
    · rw [h1]; exact .inl h2
    · exact .inr ⟨h1.trans h2, by omega⟩
theorem bfF_irr {K : List (Int × Int)} {x : Int} (h : bfF K x x) : False := by
  unfold bfF at h
  rcases h with h | ⟨_, h⟩ <;> omega
theorem cnt_sorted {K : List (Int × Int)} {y : List Int} (hs : y.Pairwise (bfF K)) {j : Nat} (hj : j < y.length) : y.countP (fun x => decide (bfF K x (gi y j))) = j := by
  have e : y = y.take j ++ gi y j :: y.drop (j + 1) := by
    rw [ybl hj, ← List.drop_eq_getElem_cons hj, List.take_append_drop]
  have h2 := hs
  rw [e, List.pairwise_append, List.pairwise_cons] at h2
  generalize hx : gi y j = x at h2 e ⊢
  have h3 : y.countP (fun z => decide (bfF K z x)) = (y.take j).countP (fun z => decide (bfF K z x)) + (x :: y.drop (j + 1)).countP (fun z => decide (bfF K z x)) := by
    conv => lhs; rw [e]
    exact List.countP_append
  rw [h3]
  have a1 : (y.take j).countP (fun z => decide (bfF K z x)) = j := by
    have : (y.take j).countP (fun z => decide (bfF K z x)) = (y.take j).length := List.countP_eq_length.2 fun z hz => decide_eq_true (h2.2.2 z hz x (by simp))
    rw [this, List.length_take]; omega
  have a2 : (x :: y.drop (j + 1)).countP (fun z => decide (bfF K z x)) = 0 := by
    rw [List.countP_eq_zero]
    intro z hz hb
    have hb := of_decide_eq_true hb
    rcases List.mem_cons.1 hz with rfl | hz
    · exact bfF_irr hb
    · exact bfF_irr (bfF_trans hb (h2.2.1.1 z hz))
  rw [a1, a2, Nat.add_zero]
theorem num_rst (K : List (Int × Int)) (e i k : Nat) : numF K e i k = (rstF e k).countP fun x => decide (bfF K x i) := by
  induction k with
  | zero => rfl
  | succ k ih =>
    rw [numF_succ, yeN, List.countP_append, ← ih]
    congr 1
    by_cases q : k = e
    · rw [if_pos q, if_neg (fun z => z.1 q)]; rfl
    · rw [if_neg q]
      by_cases q2 : bfF K k i
      · rw [if_pos ⟨q, q2⟩]; simp [q2]
      · rw [if_neg (fun z => q2 z.2)]; simp [q2]
theorem ydV (hl : es.length ≤ 40) (hsm : yaZ n es = 0 → (yaI es).length ≤ 20) {R : List Int → List Int → Int → Prop} (he : sglF n es e ≠ 0 → R [] [] (sglF n es e))
    (h : sglF n es e = 0 → R (lesF (yaI es).length e.toNat) (shoF ((yaI es).map (sndF (mvF (gx (yaI es) e.toNat).1 (gx (yaI es) e.toNat).2))) (yaI es).length e.toNat) 0) : ybe n es e R := by
  refine ybX (by omega) (fun q => ⟨fun q2 => absurd q2 q, fun _ => he q⟩) fun q => ⟨fun _ => ?_, fun q2 => absurd rfl q2⟩
  replace h := h q
  clear he
  obtain ⟨q1, q2, q3⟩ := ydb q
  obtain ⟨k, rfl, G⟩ := yga q1
  obtain ⟨e, rfl⟩ : ∃ m : Nat, e = m := ⟨e.toNat, by omega⟩
  replace hsm := hsm q1
  have hlen := G.len
  have hee : e < (yaI es).length := by omega
  rw [Int.toNat_natCast] at h
  generalize hEE : yaI es = E at *
  have hxl := G.le (gx E e) (by rw [ybx hee]; exact List.getElem_mem hee)
  have hx := gx_ok G.ok hee
  rw [Int.toNat_natCast]
  refine ⟨⟨by omega, by omega⟩, by decide, by decide, ?_⟩
  unfold yaB
  rw [(mn_id hxl).1, (mn_id hxl).2]
  have hk := G.few
  refine ydx (by omega) (fun y hy R' => by
    have := G.ok y hy
    exact ⟨fun z => ycV (by omega) z, fun z => ycV (by omega) z⟩) ?_
  generalize hK : E.map (sndF (mvF (gx E e).1 (gx E e).2)) = K at h ⊢
  have hKl : K.length = E.length := by rw [← hK, List.length_map]
  refine ⟨fun v v2 => v = List.replicate E.length 0 ∧ v2 = List.replicate E.length 0, ?_, ⟨⟨by omega, by omega⟩, by rw [Int.toNat_natCast]; exact ⟨rfl, rfl⟩⟩, ⟨by omega, by omega⟩, by rw [Int.toNat_natCast]; exact ⟨rfl, rfl⟩⟩
  rintro v v2 ⟨rfl, rfl⟩
  refine ⟨fun q v3 v4 v5 => Cnt E.length (fun i => v3 = rstF e i ∧ v5.length = E.length ∧ ∀ t, t < i → t ≠ e → gi v5 t = if t < e then (t : Int) else (t : Int) - 1) q v4, Cnt.start ⟨rfl, by simp, fun t ht => by omega⟩, ?_⟩
  rintro q v3 _ v5 ⟨i, rfl, rfl, hi, rfl, h5l, h5⟩
  simp only [Int.toNat_natCast]
  have hrs := yeN e i
  have hrl := rstF_len e i
  refine ⟨fun hlt => ⟨fun z => Cnt.next (by omega) (by omega) ⟨?_, h5l, fun t ht hne => h5 t (by omega) hne⟩, fun z => ⟨⟨by omega, by omega⟩, by rw [hrl]; split <;> omega, Cnt.next (by omega) (by omega) ⟨?_, by rw [List.length_set]; exact h5l, fun t ht hne => ?_⟩⟩⟩, fun hge => ?_⟩
  · rw [hrs, if_pos (by omega), List.append_nil]
  · rw [hrs, if_neg (by omega)]
  · rw [ydQ (by omega)]
    by_cases z2 : t = i
    · subst z2
      rw [if_pos rfl, hrl]
      split
      · rw [if_pos (by omega)]
      · rw [if_neg (by omega)]; omega
    · rw [if_neg z2]; exact h5 t (by omega) hne
  · have ei : i = E.length := by omega
    subst ei
    rw [if_neg (by omega)] at hrl
    refine p_stable (lt := bfF K) (c := fun x y => yc6 (gx K x.toNat).1 (gx K x.toNat).2 (gx K y.toNat).1 (gx K y.toNat).2) (by omega) (fun x hx y hy R' hR => ?_) (fun x hx y hy hc => .inl (ycF.1 hc)) ?_ (fun x y z => bfF_trans) fun y hyp hys => ?_
    · obtain ⟨i1, rfl, i2, _⟩ := yeJ.1 hx
      obtain ⟨j1, rfl, j2, _⟩ := yeJ.1 hy
      simp only [Int.toNat_natCast] at hR
      refine ⟨⟨by omega, by omega⟩, by decide, ⟨by omega, by omega⟩, by decide, ?_⟩
      simp only [Int.toNat_natCast]
      exact ycH (ycH (p_cmp_Or2 hR))
    · refine (ye2 e E.length).imp fun {a b} hab hc => ?_
      rw [ycF] at hc
      unfold bfF
      by_cases z : (gx K a.toNat).1 < (gx K b.toNat).1 ∨ (gx K a.toNat).1 = (gx K b.toNat).1 ∧ (gx K a.toNat).2 < (gx K b.toNat).2
      · exact .inl z
      · exact .inr ⟨Prod.ext (by omega) (by omega), hab⟩
    · have hyl : y.length = E.length - 1 := by rw [hyp.length_eq, hrl]
      have hyd : y.Nodup := hyp.nodup_iff.2 ((ye2 e E.length).imp fun h => by omega)
      have hyi : ∀ j, j < y.length → ∃ t : Nat, gi y j = t ∧ t < E.length ∧ t ≠ e := fun j hj => yeJ.1 (hyp.subset (gi_mem hj))
      refine ⟨fun q v6 v7 => Cnt y.length (fun j => v7.length = E.length ∧ ∀ t, t < j → gi v7 (gi y t).toNat = (t : Int)) q v6, Cnt.start ⟨by simp, fun t ht => by omega⟩, ?_⟩
      rintro q _ v7 ⟨j, rfl, rfl, hj, h7l, h7⟩
      simp only [Int.toNat_natCast]
      refine ⟨fun hlt => ?_, fun hge => ?_⟩
      · have hjl : j < y.length := by omega
        obtain ⟨t, ht1, ht2, _⟩ := hyi j hjl
        refine ⟨⟨by omega, by omega⟩, ⟨by omega, by omega⟩, Cnt.next hjl (by omega) ⟨by rw [List.length_set]; exact h7l, fun s hs => ?_⟩⟩
        obtain ⟨u, hu1, hu2, _⟩ := hyi s (by omega)
        rw [ydQ (by omega)]
        by_cases z : s = j
        · subst z; rw [if_pos rfl]
        · have : gi y s ≠ gi y j := fun w => by
            have h9 := List.pairwise_iff_getElem.1 hys s j (by omega) hjl (by omega)
            rw [← ybl (by omega), ← ybl hjl, w] at h9
            exact bfF_irr h9
          rw [if_neg (by omega)]; exact h7 s (by omega)
      · have ej : j = y.length := by omega
        subst ej
        refine ⟨⟨by omega, by omega⟩, ⟨by omega, by omega⟩, ?_⟩
        have e1 : v5.set e (-1) = lesF E.length e := gi_ext (by rw [List.length_set, h5l, yeh]) fun t ht => by
          rw [List.length_set] at ht
          rw [ydQ (by omega), ybl (l := lesF E.length e) (by rw [yeh]; omega)]
          simp only [lesF, List.getElem_map, List.getElem_range]
          by_cases z : t = e
          · rw [if_pos z, if_pos z]
          · rw [if_neg z, if_neg z]; exact h5 t (by omega) z
        have e2 : v7.set e (-1) = shoF K E.length e := gi_ext (by rw [List.length_set, h7l]; simp [shoF]) fun t ht => by
          rw [List.length_set] at ht
          rw [ydQ (by omega), ybl (l := shoF K E.length e) (by simp [shoF]; omega)]
          simp only [shoF, List.getElem_map, List.getElem_range]
          by_cases z : t = e
          · rw [if_pos z, if_pos z]
          · rw [if_neg z, if_neg z]
            have hty : (t : Int) ∈ y := hyp.symm.subset (yeJ.2 ⟨t, rfl, by omega, z⟩)
            obtain ⟨s, hs, hst⟩ := List.mem_iff_getElem.1 hty
            have hgs : gi y s = (t : Int) := by rw [ybl hs]; exact hst
            have h8 := h7 s hs
            rw [hgs, Int.toNat_natCast] at h8
            rw [h8, num_rst]
            have h9 := cnt_sorted hys hs
            rw [hgs, hyp.countP_eq] at h9
            rw [h9]
        rw [e1, e2]; exact h
end
end Go.Proofs.Ytinoedockljfeaa

/- The laws on contract: the program's answers are the reference's. -/
namespace Go.Proofs.Ytinoedockljfeaa
open Go Go.RowKit Go.Shelf Go.Proofs.Try
set_option linter.unusedVariables false
set_option linter.unusedSimpArgs false
theorem few_len {l : List (Int × Int)} (h : l.length ≤ 50) : ¬ Many l := fun ⟨a, b, q⟩ => by have := yfJ l a b; omega
theorem few_of {n : Int} {es : List E3} (h : smallF n es 6 9 = true) : es.length ≤ 40 ∧ (yaZ n es = 0 → n ≤ 6 ∧ (yaI es).length ≤ 9) := by
  unfold smallF at h
  obtain ⟨h1, h2⟩ := of_decide_eq_true h
  refine ⟨h1, fun q2 => ?_⟩
  have h2 := h2 q2
  obtain ⟨k, rfl, G⟩ := yga q2
  rw [G.size] at h2
  omega
theorem p_tri {R : Int → List E3 → Prop} (h : R 3 [(0, 1, 1), (0, 2, 1), (1, 2, 1)]) : ybi R := h
theorem aw_contract {R : Int → List E3 → Int → Prop} (h : R 2 [(0, 1, 2)] 0) : ya0 3 [(0, 1, 1), (0, 2, 1), (1, 2, 1)] 0 R := by
  refine yen (by decide) (fun q => absurd (by decide) q) (fun _ q => absurd q (few_len (by decide))) fun _ _ => ?_
  have key : ∀ x y, x = 2 → y = [(0, 1, 2)] → R x y 0 := by rintro _ _ rfl rfl; exact h
  exact key _ _ (by decide) (by decide)
theorem aw_contract2 {R : Int → List E3 → Int → Prop} (h : R 1 [(0, 0, 1)] 0) : ya0 2 [(0, 1, 2)] 0 R := by
  refine yen (by decide) (fun q => absurd (by decide) q) (fun _ q => absurd q (few_len (by decide))) fun _ _ => ?_
  have key : ∀ x y, x = 1 → y = [(0, 0, 1)] → R x y 0 := by rintro _ _ rfl rfl; exact h
  exact key _ _ (by decide) (by decide)
theorem aw_vertices {R : List Int → Int → Prop} (h : R [0, 0, 1] 0) : ybn 3 [(0, 1, 1), (0, 2, 1), (1, 2, 1)] 0 R := by
  refine ygc (by decide) (fun q => absurd (by decide) q) fun _ => ?_
  have key : ∀ x, x = [0, 0, 1] → R x 0 := by rintro _ rfl; exact h
  exact key _ (by decide)
theorem aw_singles {R : List Int → List Int → Int → Prop} (h : ∀ l, R l [-1, 0, 1] 0) : ybe 3 [(0, 1, 1), (0, 2, 1), (1, 2, 1)] 0 R := by
  refine ydV (by decide) (fun _ => by decide) (fun q => absurd (by decide) q) fun _ => ?_
  have key : ∀ x l, x = [-1, 0, 1] → R l x 0 := by rintro _ l rfl; exact h l
  exact key _ _ (by decide)
def fineG : List E3 := [(0, 3, 1), (0, 4, 1), (1, 3, 1), (1, 5, 1), (2, 4, 1), (2, 5, 1)]
theorem aw_subdivide {R : Int → List E3 → Int → Prop} (h : R 6 fineG 0) : ybj 3 [(0, 1, 1), (0, 2, 1), (1, 2, 1)] 2 R := by
  refine yfw (by decide) (fun q => absurd (by decide) q) fun _ => ?_
  have key : ∀ x y, x = 6 → y = fineG → R x y 0 := by rintro _ _ rfl rfl; exact h
  exact key _ _ (by decide) (by decide)
theorem aw_collect {R : List Int → Int → Prop} (h : R [3, 3] 0) : ybt 3 [(0, 1, 1), (0, 2, 1), (1, 2, 1)] 0 [1, 2, 3] R := by
  refine yfT (by decide) (by decide) (fun q => absurd (by decide) q) (fun _ q => absurd (by decide) q) fun _ _ => ⟨fun _ => ?_, fun q => absurd (by decide) q⟩
  have key : ∀ x, x = [3, 3] → R x 0 := by rintro _ rfl; exact h
  exact key _ (by decide)
theorem ygA {n : Int} {a b : List E3} {R : Bool → Prop} (hl : a.length ≤ 1000000000) (e : a = b) (h : R true) : ycN n a n b R := by
  subst e
  refine ⟨True, fun _ => ⟨Cnt a.length fun _ => True, Cnt.start trivial, ?_⟩, fun _ => ⟨fun _ => trivial, fun q => absurd rfl q⟩, fun q => absurd rfl q⟩
  rintro m _ ⟨k, rfl, rfl, hk, -⟩
  exact ⟨fun hlt => ⟨⟨by omega, by omega⟩, ⟨by omega, by omega⟩, fun _ => Cnt.next (by omega) (by omega) trivial, fun q => absurd rfl q⟩, fun _ => h⟩
theorem p_sameEnds {a b : List (Int × Int)} {R : Bool → Prop} (hl : a.length ≤ 1000000000) (e : a = b) (h : R true) : yci a b R := by
  subst e
  refine ⟨fun _ => ⟨Cnt a.length fun _ => True, Cnt.start trivial, ?_⟩, fun q => absurd rfl q⟩
  rintro m _ ⟨k, rfl, rfl, hk, -⟩
  exact ⟨fun hlt => ⟨⟨by omega, by omega⟩, ⟨by omega, by omega⟩, fun _ => Cnt.next (by omega) (by omega) trivial, fun q => absurd rfl q⟩, fun _ => h⟩
theorem p_sameDiv {a b : List Int} {R : Bool → Prop} (hl : a.length ≤ 1000000000) (e : a = b) (h : R true) : yfh a b R := by
  subst e
  refine ⟨fun _ => ⟨Cnt a.length fun _ => True, Cnt.start trivial, ?_⟩, fun q => absurd rfl q⟩
  rintro m _ ⟨k, rfl, rfl, hk, -⟩
  exact ⟨fun hlt => ⟨⟨by omega, by omega⟩, ⟨by omega, by omega⟩, fun _ => Cnt.next (by omega) (by omega) trivial, fun q => absurd rfl q⟩, fun _ => h⟩
theorem yeX {R : Bool → Prop} (h : R true) : ycd R := by
  refine p_tri (aw_contract (p_tri (aw_vertices (p_tri (aw_singles fun l => aw_contract2 (p_tri (aw_subdivide (p_tri (aw_collect (yds (es := fineG) (by decide) (fun q => absurd (by decide) q) fun _ => ?_))))))))))
  refine ⟨⟨by decide, by decide⟩, ⟨by decide, by decide⟩, ⟨by decide, by decide⟩, ⟨by decide, by decide⟩, ⟨by decide, by decide⟩, ⟨by decide, by decide⟩, fun _ => ?_, fun q => absurd (by decide) q⟩
  refine ygA (by decide) rfl ⟨fun _ => ycX (by decide) ?_, fun q => absurd rfl q⟩
  rw [decide_eq_true (rfl : ([0, 0, 1] : List Int) = [0, 0, 1])]
  refine ⟨fun _ => ycX (by decide) ?_, fun q => absurd rfl q⟩
  rw [decide_eq_true (rfl : ([-1, 0, 1] : List Int) = [-1, 0, 1])]
  refine ⟨fun _ => ygA (by decide) rfl ⟨fun _ => p_sameEnds (by decide) (by decide) ⟨fun _ => ydq (by decide) ?_, fun q => absurd rfl q⟩, fun q => absurd rfl q⟩, fun q => absurd rfl q⟩
  rw [decide_eq_true (rfl : ([3, 3] : List Int) = [3, 3])]
  exact h
theorem yfN : ∀ (es : List E3), (∀ x ∈ es, 1 ≤ x.2.2) → (es.length : Int) ≤ (es.map (·.2.2)).sum
  | [], _ => by simp
  | x :: t, h => by
    have := yfN t fun y hy => h y (by simp [hy])
    have := h x (by simp)
    rw [List.length_cons, List.map_cons, List.sum_cons]; omega
theorem made_len {d : Nat} {l : List (Int × Int)} (hl : yc4 d l) : (made d l).length ≤ l.length := by
  have h := yfN (made d l) fun x hx => by
    obtain ⟨a, b, _, _, h4, rfl⟩ := mem_joinE.1 hx
    simp only; omega
  rw [sum_made l hl] at h
  omega
theorem p_refines {n : Int} {es : List E3} {k : Int} {d : List Int} : yfi n es k d fun r => r = true := by
  refine ⟨smallF n es 6 9 = true ∧ d.length ≤ 40, fun ⟨q, hd⟩ => ?_, p_r08_Few ⟨fun q => ⟨fun _ => yeX rfl, fun z => ⟨q, by omega⟩⟩, fun _ => yeX rfl⟩⟩
  obtain ⟨hl, hs⟩ := few_of q
  have fin : ∀ (N : Int) (a : List E3) (x : Int) (b : List Int) (y : Int), a.length ≤ 1000000000 → b.length ≤ 1000000000 → ycd (fun (r11 : Bool) => ((r11 = true → ycN N a N a (fun (r12 : Bool) => ((r12 = true → ((x = x → yfh b b (fun (r13 : Bool) => ((r13 = true → decide (y = y) = true) ∧ (¬ (r13 = true) → false = true)))) ∧ (¬ (x = x) → false = true))) ∧ (¬ (r12 = true) → false = true)))) ∧ (¬ (r11 = true) → false = true))) := fun N a x b y ha hb =>
    yeX ⟨fun _ => ygA ha rfl ⟨fun _ => ⟨fun _ => p_sameDiv hb rfl ⟨fun _ => decide_eq_true rfl, fun q => absurd rfl q⟩, fun q => absurd rfl q⟩, fun q => absurd rfl q⟩, fun q => absurd rfl q⟩
  by_cases q2 : finF n es k = 0
  · obtain ⟨N, j, rfl, rfl, G, hj, h12⟩ := yfF hl q2
    have hml : (made (N + (yaI es).length * j) (subF (yaI es) N j (yaI es).length)).length ≤ 1000000000 := by
      have h1 := made_len (subF_ok (j := j) G.ok)
      have h2 := yfC (yaI es) N j (yaI es).length
      have h3 : (yaI es).length * (j + 1) = j * (yaI es).length + (yaI es).length := by rw [Nat.mul_add, Nat.mul_one, Nat.mul_comm]
      have h4 := (hs G.g).2
      omega
    have e1 : ((N : Int)).toNat = N := Int.toNat_natCast N
    have e2 : (((j + 1 : Nat) : Int)).toNat - 1 = j := by omega
    refine yfw hl (fun z => absurd q2 z) fun _ => yfy hl (fun z => absurd q2 z) fun _ => ?_
    rw [e1, e2]
    refine p_c_Spread hl hd (fun z => absurd q2 z) (fun _ z => yfx hl hd (fun z => absurd q2 z) (fun _ _ => fin _ _ _ _ _ hml (by simp)) fun _ z2 => absurd z2 z) fun _ z => yfx hl hd (fun z => absurd q2 z) (fun _ z2 => absurd z z2) fun _ _ => fin _ _ _ _ _ hml ?_
    have e : (((j + 1 : Nat) : Int) - 1) * ((yaI es).length : Int) = ((j * (yaI es).length : Nat) : Int) := by
      rw [show ((j + 1 : Nat) : Int) - 1 = (j : Int) by omega]; exact (Int.natCast_mul _ _).symm
    rw [e, Int.toNat_natCast]; simp; omega
  · refine yfw hl (fun _ => yfy hl (fun _ => ?_) fun z => absurd z q2) fun z => absurd z q2
    refine p_c_Spread hl hd (fun _ => yfx hl hd (fun _ => fin _ _ _ _ _ (by simp) (by simp)) (fun z => absurd z q2) fun z => absurd z q2) (fun z => absurd z q2) fun z => absurd z q2
end Go.Proofs.Ytinoedockljfeaa
