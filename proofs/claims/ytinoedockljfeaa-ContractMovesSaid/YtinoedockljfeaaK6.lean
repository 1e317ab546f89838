/- Texts laid together: Cp, Cq, Cs, Ct, Cu, Cv, Cw, Cx. -/
import Derived.Test.YtinoedockljfeaaK5
/- What Delete, Contract, Vertices, Merge, Subdivide, Spread and Collect come to: program and reference. -/
namespace Go.Proofs.Ytinoedockljfeaa
open Go Go.RowKit Go.Shelf Go.Proofs.Try
set_option linter.unusedVariables false
set_option linter.unusedSimpArgs false
theorem cnt_ends {n : Int} : ∀ (es : List E3) (a0 b0 a b : Int), gchk n a0 b0 es = 0 → cntE (yaI es) a b ≤ 50 ∧ (¬ yc6 a0 b0 a b < 0 → cntE (yaI es) a b = 0)
  | [], a0, b0, a, b, _ => by simp [yaI, cntE]
  | x :: t, a0, b0, a, b, h => by
    rw [gchk] at h
    split at h
    case isFalse => cases h
    rename_i h1
    split at h
    case isFalse => cases h
    rename_i h2
    obtain ⟨i1, i2⟩ := cnt_ends t x.1 x.2.1 a b h
    have e : yaI (x :: t) = List.replicate x.2.2.toNat (x.1, x.2.1) ++ yaI t := by unfold yaI; rw [List.flatMap_cons]
    have em : mnF x.1 x.2.1 = x.1 := by simp only [mnF]; split <;> omega
    have ex : mxF x.1 x.2.1 = x.2.1 := by simp only [mxF]; split <;> omega
    have ec : cntE (yaI (x :: t)) a b = (if x.1 = a ∧ x.2.1 = b then (x.2.2.toNat : Int) else 0) + cntE (yaI t) a b := by
      rw [e]
      unfold cntE
      rw [List.countP_append, List.countP_replicate]
      have : isE a b (x.1, x.2.1) = decide (x.1 = a ∧ x.2.1 = b) := by unfold isE; rw [em, ex]
      rw [this]
      by_cases q : x.1 = a ∧ x.2.1 = b <;> simp [q]
    rw [ec]
    have hp := h2.2
    rw [ycF] at hp i2
    rw [ycF]
    by_cases q : x.1 = a ∧ x.2.1 = b
    · have := i2 (by omega)
      rw [if_pos q, this]
      refine ⟨by omega, fun z => by omega⟩
    · rw [if_neg q]
      refine ⟨by omega, fun z => ?_⟩
      have := i2 (by omega)
      omega
theorem GrOk.cnt {n : Nat} {es : List E3} {E : List (Int × Int)} (h : GrOk n es E) : ∀ a b, cntE E a b ≤ 50 := fun a b => by
  rw [← h.e]; exact (cnt_ends es _ _ a b (ydX h.g)).1
theorem cntE_sub {l m : List (Int × Int)} (h : l.Sublist m) (a b : Int) : cntE l a b ≤ cntE m a b := by
  unfold cntE
  exact Int.ofNat_le.2 (h.countP_le)
def othF (E : List (Int × Int)) (e : Nat) : List (Int × Int) := E.take e ++ E.drop (e + 1)
theorem ygR (E : List (Int × Int)) (e : Nat) : (othF E e).Sublist E := by
  unfold othF
  have := List.take_append_drop e E
  conv => rhs; rw [← this]
  refine List.Sublist.append_left ?_ _
  rw [← List.drop_drop]
  exact List.drop_sublist 1 _
theorem ygg {E : List (Int × Int)} {e : Nat} (h : e < E.length) : (othF E e).length = E.length - 1 := by
  unfold othF
  rw [List.length_append, List.length_take, List.length_drop]; omega
theorem yc4.oth {n : Nat} {E : List (Int × Int)} (h : yc4 n E) (e : Nat) : yc4 n (othF E e) := fun x hx => h x ((ygR E e).subset hx)
theorem oth_few {n : Nat} {es : List E3} {E : List (Int × Int)} (h : GrOk n es E) (e : Nat) : ¬ Many (othF E e) := fun ⟨a, b, q⟩ => by
  have := cntE_sub (ygR E e) a b
  have := h.cnt a b
  omega
section
variable {n : Int} {es : List E3} {e : Int}
theorem p_c_Delete (hl : es.length ≤ 40) {R : Int → List E3 → Int → Prop} (he : sglF n es e ≠ 0 → R 0 [] (sglF n es e)) (h : sglF n es e = 0 → R n (made n.toNat (othF (yaI es) e.toNat)) 0) : yfY n es e R := by
  refine ybX (by omega) (fun q => ⟨fun q2 => absurd q2 q, fun _ => he q⟩) fun q => ⟨fun _ => ?_, fun q2 => absurd rfl q2⟩
  have h := h q
  obtain ⟨q1, q2, q3⟩ := ydb q
  obtain ⟨k, rfl, G⟩ := yga q1
  obtain ⟨e, rfl⟩ : ∃ m : Nat, e = m := ⟨e.toNat, by omega⟩
  have hlen := G.len
  rw [Int.toNat_natCast, Int.toNat_natCast] at h
  have et : ((e : Int) + 1).toNat = e + 1 := by omega
  rw [Int.toNat_natCast, et]
  refine ⟨⟨by omega, by omega⟩, ⟨by omega, by omega⟩, ⟨by omega, by omega⟩, p_concat2 (by rw [List.length_take]; omega) (by rw [List.length_drop]; omega) ?_⟩
  exact yeg G.one G.few (G.ok.oth e) (by rw [ygg (by omega)]; omega) (fun z => absurd z (oth_few G e)) fun _ => h
theorem mvF_in {k : Nat} {a b v : Int} (ha : 0 ≤ a) (hab : a ≤ b) (hb : b < k) (hv : 0 ≤ v ∧ v < k) : 0 ≤ mvF a b v ∧ mvF a b v < ((if a = b then k else k - 1 : Nat) : Int) := by
  unfold mvF
  split
  · split <;> omega
  · split
    · rw [if_neg (by omega)]; omega
    · rw [if_neg (by omega)]; omega
theorem sndF_ok {k d : Nat} {f : Int → Int} {E : List (Int × Int)} (hE : yc4 k E) (hf : ∀ v : Int, 0 ≤ v ∧ v < k → 0 ≤ f v ∧ f v < d) : yc4 d (E.map (sndF f)) := fun x hx => by
  obtain ⟨y, hy, rfl⟩ := List.mem_map.1 hx
  obtain ⟨h1, h2⟩ := hE y hy
  have a1 := hf _ h1
  have a2 := hf _ h2
  simp only [sndF, mnF, mxF]
  split <;> split <;> omega
theorem gx_ok {k : Nat} {E : List (Int × Int)} (hE : yc4 k E) {m : Nat} (hm : m < E.length) : (0 ≤ (gx E m).1 ∧ (gx E m).1 < k) ∧ 0 ≤ (gx E m).2 ∧ (gx E m).2 < k := hE _ (by rw [ybx hm]; exact List.getElem_mem hm)
theorem ygQ {a b : Int} (h : a ≤ b) : mnF a b = a ∧ mxF a b = b := by simp only [mnF, mxF]; constructor <;> split <;> omega
def conD (k : Nat) (x : Int × Int) : Nat := if x.1 = x.2 then k else k - 1
def conL (E : List (Int × Int)) (m : Nat) : List (Int × Int) := (othF E m).map (sndF (mvF (gx E m).1 (gx E m).2))
theorem p_fewer {k : Nat} (hk : k ≤ 12) {x : Int × Int} (h1 : 1 ≤ k) {R : Int → Prop} (h : R (conD k x)) : ybf k x.1 x.2 R := by
  unfold conD at h
  refine ⟨fun q => ?_, fun q => ⟨⟨by omega, by omega⟩, ?_⟩⟩
  · rw [if_pos q] at h; exact h
  · rw [if_neg q] at h
    have e : ((k - 1 : Nat) : Int) = (k : Int) - 1 := by omega
    rwa [e] at h
theorem conD_in {k : Nat} {E : List (Int × Int)} {m : Nat} (hE : yc4 k E) (hle : ∀ e ∈ E, e.1 ≤ e.2) (hm : m < E.length) (hk : k ≤ 12) : 1 ≤ conD k (gx E m) ∧ conD k (gx E m) ≤ 12 ∧ yc4 (conD k (gx E m)) (conL E m) := by
  have hx := gx_ok hE hm
  have hl := hle (gx E m) (by rw [ybx hm]; exact List.getElem_mem hm)
  refine ⟨?_, ?_, sndF_ok (hE.oth m) fun v hv => ?_⟩
  · unfold conD; split <;> omega
  · unfold conD; split <;> omega
  · unfold conD
    exact mvF_in hx.1.1 hl hx.2.2 hv
theorem conL_len {E : List (Int × Int)} {m : Nat} (h : m < E.length) : (conL E m).length = E.length - 1 := by unfold conL; rw [List.length_map, ygg h]
theorem yen (hl : es.length ≤ 40) {R : Int → List E3 → Int → Prop} (he : sglF n es e ≠ 0 → R 0 [] (sglF n es e)) (hm : sglF n es e = 0 → Many (conL (yaI es) e.toNat) → R 0 [] 5)
    (h : sglF n es e = 0 → ¬ Many (conL (yaI es) e.toNat) → R (conD n.toNat (gx (yaI es) e.toNat)) (made (conD n.toNat (gx (yaI es) e.toNat)) (conL (yaI es) e.toNat)) 0) : ya0 n es e R := by
  refine ybX (by omega) (fun q => ⟨fun q2 => absurd q2 q, fun _ => he q⟩) fun q => ⟨fun _ => ?_, fun q2 => absurd rfl q2⟩
  replace h := h q
  replace hm := hm q
  clear he
  obtain ⟨q1, q2, q3⟩ := ydb q
  obtain ⟨k, rfl, G⟩ := yga q1
  obtain ⟨e, rfl⟩ : ∃ m : Nat, e = m := ⟨e.toNat, by omega⟩
  have hlen := G.len
  have hee : e < (yaI es).length := by omega
  simp only [Int.toNat_natCast] at h hm
  have et : ((e : Int) + 1).toNat = e + 1 := by omega
  rw [Int.toNat_natCast, et]
  obtain ⟨c1, c2, c3⟩ := conD_in G.ok G.le hee G.few
  have hx := gx_ok G.ok hee
  have hxl := G.le (gx (yaI es) e) (by rw [ybx hee]; exact List.getElem_mem hee)
  have key : ∀ J2 : Int → Int → List E3 → Prop, (∀ v v2 v3, R v2 v3 v → J2 v v2 v3) → ((0 ≤ (e : Int) ∧ (e : Int) ≤ (((yaI es).length : Nat) : Int)) ∧ (In64 ((e : Int) + 1) ∧ ((0 ≤ ((e : Int) + 1) ∧ ((e : Int) + 1) ≤ (((yaI es).length : Nat) : Int)) ∧ ybf k (gx (yaI es) e).1 (gx (yaI es) e).2 (fun (r3 : Int) => ya2 ([((yaI es).take e), ((yaI es).drop (e + 1))]) (fun (r4 : List (Int × Int)) => (yaB (gx (yaI es) e).1 (gx (yaI es) e).2 (fun (r5 : Int) (r6 : Int) => ybm r4 (fun x R => yaD x r5 r6 R) (fun (r7 : List (Int × Int)) => ybB r3 r7 (fun (r8 : Int) (r9 : List (Int × Int × Int)) (r10 : Int) => J2 r10 r8 r9))))))))) := by
    intro J2 hJ
    refine ⟨⟨by omega, by omega⟩, ⟨by omega, by omega⟩, ⟨by omega, by omega⟩, p_fewer G.few G.one (p_concat2 (by rw [List.length_take]; omega) (by rw [List.length_drop]; omega) ?_)⟩
    unfold yaB
    rw [(ygQ hxl).1, (ygQ hxl).2]
    refine ydx (by have := ygg hee; unfold othF at this; rw [this]; omega) (fun y hy R' => ?_) (yeg c1 c2 c3 (by rw [conL_len hee]; omega) (fun z => hJ _ _ _ (hm z)) fun z => hJ _ _ _ (h z))
    have := (G.ok.oth e) y hy
    have hk := G.few
    exact ⟨fun z => ycV (by omega) z, fun z => ycV (by omega) z⟩
  exact ⟨⟨by omega, by omega⟩, by decide, by decide, fun v v2 v3 => R v2 v3 v, fun v v2 v3 z => z, key _ fun _ _ _ z => z, key _ fun _ _ _ z => z⟩
theorem ygc (hl : es.length ≤ 40) {R : List Int → Int → Prop} (he : sglF n es e ≠ 0 → R [] (sglF n es e)) (h : sglF n es e = 0 → R (plcF n.toNat (gx (yaI es) e.toNat).1 (gx (yaI es) e.toNat).2) 0) : ybn n es e R := by
  refine ybX (by omega) (fun q => ⟨fun q2 => absurd q2 q, fun _ => he q⟩) fun q => ⟨fun _ => ?_, fun q2 => absurd rfl q2⟩
  have h := h q
  obtain ⟨q1, q2, q3⟩ := ydb q
  obtain ⟨k, rfl, G⟩ := yga q1
  obtain ⟨e, rfl⟩ : ∃ m : Nat, e = m := ⟨e.toNat, by omega⟩
  have hee : e < (yaI es).length := by omega
  simp only [Int.toNat_natCast] at h ⊢
  have hxl := G.le (gx (yaI es) e) (by rw [ybx hee]; exact List.getElem_mem hee)
  refine ⟨⟨by omega, by omega⟩, by decide, by decide, ?_⟩
  unfold yaB
  rw [(ygQ hxl).1, (ygQ hxl).2]
  exact ydg G.few h
end
section
variable {n : Int} {es : List E3} {a b : Int}
end
end Go.Proofs.Ytinoedockljfeaa

/- What Subdivide, Spread and Collect come to: program and reference. -/
namespace Go.Proofs.Ytinoedockljfeaa
open Go Go.RowKit Go.Shelf Go.Proofs.Try
set_option linter.unusedVariables false
set_option linter.unusedSimpArgs false
def finF (n : Int) (es : List E3) (k : Int) : Int := if yaZ n es ≠ 0 then yaZ n es else if k < 1 ∨ 12 < k then 2 else if 12 < n + (k - 1) * ((yaI es).length : Int) then 5 else 0
section
variable {n : Int} {es : List E3} {k : Int}
theorem fin_mul {k : Int} (h : ¬ (k < 1 ∨ 12 < k)) {L : Nat} (hL : L ≤ 2000) : 0 ≤ (k - 1) * (L : Int) ∧ (k - 1) * (L : Int) ≤ 22000 := by
  have h1 := Int.mul_nonneg (show 0 ≤ k - 1 by omega) (show (0 : Int) ≤ L by omega)
  have h2 := Int.mul_le_mul (show k - 1 ≤ 11 by omega) (show (L : Int) ≤ 2000 by omega) (by omega) (by decide)
  omega
theorem p_c_finer (hl : es.length ≤ 40) {R : List (Int × Int) → Int → Prop} (he : finF n es k ≠ 0 → R [] (finF n es k)) (h : finF n es k = 0 → R (yaI es) 0) : ybZ n es k R := by
  refine yds (by omega) (fun q => ⟨fun q2 => absurd q2 q, fun _ => ?_⟩) fun q => ⟨fun _ => ?_, fun q2 => absurd rfl q2⟩
  · have e1 : finF n es k = yaZ n es := by unfold finF; rw [if_pos q]
    rw [e1] at he; exact he q
  obtain ⟨N, rfl, G⟩ := yga q
  have hlen := G.len
  have hn := G.few
  have h2 : (k < 1 ∨ 12 < k) → R [] 2 := fun z => by
    have e1 : finF N es k = 2 := by unfold finF; rw [if_neg (fun z => z q), if_pos z]
    rw [e1] at he; exact he (by decide)
  refine ⟨¬ (k < 1 ∨ 12 < k), fun z => ?_, fun z => h2 (.inl z), fun z => ⟨fun z2 => h2 (.inr z2), fun z2 => by omega⟩⟩
  have hb := fin_mul z (L := (yaI es).length) (by omega)
  refine ⟨⟨by omega, by omega⟩, ⟨by omega, by omega⟩, ⟨by omega, by omega⟩, fun z2 => ?_, fun z2 => ?_⟩
  · have e1 : finF N es k = 5 := by unfold finF; rw [if_neg (fun z => z q), if_neg z, if_pos z2]
    rw [e1] at he; exact he (by decide)
  · exact h (by unfold finF; rw [if_neg (fun z => z q), if_neg z, if_neg z2])
theorem yfF (hl : es.length ≤ 40) (h : finF n es k = 0) : ∃ N j : Nat, n = N ∧ k = ((j + 1 : Nat) : Int) ∧ GrOk N es (yaI es) ∧ j ≤ 11 ∧ N + j * (yaI es).length ≤ 12 := by
  unfold finF at h
  split at h
  · rename_i q; exact absurd h q
  rename_i q
  have q : yaZ n es = 0 := Classical.byContradiction q
  split at h
  · cases h
  split at h
  · cases h
  rename_i q1 q2
  obtain ⟨N, rfl, G⟩ := yga q
  obtain ⟨j, hj⟩ : ∃ j : Nat, k = ((j + 1 : Nat) : Int) := ⟨(k - 1).toNat, by omega⟩
  refine ⟨N, j, rfl, hj, G, by omega, ?_⟩
  have e : (k - 1) * ((yaI es).length : Int) = ((j * (yaI es).length : Nat) : Int) := by
    rw [show k - 1 = (j : Int) by omega]; exact (Int.natCast_mul _ _).symm
  rw [e] at q2
  omega
end
def atF (a : Int) (nx j : Nat) : Int := if j = 0 then a else ((nx + j - 1 : Nat) : Int)
def wyF (a : Int) (nx j : Nat) : List (Int × Int) := (List.range j).map fun i => (atF a nx i, ((nx + i : Nat) : Int))
theorem wyF_snoc (a : Int) (nx j : Nat) : wyF a nx (j + 1) = wyF a nx j ++ [(atF a nx j, ((nx + j : Nat) : Int))] := by simp [wyF, List.range_succ]
theorem wyF_len (a : Int) (nx j : Nat) : (wyF a nx j).length = j := by simp [wyF]
def pthF (E : List (Int × Int)) (N j i : Nat) : List (Int × Int) := wyF (gx E i).1 (N + i * j) j ++ [(atF (gx E i).1 (N + i * j) j, (gx E i).2)]
def subF (E : List (Int × Int)) (N j i : Nat) : List (Int × Int) := (List.range i).flatMap (pthF E N j)
theorem ye5 (E : List (Int × Int)) (N j i : Nat) : subF E N j (i + 1) = subF E N j i ++ pthF E N j i := by simp [subF, List.range_succ, List.flatMap_append]
theorem pthF_len (E : List (Int × Int)) (N j i : Nat) : (pthF E N j i).length = j + 1 := by simp [pthF, wyF_len]
theorem yfC (E : List (Int × Int)) (N j : Nat) : ∀ i, (subF E N j i).length = i * (j + 1)
  | 0 => by simp [subF]
  | i + 1 => by rw [ye5, List.length_append, yfC E N j i, pthF_len, Nat.add_mul]; omega
theorem atF_in {a : Int} {nx j d : Nat} (ha : 0 ≤ a ∧ a < d) (h : nx + j ≤ d) : 0 ≤ atF a nx j ∧ atF a nx j < d := by
  unfold atF; split <;> omega
theorem subF_ok {E : List (Int × Int)} {N j : Nat} (hE : yc4 N E) : yc4 (N + E.length * j) (subF E N j E.length) := fun x hx => by
  unfold subF at hx
  obtain ⟨i, hi, hx⟩ := List.mem_flatMap.1 hx
  have hi := List.mem_range.1 hi
  have hm : (i + 1) * j ≤ E.length * j := Nat.mul_le_mul_right j hi
  rw [Nat.add_mul] at hm
  have hg := gx_ok hE hi
  unfold pthF at hx
  rcases List.mem_append.1 hx with hx | hx
  · unfold wyF at hx
    obtain ⟨t, ht, rfl⟩ := List.mem_map.1 hx
    have ht := List.mem_range.1 ht
    have := atF_in (a := (gx E i).1) (nx := N + i * j) (j := t) (d := N + E.length * j) (by omega) (by omega)
    simp only; omega
  · rw [List.mem_singleton] at hx
    subst hx
    have := atF_in (a := (gx E i).1) (nx := N + i * j) (j := j) (d := N + E.length * j) (by omega) (by omega)
    simp only; omega
theorem subF_zero (E : List (Int × Int)) (N : Nat) : subF E N 0 E.length = E := by
  have key : ∀ i, i ≤ E.length → subF E N 0 i = E.take i := by
    intro i
    induction i with
    | zero => intro _; simp [subF]
    | succ i ih =>
      intro hi
      have e : pthF E N 0 i = [gx E i] := by simp [pthF, wyF, atF]
      rw [ye5, ih (by omega), e, List.take_add_one, List.getElem?_eq_getElem (show i < E.length by omega), ybx (show i < E.length by omega)]
      rfl
  rw [key _ (Nat.le_refl _), List.take_length]
theorem subF_few {es : List E3} {E : List (Int × Int)} {N j : Nat} (G : GrOk N es E) (h : N + j * E.length ≤ 12) : ¬ Many (subF E N j E.length) := fun ⟨a, b, q⟩ => by
  rcases Nat.eq_zero_or_pos j with rfl | hj
  · rw [subF_zero] at q
    have := G.cnt a b; omega
  · have h1 := yfJ (subF E N j E.length) a b
    rw [yfC, Nat.mul_add, Nat.mul_one] at h1
    have h2 : E.length ≤ j * E.length := Nat.le_mul_of_pos_left _ hj
    rw [Nat.mul_comm E.length j] at h1
    omega
section
variable {n : Int} {es : List E3} {k : Int}
theorem yfw (hl : es.length ≤ 40) {R : Int → List E3 → Int → Prop} (he : finF n es k ≠ 0 → R 0 [] (finF n es k))
    (h : finF n es k = 0 → R ((n.toNat + (yaI es).length * (k.toNat - 1) : Nat) : Int) (made (n.toNat + (yaI es).length * (k.toNat - 1)) (subF (yaI es) n.toNat (k.toNat - 1) (yaI es).length)) 0) : ybj n es k R := by
  refine p_c_finer hl (fun q => ⟨fun q2 => absurd q2 q, fun _ => he q⟩) fun q => ⟨fun _ => ?_, fun q2 => absurd rfl q2⟩
  replace h := h q
  clear he
  obtain ⟨N, j, rfl, rfl, G, hj, h12⟩ := yfF hl q
  have hlen := G.len
  have ek : ((j + 1 : Nat) : Int).toNat - 1 = j := by omega
  rw [Int.toNat_natCast, ek] at h
  generalize hEE : yaI es = E at *
  have hN1 := G.one
  have hjl : E.length * j = j * E.length := Nat.mul_comm _ _
  refine ⟨fun m out next v => Cnt E.length (fun i => out = subF E N j i ∧ next = ((N + i * j : Nat) : Int)) m v, Cnt.start ⟨rfl, by simp⟩, ?_⟩
  rintro m out next _ ⟨i, rfl, rfl, hi, rfl, rfl⟩
  simp only [Int.toNat_natCast]
  have hsl := yfC E N j i
  have him : i * (j + 1) ≤ E.length * (j + 1) := Nat.mul_le_mul_right _ hi
  have hmm : E.length * (j + 1) = E.length * j + E.length := by rw [Nat.mul_add, Nat.mul_one]
  refine ⟨fun hlt => ?_, fun hge => ?_⟩
  · have hil : i < E.length := by omega
    have hm : (i + 1) * j ≤ E.length * j := Nat.mul_le_mul_right j hil
    have hm2 : (i + 1) * j = i * j + j := by rw [Nat.add_mul, Nat.one_mul]
    have hg := gx_ok G.ok hil
    refine ⟨⟨by omega, hlt⟩, by decide, ⟨by omega, by omega⟩, fun m3 out2 next2 at2 t => Cnt j (fun t => out2 = subF E N j i ++ wyF (gx E i).1 (N + i * j) t ∧ next2 = ((N + i * j + t : Nat) : Int) ∧ at2 = atF (gx E i).1 (N + i * j) t) m3 t, Cnt.start ⟨by simp [wyF], by simp, by simp [atF]⟩, ?_⟩
    rintro m3 out2 next2 at2 _ ⟨t, rfl, rfl, ht, rfl, rfl, rfl⟩
    have hwl := wyF_len (gx E i).1 (N + i * j) t
    refine ⟨fun hlt2 => ⟨by rw [List.length_append]; omega, ⟨by omega, by omega⟩, Cnt.next (by omega) (by omega) ⟨?_, by omega, ?_⟩⟩, fun hge2 => ⟨by decide, by rw [List.length_append]; omega, Cnt.next hil (by omega) ⟨?_, ?_⟩⟩⟩
    · rw [wyF_snoc, List.append_assoc]
    · simp [atF]
    · have : t = j := by omega
      subst this
      rw [ye5, pthF, List.append_assoc]
    · have : t = j := by omega
      subst this
      omega
  · have e : i = E.length := by omega
    subst e
    have hok := subF_ok (j := j) G.ok
    exact yeg (by omega) (by omega) hok (by omega) (fun z => absurd z (subF_few G h12)) fun _ => h
end
def chpF (n : Int) (d : List Int) : Int := if (d.length : Int) ≠ n then 8 else if ∃ x ∈ d, x < -1048576 ∨ 1048576 < x then 2 else 0
theorem yfL {n : Int} {es : List E3} {d : List Int} (hl : d.length ≤ 1000000) {R : Int → Prop} (h : R (chpF n d)) : ybF n es d R := by
  refine ⟨fun q => ?_, fun q => ?_⟩
  · refine ycA (p := fun x => decide (x < -1048576 ∨ 1048576 < x)) (by omega) (fun x R' hR => ⟨fun z => ?_, fun z => ?_⟩) ?_
    · rw [decide_eq_true (.inl z)] at hR; exact hR
    · rw [show decide (x < -1048576 ∨ 1048576 < x) = decide (1048576 < x) from by
        by_cases z2 : 1048576 < x
        · rw [decide_eq_true z2, decide_eq_true (.inr z2)]
        · rw [decide_eq_false z2, decide_eq_false (by omega)]] at hR
      exact hR
    · refine ⟨fun z => ?_, fun z => ?_⟩
      · have e1 : chpF n d = 2 := by
          unfold chpF
          rw [if_neg (fun z => z q), if_pos]
          obtain ⟨x, hx, hp⟩ := List.any_eq_true.1 z
          exact ⟨x, hx, of_decide_eq_true hp⟩
        rw [e1] at h; exact h
      · have e1 : chpF n d = 0 := by
          unfold chpF
          rw [if_neg (fun z => z q), if_neg]
          rintro ⟨x, hx, hp⟩
          exact z (List.any_eq_true.2 ⟨x, hx, decide_eq_true hp⟩)
        rw [e1] at h; exact h
  · have e1 : chpF n d = 8 := by unfold chpF; rw [if_pos q]
    rw [e1] at h; exact h
theorem chp_zero {n : Int} {d : List Int} (h : chpF n d = 0) : (d.length : Int) = n ∧ ∀ k, k < d.length → -1048576 ≤ gi d k ∧ gi d k ≤ 1048576 := by
  unfold chpF at h
  split at h
  · cases h
  · rename_i q
    split at h
    · cases h
    · rename_i q2
      refine ⟨Classical.byContradiction q, fun k hk => ?_⟩
      have : ¬ (gi d k < -1048576 ∨ 1048576 < gi d k) := fun z => q2 ⟨_, gi_mem hk, z⟩
      omega
section
variable {n : Int} {es : List E3} {k : Int} {d : List Int}
end
def colF (m : Nat) (f : Int → Int) (d : List Int) : Nat → List Int
  | 0 => List.replicate m 0
  | k + 1 => (colF m f d k).set (f k).toNat (gi (colF m f d k) (f k).toNat + gi d k)
theorem yd0 (m : Nat) (f : Int → Int) (d : List Int) : ∀ k, (colF m f d k).length = m
  | 0 => by simp [colF]
  | k + 1 => by rw [colF, List.length_set, yd0 m f d k]
theorem colF_bound {m : Nat} {f : Int → Int} {d : List Int} (hd : ∀ k, k < d.length → -1048576 ≤ gi d k ∧ gi d k ≤ 1048576) : ∀ k, k ≤ d.length → ∀ i, i < m → -1048576 * (k : Int) ≤ gi (colF m f d k) i ∧ gi (colF m f d k) i ≤ 1048576 * (k : Int)
  | 0, _, i, hi => by
    have : gi (colF m f d 0) i = 0 := by rw [colF, ybl (by simpa using hi)]; simp
    omega
  | k + 1, hk, i, hi => by
    have ih := colF_bound (m := m) (f := f) hd k (by omega)
    have h1 := hd k (by omega)
    have h0 := ih i hi
    rw [colF]
    by_cases q : (f k).toNat < m
    · rw [ydQ (by rw [yd0]; exact q)]
      have h2 := ih _ q
      split <;> omega
    · rw [List.set_eq_of_length_le (by rw [yd0]; omega)]
      omega
section
variable {n : Int} {es : List E3} {e : Int} {d : List Int}
def cltF (n : Int) (es : List E3) (e : Int) (d : List Int) : List Int := colF (conD n.toNat (gx (yaI es) e.toNat)) (mvF (gx (yaI es) e.toNat).1 (gx (yaI es) e.toNat).2) d n.toNat
theorem col_loop {N m : Nat} {f : Int → Int} {P : List Int} {R : List Int → Prop} (hN : N ≤ 12) (hP : P.length = N) (hPf : ∀ k, k < N → gi P k = f k) (hf : ∀ v : Int, 0 ≤ v ∧ v < N → 0 ≤ f v ∧ f v < m) (hdl : d.length = N) (hd : ∀ k, k < d.length → -1048576 ≤ gi d k ∧ gi d k ≤ 1048576) (h : R (colF m f d N)) {t : Int} (ht : t = N) :
    (∃ I2 : Nat → Int → (List Int) → Prop, (∃ m0, I2 m0 0 (List.replicate m (0 : Int))) ∧ ∀ (m2 : Nat) (v : Int) (v2 : List Int), I2 m2 v v2 → 
    ((v < t →
    ((0 ≤ v ∧ v < ((P.length : Nat) : Int)) ∧
    ((0 ≤ (gi P v.toNat) ∧ (gi P v.toNat) < ((v2.length : Nat) : Int)) ∧
    ((0 ≤ v ∧ v < ((d.length : Nat) : Int)) ∧
    (In64 ((gi v2 (gi P v.toNat).toNat) + (gi d v.toNat)) ∧
    (In64 (v + 1) ∧
    ∃ m3, m3 < m2 ∧ I2 m3 (v + 1) (v2.set (gi P v.toNat).toNat ((gi v2 (gi P v.toNat).toNat) + (gi d v.toNat))))))))) ∧
    (¬ (v < t) →
    R v2))) := by
  subst ht
  refine ⟨fun q v out => Cnt N (fun k => out = colF m f d k) q v, Cnt.start rfl, ?_⟩
  rintro q _ out ⟨k, rfl, rfl, hk, rfl⟩
  simp only [Int.toNat_natCast]
  refine ⟨fun hlt => ?_, fun hge => ?_⟩
  · have hkN : k < N := by omega
    rw [hPf k hkN, yd0]
    have h1 := hf k (by omega)
    have h2 := hd k (by omega)
    have h3 := colF_bound (m := m) (f := f) hd k (by omega) (f k).toNat (by omega)
    refine ⟨⟨by omega, by omega⟩, h1, ⟨by omega, by omega⟩, ⟨by omega, by omega⟩, Cnt.next hkN (by omega) rfl⟩
  · have : k = N := by omega
    subst this; exact h
theorem yfT (hl : es.length ≤ 40) (hdl : d.length ≤ 40) {R : List Int → Int → Prop} (he : sglF n es e ≠ 0 → R [] (sglF n es e)) (hc : sglF n es e = 0 → chpF n d ≠ 0 → R [] (chpF n d))
    (h : sglF n es e = 0 → chpF n d = 0 → (chpF ((cltF n es e d).length : Int) (cltF n es e d) = 0 → R (cltF n es e d) 0) ∧ (chpF ((cltF n es e d).length : Int) (cltF n es e d) ≠ 0 → R [] 11)) : ybt n es e d R := by
  refine ybX (by omega) (fun q => ⟨fun q2 => absurd q2 q, fun _ => he q⟩) fun q => ⟨fun _ => yfL (by omega) ⟨fun q2 => ?_, fun q2 => hc q q2⟩, fun q2 => absurd rfl q2⟩
  replace h := h q q2
  clear he hc
  obtain ⟨q1, q4, q3⟩ := ydb q
  obtain ⟨k, rfl, G⟩ := yga q1
  obtain ⟨e, rfl⟩ : ∃ m : Nat, e = m := ⟨e.toNat, by omega⟩
  have hee : e < (yaI es).length := by omega
  obtain ⟨d1, d2⟩ := chp_zero q2
  have hxl := G.le (gx (yaI es) e) (by rw [ybx hee]; exact List.getElem_mem hee)
  have hx := gx_ok G.ok hee
  obtain ⟨c1, c2, c3⟩ := conD_in G.ok G.le hee G.few
  unfold cltF at h
  simp only [Int.toNat_natCast] at h ⊢
  refine ⟨⟨by omega, by omega⟩, by decide, by decide, p_fewer G.few G.one ⟨⟨by omega, by omega⟩, ?_⟩⟩
  unfold yaB
  rw [(ygQ hxl).1, (ygQ hxl).2, Int.toNat_natCast]
  refine ydg G.few (col_loop G.few (ydE k _ _) (fun j hj => gi_plcF _ _ hj) (fun v hv => ?_) (by omega) d2 ?_ (by rw [ydE]))
  · unfold conD; exact mvF_in hx.1.1 hxl hx.2.2 hv
  · exact yfL (by rw [yd0]; omega) h
end
end Go.Proofs.Ytinoedockljfeaa

/- What Singles comes to: a stable sort of few numbers; program and reference. -/
namespace Go.Proofs.Ytinoedockljfeaa
open Go Go.RowKit Go.Shelf Go.Proofs.Try
set_option linter.unusedVariables false
set_option linter.unusedSimpArgs false
theorem swap_list (P S : List Int) (x y : Int) : ((P ++ y :: x :: S).set (P.length + 1) y).set P.length x = P ++ x :: y :: S := by
  rw [List.set_append_right _ _ (by omega), show P.length + 1 - P.length = 1 by omega, List.set_append_right _ _ (Nat.le_refl _), Nat.sub_self]
  rfl
theorem gi_app (P : List Int) (x : Int) (S : List Int) : gi (P ++ x :: S) P.length = x := by
  rw [ybl (by simp)]; simp
theorem gi_app1 (P : List Int) (x y : Int) (S : List Int) : gi (P ++ y :: x :: S) (P.length + 1) = x := by
  rw [ybl (by simp)]; simp [List.getElem_append]
theorem p_insertion {data : List Int} {F : Int → Int → (Int → Prop) → Prop} {c : Int → Int → Int} {lt : Int → Int → Prop} (hl : data.length ≤ 1000) (hF : ∀ x ∈ data, ∀ y ∈ data, ∀ R' : Int → Prop, R' (c x y) → F x y R')
    (h1 : ∀ x ∈ data, ∀ y ∈ data, c x y < 0 → lt x y) (h2 : data.Pairwise fun x y => ¬ c y x < 0 → lt x y) (ht : ∀ x y z, lt x y → lt y z → lt x z) {R : List Int → Prop} (h : ∀ y : List Int, y.Perm data → y.Pairwise lt → R y) {b : Int} (hb : b = data.length) : yaG data 0 b F R := by
  subst hb
  refine ⟨⟨by decide, by decide⟩, ?_⟩
  by_cases h0 : data = []
  · subst h0
    refine ⟨fun m i d => i = 1 ∧ d = [], ⟨0, rfl, rfl⟩, ?_⟩
    rintro m i d ⟨rfl, rfl⟩
    exact ⟨fun q => by simp at q, fun _ => h [] (List.Perm.refl _) List.Pairwise.nil⟩
  have hpos : 0 < data.length := List.length_pos_iff.2 h0
  refine ⟨fun m i d2 => ∃ (k : Nat) (A : List Int), i = k ∧ 1 ≤ k ∧ k + m = data.length ∧ d2 = A ++ data.drop k ∧ A.Perm (data.take k) ∧ A.Pairwise lt, ⟨data.length - 1, 1, data.take 1, rfl, by omega, by omega, (List.take_append_drop 1 data).symm, List.Perm.refl _, ?_⟩, ?_⟩
  · cases data with
    | nil => exact absurd rfl h0
    | cons x t => simp
  rintro m i d2 ⟨k, A, rfl, hk1, hkm, rfl, hA, hAs⟩
  have hAl : A.length = k := by rw [hA.length_eq, List.length_take]; omega
  refine ⟨fun hlt => ?_, fun hge => ?_⟩
  · have hkl : k < data.length := by omega
    obtain ⟨x, hx⟩ : ∃ x, data.drop k = x :: data.drop (k + 1) := ⟨_, List.drop_eq_getElem_cons hkl⟩
    have hxm : x ∈ data := List.mem_of_mem_drop (by rw [hx]; simp)
    have hAm : ∀ y ∈ A, y ∈ data := fun y hy => List.mem_of_mem_take (hA.subset hy)
    have hbefore : ∀ y ∈ A, ¬ c x y < 0 → lt y x := fun y hy => by
      have h3 := h2
      rw [← List.take_append_drop k data, hx, List.pairwise_append] at h3
      exact h3.2.2 y (hA.subset hy) x (by simp)
    refine ⟨fun m3 j d3 => ∃ (p : Nat) (P S : List Int), j = p ∧ m3 = p ∧ P.length = p ∧ A = P ++ S ∧ d3 = P ++ x :: (S ++ data.drop (k + 1)) ∧ ∀ y ∈ S, lt x y, ⟨k, k, A, [], rfl, rfl, hAl, by simp, by rw [hx]; simp, by simp⟩, ?_⟩
    rintro m3 j d3 ⟨p, P, S, rfl, hmp, hP, hPS, rfl, hS⟩
    have hPl : P.length + S.length = k := by rw [← hAl, hPS, List.length_append]
    have hdone : (∀ y ∈ P, lt y x) → In64 ((k : Int) + 1) ∧ ∃ m5, m5 < m ∧ ∃ (k2 : Nat) (A : List Int), ((k : Int) + 1) = k2 ∧ 1 ≤ k2 ∧ k2 + m5 = data.length ∧ P ++ x :: (S ++ data.drop (k + 1)) = A ++ data.drop k2 ∧ A.Perm (data.take k2) ∧ A.Pairwise lt := by
      intro hPx
      refine ⟨⟨by omega, by omega⟩, m - 1, by omega, k + 1, P ++ x :: S, by omega, by omega, by omega, by simp, ?_, ?_⟩
      · have e1 : data.take (k + 1) = data.take k ++ [x] := by
          rw [List.take_add_one, List.getElem?_eq_getElem hkl]
          have : data[k] = x := by rw [List.drop_eq_getElem_cons hkl] at hx; exact (List.cons.inj hx).1
          rw [this]; rfl
        rw [e1]
        refine List.Perm.trans List.perm_middle ?_
        rw [← hPS]
        exact (List.perm_append_singleton x A).symm.trans (hA.append_right [x])
      · rw [hPS, List.pairwise_append] at hAs
        rw [List.pairwise_append, List.pairwise_cons]
        exact ⟨hAs.1, ⟨hS, hAs.2.1⟩, fun y hy z hz => by
          rcases List.mem_cons.1 hz with rfl | hz
          · exact hPx y hy
          · exact hAs.2.2 y hy z hz⟩
    refine ⟨0 < p ∧ ∃ P' y, P = P' ++ [y] ∧ c x y < 0, fun ⟨hp, P', y, hPy, hc⟩ => ?_, fun hp => ?_, fun hp => ?_⟩
    · subst hPy
      have hP' : P'.length = p - 1 := by rw [List.length_append, List.length_singleton] at hP; omega
      have e1 : ((p : Int) - 1).toNat = P'.length := by omega
      have e2 : ((p : Int)).toNat = P'.length + 1 := by omega
      have e3 : (P' ++ [y]) ++ x :: (S ++ data.drop (k + 1)) = P' ++ y :: x :: (S ++ data.drop (k + 1)) := by simp
      have hlen : (P' ++ y :: x :: (S ++ data.drop (k + 1))).length = P'.length + 2 + S.length + (data.length - (k + 1)) := by simp; omega
      rw [e3, e1, e2, gi_app, gi_app1, List.length_set, hlen, swap_list]
      refine ⟨⟨by omega, by omega⟩, ⟨by omega, by omega⟩, ⟨by omega, by omega⟩, ⟨by omega, by omega⟩, p - 1, by omega, p - 1, P', y :: S, by omega, rfl, hP', by rw [hPS]; simp, by simp, fun z hz => ?_⟩
      rcases List.mem_cons.1 hz with rfl | hz
      · exact h1 _ hxm _ (hAm _ (by rw [hPS]; simp)) hc
      · exact hS z hz
    · obtain ⟨P', y, hPy⟩ : ∃ P' y, P = P' ++ [y] := by
        have hne : P ≠ [] := by rintro rfl; simp at hP; omega
        exact ⟨P.dropLast, P.getLast hne, (List.dropLast_concat_getLast hne).symm⟩
      subst hPy
      have hP' : P'.length = p - 1 := by rw [List.length_append, List.length_singleton] at hP; omega
      have e1 : ((p : Int) - 1).toNat = P'.length := by omega
      have e2 : ((p : Int)).toNat = P'.length + 1 := by omega
      have e3 : (P' ++ [y]) ++ x :: (S ++ data.drop (k + 1)) = P' ++ y :: x :: (S ++ data.drop (k + 1)) := by simp
      have hlen : (P' ++ y :: x :: (S ++ data.drop (k + 1))).length = P'.length + 2 + S.length + (data.length - (k + 1)) := by simp; omega
      have hym : y ∈ data := hAm _ (by rw [hPS]; simp)
      rw [e3] at hdone ⊢
      rw [e1, e2, gi_app, gi_app1, hlen]
      refine ⟨⟨by omega, by omega⟩, ⟨by omega, by omega⟩, ⟨by omega, by omega⟩, hF x hxm y hym _ ⟨fun q => ⟨by omega, P', y, rfl, q⟩, fun q => hdone fun z hz => ?_⟩⟩
      have hyx := hbefore y (by rw [hPS]; simp) q
      rcases List.mem_append.1 hz with hz | hz
      · rw [hPS, List.pairwise_append] at hAs
        rw [List.pairwise_append] at hAs
        exact ht _ _ _ (hAs.1.2.2 z hz y (by simp)) hyx
      · rw [List.mem_singleton] at hz; subst hz; exact hyx
    · have hp0 : p = 0 := by omega
      have hPn : P = [] := List.eq_nil_of_length_eq_zero (by omega)
      subst hPn
      exact hdone fun z hz => by simp at hz
  · have e : k = data.length := by omega
    subst e
    rw [List.drop_length, List.append_nil]
    rw [List.take_length] at hA
    exact h A hA hAs
theorem p_stable {data : List Int} {F : Int → Int → (Int → Prop) → Prop} {c : Int → Int → Int} {lt : Int → Int → Prop} (hl : data.length ≤ 19) (hF : ∀ x ∈ data, ∀ y ∈ data, ∀ R' : Int → Prop, R' (c x y) → F x y R')
    (h1 : ∀ x ∈ data, ∀ y ∈ data, c x y < 0 → lt x y) (h2 : data.Pairwise fun x y => ¬ c y x < 0 → lt x y) (ht : ∀ x y z, lt x y → lt y z → lt x z) {R : List Int → Prop} (h : ∀ y : List Int, y.Perm data → y.Pairwise lt → R y) : ya5 data F R := by
  refine ⟨fun m a b d => a = 0 ∧ b = 20 ∧ d = data, ⟨0, rfl, rfl, rfl⟩, ?_⟩
  rintro m a b d ⟨rfl, rfl, rfl⟩
  refine ⟨fun q => by omega, fun _ => p_insertion (by omega) hF h1 h2 ht (fun y hy hs => ⟨fun m b => b = 20, ⟨0, rfl⟩, ?_⟩) rfl⟩
  rintro m b rfl
  exact ⟨fun q => by omega, fun _ => h y hy hs⟩
def bfF (K : List (Int × Int)) (i j : Int) : Prop := ((gx K i.toNat).1 < (gx K j.toNat).1 ∨ (gx K i.toNat).1 = (gx K j.toNat).1 ∧ (gx K i.toNat).2 < (gx K j.toNat).2) ∨ gx K i.toNat = gx K j.toNat ∧ i < j
instance (K : List (Int × Int)) (i j : Int) : Decidable (bfF K i j) := by unfold bfF; exact inferInstance
def lesF (m e : Nat) : List Int := (List.range m).map fun i => if i = e then -1 else if i < e then (i : Int) else (i : Int) - 1
def numF (K : List (Int × Int)) (e i k : Nat) : Nat := (List.range k).countP fun j => decide (j ≠ e ∧ bfF K j i)
def shoF (K : List (Int × Int)) (m e : Nat) : List Int := (List.range m).map fun i => if i = e then -1 else (numF K e i m : Int)
theorem yeh (m e : Nat) : (lesF m e).length = m := by simp [lesF]
theorem numF_succ (K : List (Int × Int)) (e i k : Nat) : numF K e i (k + 1) = numF K e i k + if k ≠ e ∧ bfF K k i then 1 else 0 := by
  unfold numF
  rw [List.range_succ, List.countP_append]
  by_cases q : k ≠ e ∧ bfF K k i
  · rw [if_pos q]; simp [q]
  · rw [if_neg q]; simp [q]
section
variable {n : Int} {es : List E3} {e : Int}
def rstF (e k : Nat) : List Int := ((List.range k).filter fun i => decide (i ≠ e)).map fun i : Nat => (i : Int)
theorem yeN (e k : Nat) : rstF e (k + 1) = rstF e k ++ if k = e then [] else [(k : Int)] := by
  unfold rstF
  rw [List.range_succ, List.filter_append, List.map_append]
  by_cases q : k = e
  · simp [q]
  · simp [q]
theorem rstF_len (e : Nat) : ∀ k, (rstF e k).length = if k ≤ e then k else k - 1
  | 0 => by simp [rstF]
  | k + 1 => by
    rw [yeN, List.length_append, rstF_len e k]
    by_cases q : k = e
    · subst q; rw [if_pos (Nat.le_refl _), if_pos rfl, if_neg (by omega)]; simp
    · rw [if_neg q]
      split
      · rw [if_pos (by omega)]; simp
      · rw [if_neg (by omega)]; simp; omega
theorem yeJ {e k : Nat} {x : Int} : x ∈ rstF e k ↔ ∃ i : Nat, x = i ∧ i < k ∧ i ≠ e := by
  unfold rstF
  simp only [List.mem_map, List.mem_filter, List.mem_range, decide_eq_true_eq]
  constructor
  · rintro ⟨i, ⟨h1, h2⟩, rfl⟩; exact ⟨i, rfl, h1, h2⟩
  · rintro ⟨i, rfl, h1, h2⟩; exact ⟨i, ⟨h1, h2⟩, rfl⟩
theorem ye2 (e k : Nat) : (rstF e k).Pairwise (· < ·) := by
  unfold rstF
  rw [List.pairwise_map]
  exact (List.pairwise_lt_range.filter _).imp fun h => by omega
theorem ygV {K : List (Int × Int)} {x y z : Int} (h1 : bfF K x y) (h2 : bfF K y z) : bfF K x z := by
  unfold bfF at *
  rcases h1 with h1 | ⟨h1, h3⟩
  · rcases h2 with h2 | ⟨h2, h4⟩
    · exact .inl (by omega)
    · rw [← h2]; exact .inl h1
  · rcases h2 with h2 | ⟨h2, h4⟩
    · rw [h1]; exact .inl h2
    · exact .inr ⟨h1.trans h2, by omega⟩
theorem ygW {K : List (Int × Int)} {x : Int} (h : bfF K x x) : False := by
  unfold bfF at h
  rcases h with h | ⟨_, h⟩ <;> omega
theorem cnt_sorted {K : List (Int × Int)} {y : List Int} (hs : y.Pairwise (bfF K)) {j : Nat} (hj : j < y.length) : y.countP (fun x => decide (bfF K x (gi y j))) = j := by
  have e : y = y.take j ++ gi y j :: y.drop (j + 1) := by
    rw [ybl hj, ← List.drop_eq_getElem_cons hj, List.take_append_drop]
  have h2 := hs
  rw [e, List.pairwise_append, List.pairwise_cons] at h2
  generalize hx : gi y j = x at h2 e ⊢
  have h3 : y.countP (fun z => decide (bfF K z x)) = (y.take j).countP (fun z => decide (bfF K z x)) + (x :: y.drop (j + 1)).countP (fun z => decide (bfF K z x)) := by
    conv => lhs; rw [e]
    exact List.countP_append
  rw [h3]
  have a1 : (y.take j).countP (fun z => decide (bfF K z x)) = j := by
    have : (y.take j).countP (fun z => decide (bfF K z x)) = (y.take j).length := List.countP_eq_length.2 fun z hz => decide_eq_true (h2.2.2 z hz x (by simp))
    rw [this, List.length_take]; omega
  have a2 : (x :: y.drop (j + 1)).countP (fun z => decide (bfF K z x)) = 0 := by
    rw [List.countP_eq_zero]
    intro z hz hb
    have hb := of_decide_eq_true hb
    rcases List.mem_cons.1 hz with rfl | hz
    · exact ygW hb
    · exact ygW (ygV hb (h2.2.1.1 z hz))
  rw [a1, a2, Nat.add_zero]
theorem num_rst (K : List (Int × Int)) (e i k : Nat) : numF K e i k = (rstF e k).countP fun x => decide (bfF K x i) := by
  induction k with
  | zero => rfl
  | succ k ih =>
    rw [numF_succ, yeN, List.countP_append, ← ih]
    congr 1
    by_cases q : k = e
    · rw [if_pos q, if_neg (fun z => z.1 q)]; rfl
    · rw [if_neg q]
      by_cases q2 : bfF K k i
      · rw [if_pos ⟨q, q2⟩]; simp [q2]
      · rw [if_neg (fun z => q2 z.2)]; simp [q2]
theorem ydV (hl : es.length ≤ 40) (hsm : yaZ n es = 0 → (yaI es).length ≤ 20) {R : List Int → List Int → Int → Prop} (he : sglF n es e ≠ 0 → R [] [] (sglF n es e))
    (h : sglF n es e = 0 → R (lesF (yaI es).length e.toNat) (shoF ((yaI es).map (sndF (mvF (gx (yaI es) e.toNat).1 (gx (yaI es) e.toNat).2))) (yaI es).length e.toNat) 0) : ybe n es e R := by
  refine ybX (by omega) (fun q => ⟨fun q2 => absurd q2 q, fun _ => he q⟩) fun q => ⟨fun _ => ?_, fun q2 => absurd rfl q2⟩
  replace h := h q
  clear he
  obtain ⟨q1, q2, q3⟩ := ydb q
  obtain ⟨k, rfl, G⟩ := yga q1
  obtain ⟨e, rfl⟩ : ∃ m : Nat, e = m := ⟨e.toNat, by omega⟩
  replace hsm := hsm q1
  have hlen := G.len
  have hee : e < (yaI es).length := by omega
  rw [Int.toNat_natCast] at h
  generalize hEE : yaI es = E at *
  have hxl := G.le (gx E e) (by rw [ybx hee]; exact List.getElem_mem hee)
  have hx := gx_ok G.ok hee
  rw [Int.toNat_natCast]
  refine ⟨⟨by omega, by omega⟩, by decide, by decide, ?_⟩
  unfold yaB
  rw [(ygQ hxl).1, (ygQ hxl).2]
  have hk := G.few
  refine ydx (by omega) (fun y hy R' => by
    have := G.ok y hy
    exact ⟨fun z => ycV (by omega) z, fun z => ycV (by omega) z⟩) ?_
  generalize hK : E.map (sndF (mvF (gx E e).1 (gx E e).2)) = K at h ⊢
  have hKl : K.length = E.length := by rw [← hK, List.length_map]
  refine ⟨fun v v2 => v = List.replicate E.length 0 ∧ v2 = List.replicate E.length 0, ?_, ⟨⟨by omega, by omega⟩, by rw [Int.toNat_natCast]; exact ⟨rfl, rfl⟩⟩, ⟨by omega, by omega⟩, by rw [Int.toNat_natCast]; exact ⟨rfl, rfl⟩⟩
  rintro v v2 ⟨rfl, rfl⟩
  refine ⟨fun q v3 v4 v5 => Cnt E.length (fun i => v3 = rstF e i ∧ v5.length = E.length ∧ ∀ t, t < i → t ≠ e → gi v5 t = if t < e then (t : Int) else (t : Int) - 1) q v4, Cnt.start ⟨rfl, by simp, fun t ht => by omega⟩, ?_⟩
  rintro q v3 _ v5 ⟨i, rfl, rfl, hi, rfl, h5l, h5⟩
  simp only [Int.toNat_natCast]
  have hrs := yeN e i
  have hrl := rstF_len e i
  refine ⟨fun hlt => ⟨fun z => Cnt.next (by omega) (by omega) ⟨?_, h5l, fun t ht hne => h5 t (by omega) hne⟩, fun z => ⟨⟨by omega, by omega⟩, by rw [hrl]; split <;> omega, Cnt.next (by omega) (by omega) ⟨?_, by rw [List.length_set]; exact h5l, fun t ht hne => ?_⟩⟩⟩, fun hge => ?_⟩
  · rw [hrs, if_pos (by omega), List.append_nil]
  · rw [hrs, if_neg (by omega)]
  · rw [ydQ (by omega)]
    by_cases z2 : t = i
    · subst z2
      rw [if_pos rfl, hrl]
      split
      · rw [if_pos (by omega)]
      · rw [if_neg (by omega)]; omega
    · rw [if_neg z2]; exact h5 t (by omega) hne
  · have ei : i = E.length := by omega
    subst ei
    rw [if_neg (by omega)] at hrl
    refine p_stable (lt := bfF K) (c := fun x y => yc6 (gx K x.toNat).1 (gx K x.toNat).2 (gx K y.toNat).1 (gx K y.toNat).2) (by omega) (fun x hx y hy R' hR => ?_) (fun x hx y hy hc => .inl (ycF.1 hc)) ?_ (fun x y z => ygV) fun y hyp hys => ?_
    · obtain ⟨i1, rfl, i2, _⟩ := yeJ.1 hx
      obtain ⟨j1, rfl, j2, _⟩ := yeJ.1 hy
      simp only [Int.toNat_natCast] at hR
      refine ⟨⟨by omega, by omega⟩, by decide, ⟨by omega, by omega⟩, by decide, ?_⟩
      simp only [Int.toNat_natCast]
      exact ycH (ycH (p_cmp_Or2 hR))
    · refine (ye2 e E.length).imp fun {a b} hab hc => ?_
      rw [ycF] at hc
      unfold bfF
      by_cases z : (gx K a.toNat).1 < (gx K b.toNat).1 ∨ (gx K a.toNat).1 = (gx K b.toNat).1 ∧ (gx K a.toNat).2 < (gx K b.toNat).2
      · exact .inl z
      · exact .inr ⟨Prod.ext (by omega) (by omega), hab⟩
    · have hyl : y.length = E.length - 1 := by rw [hyp.length_eq, hrl]
      have hyd : y.Nodup := hyp.nodup_iff.2 ((ye2 e E.length).imp fun h => by omega)
      have hyi : ∀ j, j < y.length → ∃ t : Nat, gi y j = t ∧ t < E.length ∧ t ≠ e := fun j hj => yeJ.1 (hyp.subset (gi_mem hj))
      refine ⟨fun q v6 v7 => Cnt y.length (fun j => v7.length = E.length ∧ ∀ t, t < j → gi v7 (gi y t).toNat = (t : Int)) q v6, Cnt.start ⟨by simp, fun t ht => by omega⟩, ?_⟩
      rintro q _ v7 ⟨j, rfl, rfl, hj, h7l, h7⟩
      simp only [Int.toNat_natCast]
      refine ⟨fun hlt => ?_, fun hge => ?_⟩
      · have hjl : j < y.length := by omega
        obtain ⟨t, ht1, ht2, _⟩ := hyi j hjl
        refine ⟨⟨by omega, by omega⟩, ⟨by omega, by omega⟩, Cnt.next hjl (by omega) ⟨by rw [List.length_set]; exact h7l, fun s hs => ?_⟩⟩
        obtain ⟨u, hu1, hu2, _⟩ := hyi s (by omega)
        rw [ydQ (by omega)]
        by_cases z : s = j
        · subst z; rw [if_pos rfl]
        · have : gi y s ≠ gi y j := fun w => by
            have h9 := List.pairwise_iff_getElem.1 hys s j (by omega) hjl (by omega)
            rw [← ybl (by omega), ← ybl hjl, w] at h9
            exact ygW h9
          rw [if_neg (by omega)]; exact h7 s (by omega)
      · have ej : j = y.length := by omega
        subst ej
        refine ⟨⟨by omega, by omega⟩, ⟨by omega, by omega⟩, ?_⟩
        have e1 : v5.set e (-1) = lesF E.length e := gi_ext (by rw [List.length_set, h5l, yeh]) fun t ht => by
          rw [List.length_set] at ht
          rw [ydQ (by omega), ybl (l := lesF E.length e) (by rw [yeh]; omega)]
          simp only [lesF, List.getElem_map, List.getElem_range]
          by_cases z : t = e
          · rw [if_pos z, if_pos z]
          · rw [if_neg z, if_neg z]; exact h5 t (by omega) z
        have e2 : v7.set e (-1) = shoF K E.length e := gi_ext (by rw [List.length_set, h7l]; simp [shoF]) fun t ht => by
          rw [List.length_set] at ht
          rw [ydQ (by omega), ybl (l := shoF K E.length e) (by simp [shoF]; omega)]
          simp only [shoF, List.getElem_map, List.getElem_range]
          by_cases z : t = e
          · rw [if_pos z, if_pos z]
          · rw [if_neg z, if_neg z]
            have hty : (t : Int) ∈ y := hyp.symm.subset (yeJ.2 ⟨t, rfl, by omega, z⟩)
            obtain ⟨s, hs, hst⟩ := List.mem_iff_getElem.1 hty
            have hgs : gi y s = (t : Int) := by rw [ybl hs]; exact hst
            have h8 := h7 s hs
            rw [hgs, Int.toNat_natCast] at h8
            rw [h8, num_rst]
            have h9 := cnt_sorted hys hs
            rw [hgs, hyp.countP_eq] at h9
            rw [h9]
        rw [e1, e2]; exact h
end
end Go.Proofs.Ytinoedockljfeaa

/- The laws on contract: the program's answers are the reference's. -/
namespace Go.Proofs.Ytinoedockljfeaa
open Go Go.RowKit Go.Shelf Go.Proofs.Try
set_option linter.unusedVariables false
set_option linter.unusedSimpArgs false
theorem few_len {l : List (Int × Int)} (h : l.length ≤ 50) : ¬ Many l := fun ⟨a, b, q⟩ => by have := yfJ l a b; omega
theorem few_of {n : Int} {es : List E3} (h : smallF n es 6 9 = true) : es.length ≤ 40 ∧ (yaZ n es = 0 → n ≤ 6 ∧ (yaI es).length ≤ 9) := by
  unfold smallF at h
  obtain ⟨h1, h2⟩ := of_decide_eq_true h
  refine ⟨h1, fun q2 => ?_⟩
  have h2 := h2 q2
  obtain ⟨k, rfl, G⟩ := yga q2
  rw [G.size] at h2
  omega
theorem p_tri {R : Int → List E3 → Prop} (h : R 3 [(0, 1, 1), (0, 2, 1), (1, 2, 1)]) : ybi R := h
theorem aw_contract {R : Int → List E3 → Int → Prop} (h : R 2 [(0, 1, 2)] 0) : ya0 3 [(0, 1, 1), (0, 2, 1), (1, 2, 1)] 0 R := by
  refine yen (by decide) (fun q => absurd (by decide) q) (fun _ q => absurd q (few_len (by decide))) fun _ _ => ?_
  have key : ∀ x y, x = 2 → y = [(0, 1, 2)] → R x y 0 := by rintro _ _ rfl rfl; exact h
  exact key _ _ (by decide) (by decide)
theorem aw_contract2 {R : Int → List E3 → Int → Prop} (h : R 1 [(0, 0, 1)] 0) : ya0 2 [(0, 1, 2)] 0 R := by
  refine yen (by decide) (fun q => absurd (by decide) q) (fun _ q => absurd q (few_len (by decide))) fun _ _ => ?_
  have key : ∀ x y, x = 1 → y = [(0, 0, 1)] → R x y 0 := by rintro _ _ rfl rfl; exact h
  exact key _ _ (by decide) (by decide)
theorem aw_vertices {R : List Int → Int → Prop} (h : R [0, 0, 1] 0) : ybn 3 [(0, 1, 1), (0, 2, 1), (1, 2, 1)] 0 R := by
  refine ygc (by decide) (fun q => absurd (by decide) q) fun _ => ?_
  have key : ∀ x, x = [0, 0, 1] → R x 0 := by rintro _ rfl; exact h
  exact key _ (by decide)
theorem aw_singles {R : List Int → List Int → Int → Prop} (h : ∀ l, R l [-1, 0, 1] 0) : ybe 3 [(0, 1, 1), (0, 2, 1), (1, 2, 1)] 0 R := by
  refine ydV (by decide) (fun _ => by decide) (fun q => absurd (by decide) q) fun _ => ?_
  have key : ∀ x l, x = [-1, 0, 1] → R l x 0 := by rintro _ l rfl; exact h l
  exact key _ _ (by decide)
def fineG : List E3 := [(0, 3, 1), (0, 4, 1), (1, 3, 1), (1, 5, 1), (2, 4, 1), (2, 5, 1)]
theorem aw_subdivide {R : Int → List E3 → Int → Prop} (h : R 6 fineG 0) : ybj 3 [(0, 1, 1), (0, 2, 1), (1, 2, 1)] 2 R := by
  refine yfw (by decide) (fun q => absurd (by decide) q) fun _ => ?_
  have key : ∀ x y, x = 6 → y = fineG → R x y 0 := by rintro _ _ rfl rfl; exact h
  exact key _ _ (by decide) (by decide)
theorem aw_collect {R : List Int → Int → Prop} (h : R [3, 3] 0) : ybt 3 [(0, 1, 1), (0, 2, 1), (1, 2, 1)] 0 [1, 2, 3] R := by
  refine yfT (by decide) (by decide) (fun q => absurd (by decide) q) (fun _ q => absurd (by decide) q) fun _ _ => ⟨fun _ => ?_, fun q => absurd (by decide) q⟩
  have key : ∀ x, x = [3, 3] → R x 0 := by rintro _ rfl; exact h
  exact key _ (by decide)
theorem ygA {n : Int} {a b : List E3} {R : Bool → Prop} (hl : a.length ≤ 1000000000) (e : a = b) (h : R true) : ycN n a n b R := by
  subst e
  refine ⟨True, fun _ => ⟨Cnt a.length fun _ => True, Cnt.start trivial, ?_⟩, fun _ => ⟨fun _ => trivial, fun q => absurd rfl q⟩, fun q => absurd rfl q⟩
  rintro m _ ⟨k, rfl, rfl, hk, -⟩
  exact ⟨fun hlt => ⟨⟨by omega, by omega⟩, ⟨by omega, by omega⟩, fun _ => Cnt.next (by omega) (by omega) trivial, fun q => absurd rfl q⟩, fun _ => h⟩
theorem p_sameEnds {a b : List (Int × Int)} {R : Bool → Prop} (hl : a.length ≤ 1000000000) (e : a = b) (h : R true) : yci a b R := by
  subst e
  refine ⟨fun _ => ⟨Cnt a.length fun _ => True, Cnt.start trivial, ?_⟩, fun q => absurd rfl q⟩
  rintro m _ ⟨k, rfl, rfl, hk, -⟩
  exact ⟨fun hlt => ⟨⟨by omega, by omega⟩, ⟨by omega, by omega⟩, fun _ => Cnt.next (by omega) (by omega) trivial, fun q => absurd rfl q⟩, fun _ => h⟩
theorem yeX {R : Bool → Prop} (h : R true) : ycd R := by
  refine p_tri (aw_contract (p_tri (aw_vertices (p_tri (aw_singles fun l => aw_contract2 (p_tri (aw_subdivide (p_tri (aw_collect (yds (es := fineG) (by decide) (fun q => absurd (by decide) q) fun _ => ?_))))))))))
  refine ⟨⟨by decide, by decide⟩, ⟨by decide, by decide⟩, ⟨by decide, by decide⟩, ⟨by decide, by decide⟩, ⟨by decide, by decide⟩, ⟨by decide, by decide⟩, fun _ => ?_, fun q => absurd (by decide) q⟩
  refine ygA (by decide) rfl ⟨fun _ => ycX (by decide) ?_, fun q => absurd rfl q⟩
  rw [decide_eq_true (rfl : ([0, 0, 1] : List Int) = [0, 0, 1])]
  refine ⟨fun _ => ycX (by decide) ?_, fun q => absurd rfl q⟩
  rw [decide_eq_true (rfl : ([-1, 0, 1] : List Int) = [-1, 0, 1])]
  refine ⟨fun _ => ygA (by decide) rfl ⟨fun _ => p_sameEnds (by decide) (by decide) ⟨fun _ => ydq (by decide) ?_, fun q => absurd rfl q⟩, fun q => absurd rfl q⟩, fun q => absurd rfl q⟩
  rw [decide_eq_true (rfl : ([3, 3] : List Int) = [3, 3])]
  exact h
theorem yfN : ∀ (es : List E3), (∀ x ∈ es, 1 ≤ x.2.2) → (es.length : Int) ≤ (es.map (·.2.2)).sum
  | [], _ => by simp
  | x :: t, h => by
    have := yfN t fun y hy => h y (by simp [hy])
    have := h x (by simp)
    rw [List.length_cons, List.map_cons, List.sum_cons]; omega
theorem made_len {d : Nat} {l : List (Int × Int)} (hl : yc4 d l) : (made d l).length ≤ l.length := by
  have h := yfN (made d l) fun x hx => by
    obtain ⟨a, b, _, _, h4, rfl⟩ := ygN.1 hx
    simp only; omega
  rw [sum_made l hl] at h
  omega
end Go.Proofs.Ytinoedockljfeaa

/- The law on what Delete, Contract, Vertices and Merge change. -/
namespace Go.Proofs.Ytinoedockljfeaa
open Go Go.RowKit Go.Shelf Go.Proofs.Try
set_option linter.unusedVariables false
set_option linter.unusedSimpArgs false
section
variable {n : Int} {es : List E3} {e a b : Int}
end
end Go.Proofs.Ytinoedockljfeaa

/- The law on degrees: divisors keep them when they are collected or spread. -/
namespace Go.Proofs.Ytinoedockljfeaa
open Go Go.RowKit Go.Shelf Go.Proofs.Try
set_option linter.unusedVariables false
set_option linter.unusedSimpArgs false
structure RtG (n : Int) (es : List E3) (e : Int) (k m : Nat) : Prop where
  hn : n = k
  he : e = m
  G : GrOk k es (yaI es)
  hl : es.length ≤ 40
  hk : k ≤ 6
  hE : (yaI es).length ≤ 9
  hm : m < (yaI es).length
theorem p_l12_right {n : Int} {es : List E3} {e : Int} {R : Bool → Prop} (h1 : ∀ k m, RtG n es e k m → R true) (h2 : R false) : ygH n es e R := by
  refine p_r08_Few ⟨fun q => ?_, fun _ => h2⟩
  obtain ⟨hl, hs⟩ := few_of q
  refine ye7 (by omega) ⟨fun q2 => ⟨fun q3 => ?_, fun _ => h2⟩, fun _ => h2⟩
  obtain ⟨k, rfl, G⟩ := yga q2
  obtain ⟨hk, hE⟩ := hs q2
  refine p_size8 G (by omega) ?_
  by_cases q4 : e < ((yaI es).length : Int)
  · rw [decide_eq_true q4]
    exact h1 k e.toNat ⟨rfl, by omega, G, hl, by omega, hE, by omega⟩
  · rw [decide_eq_false q4]; exact h2
theorem RtG.sgl {n : Int} {es : List E3} {e : Int} {k m : Nat} (h : RtG n es e k m) : sglF n es e = 0 := by
  obtain ⟨rfl, rfl, G, hl, hk, hE, hm⟩ := h
  unfold sglF
  rw [if_neg (fun z => z G.g), if_neg (by omega)]
theorem RtG.few {n : Int} {es : List E3} {e : Int} {k m : Nat} (h : RtG n es e k m) : ¬ Many (conL (yaI es) m) := by
  apply few_len
  rw [conL_len h.hm]; have := h.hE; omega
section
variable {n : Int} {es : List E3} {e : Int} {d : List Int}
end
end Go.Proofs.Ytinoedockljfeaa

/- Ends of made graphs stand in order; places in sorted lists; the law on how ends move. -/
namespace Go.Proofs.Ytinoedockljfeaa
open Go Go.RowKit Go.Shelf Go.Proofs.Try
set_option linter.unusedVariables false
set_option linter.unusedSimpArgs false
def ltP (x y : Int × Int) : Prop := x.1 < y.1 ∨ x.1 = y.1 ∧ x.2 < y.2
def leP (x y : Int × Int) : Prop := x.1 < y.1 ∨ x.1 = y.1 ∧ x.2 ≤ y.2
instance (x y : Int × Int) : Decidable (ltP x y) := by unfold ltP; exact inferInstance
instance (x y : Int × Int) : Decidable (leP x y) := by unfold leP; exact inferInstance
theorem leP_anti {x y : Int × Int} (h1 : leP x y) (h2 : leP y x) : x = y := by
  unfold leP at *
  exact Prod.ext (by omega) (by omega)
theorem ltP_or {x y : Int × Int} (h : x ≠ y) : ltP x y ∨ ltP y x := by
  unfold ltP
  rcases Int.lt_trichotomy x.1 y.1 with q | q | q
  · exact .inl (.inl q)
  · rcases Int.lt_trichotomy x.2 y.2 with p | p | p
    · exact .inl (.inr ⟨q, p⟩)
    · exact absurd (Prod.ext q p) h
    · exact .inr (.inr ⟨q.symm, p⟩)
  · exact .inr (.inl q)
theorem ygP : ∀ {es : List E3}, es.Pairwise ltE → (yaI es).Pairwise leP
  | [], _ => by simp [yaI]
  | x :: t, h => by
    have e : yaI (x :: t) = List.replicate x.2.2.toNat (x.1, x.2.1) ++ yaI t := by unfold yaI; rw [List.flatMap_cons]
    rw [List.pairwise_cons] at h
    rw [e, List.pairwise_append]
    refine ⟨?_, ygP h.2, fun y hy z hz => ?_⟩
    · rw [List.pairwise_replicate]; exact .inr (.inr ⟨rfl, Int.le_refl _⟩)
    · rw [(List.mem_replicate.1 hy).2]
      unfold yaI at hz
      obtain ⟨x2, hx2, hr⟩ := List.mem_flatMap.1 hz
      rw [(List.mem_replicate.1 hr).2]
      have := h.1 x2 hx2
      unfold ltE at this; unfold leP; simp only; omega
theorem cnt_cons (x : E3) (t : List E3) (hx : x.1 ≤ x.2.1) (a b : Int) : cntE (yaI (x :: t)) a b = (if x.1 = a ∧ x.2.1 = b then (x.2.2.toNat : Int) else 0) + cntE (yaI t) a b := by
  have e : yaI (x :: t) = List.replicate x.2.2.toNat (x.1, x.2.1) ++ yaI t := by unfold yaI; rw [List.flatMap_cons]
  have em : mnF x.1 x.2.1 = x.1 := (ygQ hx).1
  have ex : mxF x.1 x.2.1 = x.2.1 := (ygQ hx).2
  rw [e]
  unfold cntE
  rw [List.countP_append, List.countP_replicate]
  have : isE a b (x.1, x.2.1) = decide (x.1 = a ∧ x.2.1 = b) := by unfold isE; rw [em, ex]
  rw [this]
  by_cases q : x.1 = a ∧ x.2.1 = b <;> simp [q]
theorem cnt_none : ∀ {es : List E3} {a b : Int}, (∀ x ∈ es, x.1 ≤ x.2.1) → (∀ x ∈ es, ¬ (x.1 = a ∧ x.2.1 = b)) → cntE (yaI es) a b = 0
  | [], _, _, _, _ => by simp [yaI, cntE]
  | x :: t, a, b, h, h2 => by
    rw [cnt_cons _ _ (h x (by simp)), if_neg (h2 x (by simp)), cnt_none (fun y hy => h y (by simp [hy])) fun y hy => h2 y (by simp [hy])]; rfl
theorem cnt_mem : ∀ {es : List E3} {x : E3}, (∀ x ∈ es, x.1 ≤ x.2.1 ∧ 0 ≤ x.2.2) → es.Pairwise ltE → x ∈ es → cntE (yaI es) x.1 x.2.1 = x.2.2
  | [], _, _, _, h => by simp at h
  | y :: t, x, h, hp, hx => by
    rw [List.pairwise_cons] at hp
    have hy := h y (by simp)
    rw [cnt_cons _ _ hy.1]
    rcases List.mem_cons.1 hx with rfl | hx
    · rw [if_pos ⟨rfl, rfl⟩, cnt_none (fun z hz => (h z (by simp [hz])).1) fun z hz q => by
        have := hp.1 z hz
        unfold ltE at this; omega]
      omega
    · rw [if_neg (fun q => by have := hp.1 x hx; unfold ltE at this; omega), cnt_mem (fun z hz => h z (by simp [hz])) hp.2 hx]; omega
theorem made_le {d : Nat} {l : List (Int × Int)} : ∀ x ∈ made d l, x.1 ≤ x.2.1 ∧ 0 ≤ x.2.2 := fun x hx => by
  obtain ⟨a, b, h1, h2, h3, rfl⟩ := ygN.1 hx
  simp only; omega
theorem cnt_made {d : Nat} {l : List (Int × Int)} (hl : yc4 d l) (a b : Int) : cntE (yaI (made d l)) a b = cntE l a b := by
  by_cases q : 0 < cntE l a b
  · have q' := q
    unfold cntE at q
    have h2 : 0 < l.countP (isE a b) := by omega
    obtain ⟨e, he, hp⟩ := List.countP_pos_iff.1 h2
    unfold isE at hp
    obtain ⟨h3, h4⟩ := of_decide_eq_true hp
    have h5 := hl e he
    have h6 : mnF e.1 e.2 ≤ mxF e.1 e.2 ∧ 0 ≤ mnF e.1 e.2 ∧ mxF e.1 e.2 < d := by
      unfold mnF mxF
      split <;> omega
    obtain ⟨a', rfl⟩ : ∃ k : Nat, a = k := ⟨a.toNat, by omega⟩
    obtain ⟨b', rfl⟩ : ∃ k : Nat, b = k := ⟨b.toNat, by omega⟩
    have hm : ((a' : Int), (b' : Int), cntE l a' b') ∈ made d l := ygN.2 ⟨a', b', by omega, by omega, q', rfl⟩
    exact cnt_mem made_le yes hm
  · have := yfG l a b
    rw [cnt_none (fun x hx => (made_le x hx).1)]
    · omega
    · rintro x hx ⟨rfl, rfl⟩
      obtain ⟨a, b, h1, h2, h3, rfl⟩ := ygN.1 hx
      exact q h3
theorem cnt_count {l : List (Int × Int)} (h : ∀ e ∈ l, e.1 ≤ e.2) (p : Int × Int) : l.count p = if p.1 ≤ p.2 then (cntE l p.1 p.2).toNat else 0 := by
  split
  · rename_i q
    unfold cntE
    rw [Int.toNat_natCast, List.count_eq_countP]
    refine List.countP_congr fun x hx => ?_
    unfold isE
    rw [(ygQ (h x hx)).1, (ygQ (h x hx)).2, beq_iff_eq, decide_eq_true_eq]
    exact ⟨fun z => by rw [z]; exact ⟨rfl, rfl⟩, fun z => Prod.ext z.1 z.2⟩
  · rename_i q
    rw [List.count_eq_zero]
    intro z
    exact q (h p z)
theorem ends_le {es : List E3} (h : ∀ x ∈ es, x.1 ≤ x.2.1) : ∀ e ∈ yaI es, e.1 ≤ e.2 := fun e he => by
  unfold yaI at he
  obtain ⟨x, hx, hr⟩ := List.mem_flatMap.1 he
  rw [(List.mem_replicate.1 hr).2]
  exact h x hx
theorem perm_made {d : Nat} {l : List (Int × Int)} (hl : yc4 d l) (hle : ∀ e ∈ l, e.1 ≤ e.2) : (yaI (made d l)).Perm l := by
  rw [List.perm_iff_count]
  intro p
  rw [cnt_count (ends_le fun x hx => (made_le x hx).1), cnt_count hle, cnt_made hl]
theorem ygU {d : Nat} {l : List (Int × Int)} : (yaI (made d l)).Pairwise leP := ygP yes
theorem ends_made {d : Nat} {l : List (Int × Int)} (hl : yc4 d l) (hle : ∀ e ∈ l, e.1 ≤ e.2) (hs : l.Pairwise leP) : yaI (made d l) = l :=
  List.Perm.eq_of_pairwise (fun a b _ _ h1 h2 => leP_anti h1 h2) ygU hs (perm_made hl hle)
theorem gchk_pair {n : Int} : ∀ (es : List E3) (a b : Int), gchk n a b es = 0 → (∀ x ∈ es, a < x.1 ∨ a = x.1 ∧ b < x.2.1) ∧ es.Pairwise ltE
  | [], _, _, _ => ⟨fun x hx => by simp at hx, List.Pairwise.nil⟩
  | y :: t, a, b, h => by
    rw [gchk] at h
    split at h
    case isFalse => cases h
    split at h
    case isFalse => cases h
    rename_i h2
    obtain ⟨i1, i2⟩ := gchk_pair t _ _ h
    have hp := ycF.1 h2.2
    refine ⟨fun x hx => ?_, List.pairwise_cons.2 ⟨fun x hx => ?_, i2⟩⟩
    · rcases List.mem_cons.1 hx with rfl | hx
      · exact hp
      · have := i1 x hx; omega
    · exact i1 x hx
theorem GrOk.sorted {n : Nat} {es : List E3} {E : List (Int × Int)} (h : GrOk n es E) : E.Pairwise leP := by
  rw [← h.e]; exact ygP (gchk_pair es _ _ (ydX h.g)).2
theorem made_gr {d : Nat} (h1 : 1 ≤ d) (hd : d ≤ 12) {l : List (Int × Int)} (hm : ¬ Many l) : GrOk d (made d l) (yaI (made d l)) := by
  obtain ⟨k, e, G⟩ := yga (made_ok h1 hd (not_many hm))
  have e : k = d := by omega
  rw [e] at G; exact G
theorem ygT {α : Type} {p q : α → Bool} : ∀ {l : List α}, (∀ x ∈ l, p x = true → q x = true) → (∃ s ∈ l, q s = true ∧ p s = false) → l.countP p < l.countP q
  | [], _, ⟨s, hs, _⟩ => by simp at hs
  | x :: t, h, ⟨s, hs, h1, h2⟩ => by
    rw [List.countP_cons, List.countP_cons]
    have hle : t.countP p ≤ t.countP q := List.countP_mono_left fun y hy => h y (by simp [hy])
    rcases List.mem_cons.1 hs with rfl | hs
    · rw [h1, h2]; simp; omega
    · have ih := ygT (fun y hy => h y (by simp [hy])) ⟨s, hs, h1, h2⟩
      by_cases q1 : p x = true
      · rw [q1, h x (by simp) q1]; simp; omega
      · rw [Bool.not_eq_true] at q1
        rw [q1]; simp only [Bool.false_eq_true, if_false]; omega
theorem at_sorted {Y : List (Int × Int)} (hs : Y.Pairwise leP) {j : Nat} {p : Int × Int} (h1 : Y.countP (fun x => decide (ltP x p)) ≤ j) (h2 : j < Y.countP (fun x => decide (leP x p))) : j < Y.length ∧ gx Y j = p := by
  have hj : j < Y.length := Nat.lt_of_lt_of_le h2 List.countP_le_length
  refine ⟨hj, ?_⟩
  have e : Y = Y.take j ++ gx Y j :: Y.drop (j + 1) := by
    rw [ybx hj, ← List.drop_eq_getElem_cons hj, List.take_append_drop]
  generalize gx Y j = x at e ⊢
  have hp := hs
  rw [e, List.pairwise_append, List.pairwise_cons] at hp
  have hlt : (Y.take j).length = j := by rw [List.length_take]; omega
  apply Classical.byContradiction
  intro hne
  rcases ltP_or hne with q | q
  · have a1 : (Y.take j).countP (fun x => decide (ltP x p)) = j := by
      rw [List.countP_eq_length.2, hlt]
      intro z hz
      have := hp.2.2 z hz x (by simp)
      apply decide_eq_true
      unfold leP at this; unfold ltP at q ⊢; omega
    have a2 : Y.countP (fun x => decide (ltP x p)) = (Y.take j).countP (fun x => decide (ltP x p)) + (x :: Y.drop (j + 1)).countP (fun x => decide (ltP x p)) := by
      conv => lhs; rw [e]
      exact List.countP_append
    rw [List.countP_cons, decide_eq_true q, a1, if_pos rfl] at a2
    omega
  · have a2 : Y.countP (fun x => decide (leP x p)) = (Y.take j).countP (fun x => decide (leP x p)) + (x :: Y.drop (j + 1)).countP (fun x => decide (leP x p)) := by
      conv => lhs; rw [e]
      exact List.countP_append
    have a3 : (x :: Y.drop (j + 1)).countP (fun x => decide (leP x p)) = 0 := by
      rw [List.countP_eq_zero]
      intro z hz hb
      have hb := of_decide_eq_true hb
      rcases List.mem_cons.1 hz with rfl | hz
      · unfold ltP at q; unfold leP at hb; omega
      · have := hp.2.1.1 z hz
        unfold ltP at q; unfold leP at hb this; omega
    have a4 : (Y.take j).countP (fun x => decide (leP x p)) ≤ (Y.take j).length := List.countP_le_length
    omega
theorem oth_snoc (l : List (Int × Int)) (x : Int × Int) (m : Nat) : othF (l ++ [x]) m = othF l m ++ if l.length = m then [] else [x] := by
  unfold othF
  rcases Nat.lt_trichotomy l.length m with q | q | q
  · rw [if_neg (by omega), List.take_of_length_le (by simp; omega), List.take_of_length_le (by omega), List.drop_eq_nil_of_le (by simp; omega), List.drop_eq_nil_of_le (by omega)]; simp
  · rw [if_pos q, List.take_append_of_le_length (by omega), List.drop_eq_nil_of_le (by simp; omega), List.drop_eq_nil_of_le (by omega)]; simp
  · rw [if_neg (by omega), List.take_append_of_le_length (by omega), List.drop_append_of_le_length (by omega), List.append_assoc]
theorem gx_snoc_lt {l : List (Int × Int)} {x : Int × Int} {j : Nat} (h : j < l.length) : gx (l ++ [x]) j = gx l j := by
  rw [ybx (by simp; omega), ybx h, List.getElem_append_left h]
theorem oth_range (m : Nat) (E : List (Int × Int)) : othF E m = ((List.range E.length).filter fun j => decide (j ≠ m)).map (gx E) := by
  refine snoc_ind (P := fun E => othF E m = ((List.range E.length).filter fun j => decide (j ≠ m)).map (gx E)) (by simp [othF]) (fun l x ih => ?_) E
  have e : ((List.range l.length).filter fun j => decide (j ≠ m)).map (gx (l ++ [x])) = ((List.range l.length).filter fun j => decide (j ≠ m)).map (gx l) :=
    List.map_congr_left fun j hj => gx_snoc_lt (List.mem_range.1 (List.mem_filter.1 hj).1)
  rw [oth_snoc, ih, List.length_append, List.length_singleton, List.range_succ, List.filter_append, List.map_append, e]
  congr 1
  by_cases q : l.length = m
  · rw [if_pos q]; simp [q]
  · rw [if_neg q]
    simp only [List.filter_cons, List.filter_nil]
    rw [if_pos (decide_eq_true q), List.map_singleton, ybx (by simp)]; simp
theorem oth_map (f : Int × Int → Int × Int) (E : List (Int × Int)) (m : Nat) : (othF E m).map f = othF (E.map f) m := by
  unfold othF; rw [List.map_append, List.map_take, List.map_drop]
theorem oth_count (K : List (Int × Int)) (m : Nat) (P : Int × Int → Bool) : (othF K m).countP P = (List.range K.length).countP fun j => decide (j ≠ m) && P (gx K j) := by
  rw [oth_range, List.countP_map, List.countP_filter]
  exact List.countP_congr fun j _ => by simp [and_comm]
theorem oth_at {E : List (Int × Int)} {m s : Nat} (hs : s < E.length) (hne : s ≠ m) : gx (othF E m) (if s < m then s else s - 1) = gx E s := by
  unfold othF
  split
  · rename_i q
    rw [ybx (by simp; omega), ybx hs, List.getElem_append_left (by simp; omega)]; simp
  · rename_i q
    rw [ybx (by simp; omega), ybx hs, List.getElem_append_right (by simp; omega)]
    simp only [List.getElem_drop, List.length_take]
    congr 1
    omega
theorem bf_iff {K : List (Int × Int)} {i j : Nat} : bfF K i j ↔ ltP (gx K i) (gx K j) ∨ gx K i = gx K j ∧ i < j := by
  unfold bfF ltP
  rw [Int.toNat_natCast, Int.toNat_natCast]
  constructor <;> rintro (h | ⟨h, h2⟩)
  · exact .inl h
  · exact .inr ⟨h, by omega⟩
  · exact .inl h
  · exact .inr ⟨h, by omega⟩
theorem num_at {K Y : List (Int × Int)} {m s : Nat} (hs : s < K.length) (hne : s ≠ m) (hp : Y.Perm (othF K m)) (hY : Y.Pairwise leP) : numF K m s K.length < Y.length ∧ gx Y (numF K m s K.length) = gx K s := by
  refine at_sorted hY ?_ ?_
  · rw [hp.countP_eq, oth_count]
    refine List.countP_mono_left fun j _ hj => ?_
    rw [Bool.and_eq_true, decide_eq_true_eq, decide_eq_true_eq] at hj
    exact decide_eq_true ⟨hj.1, bf_iff.2 (.inl hj.2)⟩
  · rw [hp.countP_eq, oth_count]
    refine ygT (fun j _ hj => ?_) ⟨s, List.mem_range.2 hs, ?_, ?_⟩
    · have hj := of_decide_eq_true hj
      rw [Bool.and_eq_true, decide_eq_true_eq, decide_eq_true_eq]
      refine ⟨hj.1, ?_⟩
      rcases bf_iff.1 hj.2 with h | ⟨h, _⟩
      · unfold ltP at h; unfold leP; omega
      · rw [h]; exact .inr ⟨rfl, Int.le_refl _⟩
    · rw [Bool.and_eq_true, decide_eq_true_eq, decide_eq_true_eq]
      exact ⟨hne, .inr ⟨rfl, Int.le_refl _⟩⟩
    · exact decide_eq_false fun z => ygW z.2
theorem num_inj {K : List (Int × Int)} {m s t : Nat} (hs : s < K.length) (ht : t < K.length) (hs2 : s ≠ m) (ht2 : t ≠ m) (h : numF K m s K.length = numF K m t K.length) : s = t := by
  have key : ∀ s t : Nat, s < K.length → s ≠ m → bfF K s t → numF K m s K.length < numF K m t K.length := fun s t hs hs2 hb => by
    refine ygT (fun j _ hj => ?_) ⟨s, List.mem_range.2 hs, decide_eq_true ⟨hs2, hb⟩, decide_eq_false fun z => ygW z.2⟩
    have hj := of_decide_eq_true hj
    exact decide_eq_true ⟨hj.1, ygV hj.2 hb⟩
  apply Classical.byContradiction
  intro hne
  have : bfF K s t ∨ bfF K t s := by
    rw [bf_iff, bf_iff]
    by_cases q : gx K s = gx K t
    · rcases Nat.lt_or_gt_of_ne hne with z | z
      · exact .inl (.inr ⟨q, z⟩)
      · exact .inr (.inr ⟨q.symm, z⟩)
    · rcases ltP_or q with z | z
      · exact .inl (.inl z)
      · exact .inr (.inl z)
  rcases this with z | z
  · have := key s t hs hs2 z; omega
  · have := key t s ht ht2 z; omega
theorem gi_lesF {L m s : Nat} (h : s < L) : gi (lesF L m) s = if s = m then -1 else if s < m then (s : Int) else (s : Int) - 1 := by
  rw [ybl (by rw [yeh]; exact h)]; simp [lesF]
theorem shoF_len (K : List (Int × Int)) (L m : Nat) : (shoF K L m).length = L := by simp [shoF]
theorem gi_shoF {K : List (Int × Int)} {L m s : Nat} (h : s < L) : gi (shoF K L m) s = if s = m then -1 else (numF K m s L : Int) := by
  rw [ybl (by rw [shoF_len]; exact h)]; simp [shoF]
end Go.Proofs.Ytinoedockljfeaa

/- The law on how ends move. -/
namespace Go.Proofs.Ytinoedockljfeaa
open Go Go.RowKit Go.Shelf Go.Proofs.Try
set_option linter.unusedVariables false
set_option linter.unusedSimpArgs false
section
variable {n : Int} {es : List E3} {e : Int}
theorem p_moves : ygM n es e fun r => r = true := by
  refine p_l12_right (fun k m H => ⟨fun _ => ?_, fun q => absurd rfl q⟩) ⟨fun q => (by cases q), fun _ => yeX rfl⟩
  have hs := H.sgl
  have hfw := H.few
  obtain ⟨rfl, rfl, G, hl, hk, hE, hm⟩ := H
  obtain ⟨hd1, hd2, hok⟩ := conD_in G.ok G.le hm (by omega)
  have hof := oth_few G m
  have h1 := G.one
  have GA := made_gr h1 G.few hof
  have GB := made_gr hd1 hd2 hfw
  have hoe : yaI (made k (othF (yaI es) m)) = othF (yaI es) m := ends_made (G.ok.oth m) (fun x hx => G.le x ((ygR _ _).subset hx)) (G.sorted.sublist (ygR _ _))
  have hpm : (yaI (made (conD k (gx (yaI es) m)) (conL (yaI es) m))).Perm (conL (yaI es) m) := perm_made hok fun x hx => by
    unfold conL at hx
    obtain ⟨y, _, rfl⟩ := List.mem_map.1 hx
    unfold sndF mnF mxF; simp only; split <;> omega
  have hAl := made_len (G.ok.oth m)
  have hBl := made_len hok
  have hpl := hpm.length_eq
  rw [ygg hm] at hAl
  rw [conL_len hm] at hBl hpl
  refine p_c_Delete hl (fun z => absurd hs z) fun _ => ?_
  refine yen hl (fun z => absurd hs z) (fun _ z => absurd z hfw) fun _ _ => ?_
  refine ygc hl (fun z => absurd hs z) fun _ => ?_
  refine ydV hl (fun _ => by omega) (fun z => absurd hs z) fun _ => ?_
  rw [Int.toNat_natCast, Int.toNat_natCast]
  generalize hEE : yaI es = E at *
  generalize hBe : yaI (made (conD k (gx E m)) (conL E m)) = Y at *
  have hg := gx_ok G.ok hm
  have hYs : Y.Pairwise leP := by rw [← hBe]; exact ygU
  generalize hKK : E.map (sndF (mvF (gx E m).1 (gx E m).2)) = K
  have hKl : K.length = E.length := by rw [← hKK, List.length_map]
  have hpm2 : Y.Perm (othF K m) := by rw [← hKK, ← oth_map]; exact hpm
  have hKg : ∀ s, s < E.length → gx K s = sndF (mvF (gx E m).1 (gx E m).2) (gx E s) := fun s hs => by
    rw [ybx (by omega), ybx hs]
    simp [← hKK]
  have h1l := yeh E.length m
  have h2l := shoF_len K E.length m
  refine ⟨True, fun _ => ?_, ⟨by omega, by omega⟩, ⟨by omega, by omega⟩, ⟨by omega, by omega⟩, fun _ => ⟨fun _ => ?_, fun z => absurd (by rw [ydE]) z⟩, fun z => absurd rfl z⟩
  · refine p_ends8 G (by omega) (p_ends8 GA (by omega) (p_ends8 GB (by omega) ?_))
    rw [hoe]
    have hol : (othF E m).length = E.length - 1 := ygg hm
    have hlm : gi (lesF E.length m) m = -1 := by rw [gi_lesF hm, if_pos rfl]
    have hsm : gi (shoF K E.length m) m = -1 := by rw [gi_shoF hm, if_pos rfl]
    have hEl : E.length ≤ 9 := hE
    refine ⟨True, fun _ => ?_, ⟨fun _ => ⟨fun _ => ⟨⟨by omega, by omega⟩, ⟨fun _ => ⟨fun _ => ⟨⟨by omega, by omega⟩, ⟨fun _ => ⟨⟨by omega, by omega⟩, ⟨fun _ => trivial, fun z => absurd hsm z⟩⟩, fun z => absurd hlm z⟩⟩, fun z => absurd (by omega) z⟩, fun z => absurd (by omega) z⟩⟩, fun z => absurd (by omega) z⟩, fun z => absurd (by omega) z⟩⟩
    refine ⟨fun v v2 => v = List.replicate E.length false ∧ v2 = List.replicate E.length false, ?_, ⟨⟨by omega, by omega⟩, by rw [Int.toNat_natCast]; exact ⟨rfl, rfl⟩⟩, ⟨by omega, by omega⟩, by rw [Int.toNat_natCast]; exact ⟨rfl, rfl⟩⟩
    rintro v v2 ⟨rfl, rfl⟩
    refine ⟨fun q v3 v4 v5 => Cnt E.length (fun i => (v4.length = E.length ∧ v5.length = E.length) ∧ (∀ q : Nat, gb v4 q = true → ∃ t, t < i ∧ t ≠ m ∧ gi (lesF E.length m) t = q) ∧ (∀ q : Nat, gb v5 q = true → ∃ t, t < i ∧ t ≠ m ∧ gi (shoF K E.length m) t = q)) q v3, Cnt.start ⟨⟨by simp, by simp⟩, fun q hq => (by rw [gb_rep] at hq; cases hq), fun q hq => by rw [gb_rep] at hq; cases hq⟩, ?_⟩
    rintro q _ v4 v5 ⟨i, rfl, rfl, hi, ⟨h4l, h5l⟩, h4, h5⟩
    simp only [Int.toNat_natCast]
    refine ⟨fun hlt => ⟨⟨by omega, hlt⟩, fun z => Cnt.next (by omega) (by omega) ⟨⟨h4l, h5l⟩, fun q hq => ?_, fun q hq => ?_⟩, fun z => ?_⟩, fun _ => yeX rfl⟩
    · obtain ⟨t, ht, h⟩ := h4 q hq; exact ⟨t, by omega, h⟩
    · obtain ⟨t, ht, h⟩ := h5 q hq; exact ⟨t, by omega, h⟩
    have hiE : i < E.length := by omega
    have hne : i ≠ m := by omega
    obtain ⟨hn1, hn2⟩ := num_at (s := i) (by omega) hne hpm2 hYs
    rw [hKl] at hn1 hn2
    rw [hKg i hiE] at hn2
    have hoa := oth_at hiE hne
    obtain ⟨a, ha, ha2⟩ : ∃ a : Nat, gi (lesF E.length m) i = a ∧ a = if i < m then i else i - 1 := by
      refine ⟨_, ?_, rfl⟩
      rw [gi_lesF hiE, if_neg hne]; split <;> omega
    rw [← ha2] at hoa
    have haL : a < E.length - 1 := by rw [ha2]; split <;> omega
    have hb : gi (shoF K E.length m) i = (numF K m i E.length : Nat) := by rw [gi_shoF hiE, if_neg hne]
    generalize hbb : numF K m i E.length = b at *
    have hgi := gx_ok G.ok hiE
    have hp1 : gi (plcF k (gx E m).1 (gx E m).2) (gx E i).1.toNat = mvF (gx E m).1 (gx E m).2 (gx E i).1 := by rw [gi_plcF _ _ (by omega)]; congr 1; omega
    have hp2 : gi (plcF k (gx E m).1 (gx E m).2) (gx E i).2.toNat = mvF (gx E m).1 (gx E m).2 (gx E i).2 := by rw [gi_plcF _ _ (by omega)]; congr 1; omega
    have hpl2 := ydE k (gx E m).1 (gx E m).2
    rw [ha, hb, hp1, hp2]
    simp only [Int.toNat_natCast]
    rw [hoa, hn2]
    refine ⟨⟨by omega, by omega⟩, ⟨by omega, by omega⟩, True, fun _ => ?_, ⟨fun z => absurd z (by omega), fun _ => ⟨fun z => absurd z (by omega), fun _ => ⟨fun z => absurd z (by omega), fun _ => ⟨fun z => absurd z (by omega), fun _ => ⟨⟨by omega, by omega⟩, ⟨fun z => ?_, fun _ => ⟨⟨by omega, by omega⟩, ⟨fun z => ?_, fun _ => ⟨⟨by omega, by omega⟩, ⟨fun _ => trivial, fun z => absurd rfl z⟩⟩⟩⟩⟩⟩⟩⟩⟩⟩⟩
    · refine ⟨⟨by omega, by omega⟩, ⟨by omega, by omega⟩, ⟨by omega, by omega⟩, ⟨by omega, by omega⟩, ⟨by omega, by omega⟩, ⟨by omega, by omega⟩, ⟨by omega, by omega⟩, fun _ => Cnt.next (by omega) (by omega) ⟨⟨by rw [List.length_set]; exact h4l, by rw [List.length_set]; exact h5l⟩, fun q hq => ?_, fun q hq => ?_⟩, fun z => absurd rfl z⟩
      · rw [gb_set (by omega)] at hq
        by_cases qa : q = a
        · subst qa; exact ⟨i, by omega, hne, ha⟩
        · rw [if_neg qa] at hq
          obtain ⟨t, ht, h⟩ := h4 q hq; exact ⟨t, by omega, h⟩
      · rw [gb_set (by omega)] at hq
        by_cases qa : q = b
        · subst qa; exact ⟨i, by omega, hne, hb⟩
        · rw [if_neg qa] at hq
          obtain ⟨t, ht, h⟩ := h5 q hq; exact ⟨t, by omega, h⟩
    · obtain ⟨t, ht, htm, h⟩ := h4 a z
      rw [gi_lesF (by omega), if_neg htm] at h
      exfalso
      split at h <;> split at ha2 <;> omega
    · obtain ⟨t, ht, htm, h⟩ := h5 b z
      rw [gi_shoF (by omega), if_neg htm] at h
      exfalso
      have := num_inj (K := K) (m := m) (s := t) (t := i) (by omega) (by omega) htm hne (by rw [hKl]; omega)
      omega
  · refine ye7 (by omega) ⟨fun _ => ye7 (by omega) ⟨fun _ => trivial, fun z => absurd GB.g z⟩, fun z => absurd GA.g z⟩
end
end Go.Proofs.Ytinoedockljfeaa
