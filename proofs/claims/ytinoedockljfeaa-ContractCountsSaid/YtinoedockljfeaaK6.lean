/- Texts laid together: Cq, Cs, Ct, Cu, Cv, Cw, Cy, Cx, Cz. -/
import Derived.Test.YtinoedockljfeaaK5
/- What Subdivide, Spread and Collect come to: program and reference. -/
namespace Go.Proofs.Ytinoedockljfeaa
open Go Go.RowKit Go.Shelf Go.Proofs.Try
set_option linter.unusedVariables false
set_option linter.unusedSimpArgs false
def finF (n : Int) (es : List E3) (k : Int) : Int := if yaZ n es ≠ 0 then yaZ n es else if k < 1 ∨ 12 < k then 2 else if 12 < n + (k - 1) * ((yaI es).length : Int) then 5 else 0
section
variable {n : Int} {es : List E3} {k : Int}
theorem fin_mul {k : Int} (h : ¬ (k < 1 ∨ 12 < k)) {L : Nat} (hL : L ≤ 2000) : 0 ≤ (k - 1) * (L : Int) ∧ (k - 1) * (L : Int) ≤ 22000 := by
  have h1 := Int.mul_nonneg (show 0 ≤ k - 1 by omega) (show (0 : Int) ≤ L by omega)
  have h2 := Int.mul_le_mul (show k - 1 ≤ 11 by omega) (show (L : Int) ≤ 2000 by omega) (by omega) (by decide)
  omega
theorem p_c_finer (hl : es.length ≤ 40) {R : List (Int × Int) → Int → Prop} (he : finF n es k ≠ 0 → R [] (finF n es k)) (h : finF n es k = 0 → R (yaI es) 0) : ybZ n es k R := by
  refine yds (by omega) (fun q => ⟨fun q2 => absurd q2 q, fun _ => ?_⟩) fun q => ⟨fun _ => ?_, fun q2 => absurd rfl q2⟩
  · have e1 : finF n es k = yaZ n es := by unfold finF; rw [if_pos q]
    rw [e1] at he; exact he q
  obtain ⟨N, rfl, G⟩ := yga q
  have hlen := G.len
  have hn := G.few
  have h2 : (k < 1 ∨ 12 < k) → R [] 2 := fun z => by
    have e1 : finF N es k = 2 := by unfold finF; rw [if_neg (fun z => z q), if_pos z]
    rw [e1] at he; exact he (by decide)
  refine ⟨¬ (k < 1 ∨ 12 < k), fun z => ?_, fun z => h2 (.inl z), fun z => ⟨fun z2 => h2 (.inr z2), fun z2 => by omega⟩⟩
  have hb := fin_mul z (L := (yaI es).length) (by omega)
  refine ⟨⟨by omega, by omega⟩, ⟨by omega, by omega⟩, ⟨by omega, by omega⟩, fun z2 => ?_, fun z2 => ?_⟩
  · have e1 : finF N es k = 5 := by unfold finF; rw [if_neg (fun z => z q), if_neg z, if_pos z2]
    rw [e1] at he; exact he (by decide)
  · exact h (by unfold finF; rw [if_neg (fun z => z q), if_neg z, if_neg z2])
theorem yfF (hl : es.length ≤ 40) (h : finF n es k = 0) : ∃ N j : Nat, n = N ∧ k = ((j + 1 : Nat) : Int) ∧ GrOk N es (yaI es) ∧ j ≤ 11 ∧ N + j * (yaI es).length ≤ 12 := by
  unfold finF at h
  split at h
  · rename_i q; exact absurd h q
  rename_i q
  have q : yaZ n es = 0 := Classical.byContradiction q
  split at h
  · cases h
  split at h
  · cases h
  rename_i q1 q2
  obtain ⟨N, rfl, G⟩ := yga q
  obtain ⟨j, hj⟩ : ∃ j : Nat, k = ((j + 1 : Nat) : Int) := ⟨(k - 1).toNat, by omega⟩
  refine ⟨N, j, rfl, hj, G, by omega, ?_⟩
  have e : (k - 1) * ((yaI es).length : Int) = ((j * (yaI es).length : Nat) : Int) := by
    rw [show k - 1 = (j : Int) by omega]; exact (Int.natCast_mul _ _).symm
  rw [e] at q2
  omega
end
def atF (a : Int) (nx j : Nat) : Int := if j = 0 then a else ((nx + j - 1 : Nat) : Int)
def wyF (a : Int) (nx j : Nat) : List (Int × Int) := (List.range j).map fun i => (atF a nx i, ((nx + i : Nat) : Int))
theorem wyF_snoc (a : Int) (nx j : Nat) : wyF a nx (j + 1) = wyF a nx j ++ [(atF a nx j, ((nx + j : Nat) : Int))] := by simp [wyF, List.range_succ]
theorem wyF_len (a : Int) (nx j : Nat) : (wyF a nx j).length = j := by simp [wyF]
def pthF (E : List (Int × Int)) (N j i : Nat) : List (Int × Int) := wyF (gx E i).1 (N + i * j) j ++ [(atF (gx E i).1 (N + i * j) j, (gx E i).2)]
def subF (E : List (Int × Int)) (N j i : Nat) : List (Int × Int) := (List.range i).flatMap (pthF E N j)
theorem ye5 (E : List (Int × Int)) (N j i : Nat) : subF E N j (i + 1) = subF E N j i ++ pthF E N j i := by simp [subF, List.range_succ, List.flatMap_append]
theorem pthF_len (E : List (Int × Int)) (N j i : Nat) : (pthF E N j i).length = j + 1 := by simp [pthF, wyF_len]
theorem yfC (E : List (Int × Int)) (N j : Nat) : ∀ i, (subF E N j i).length = i * (j + 1)
  | 0 => by simp [subF]
  | i + 1 => by rw [ye5, List.length_append, yfC E N j i, pthF_len, Nat.add_mul]; omega
theorem atF_in {a : Int} {nx j d : Nat} (ha : 0 ≤ a ∧ a < d) (h : nx + j ≤ d) : 0 ≤ atF a nx j ∧ atF a nx j < d := by
  unfold atF; split <;> omega
theorem subF_ok {E : List (Int × Int)} {N j : Nat} (hE : yc4 N E) : yc4 (N + E.length * j) (subF E N j E.length) := fun x hx => by
  unfold subF at hx
  obtain ⟨i, hi, hx⟩ := List.mem_flatMap.1 hx
  have hi := List.mem_range.1 hi
  have hm : (i + 1) * j ≤ E.length * j := Nat.mul_le_mul_right j hi
  rw [Nat.add_mul] at hm
  have hg := gx_ok hE hi
  unfold pthF at hx
  rcases List.mem_append.1 hx with hx | hx
  · unfold wyF at hx
    obtain ⟨t, ht, rfl⟩ := List.mem_map.1 hx
    have ht := List.mem_range.1 ht
    have := atF_in (a := (gx E i).1) (nx := N + i * j) (j := t) (d := N + E.length * j) (by omega) (by omega)
    simp only; omega
  · rw [List.mem_singleton] at hx
    subst hx
    have := atF_in (a := (gx E i).1) (nx := N + i * j) (j := j) (d := N + E.length * j) (by omega) (by omega)
    simp only; omega
theorem subF_zero (E : List (Int × Int)) (N : Nat) : subF E N 0 E.length = E := by
  have key : ∀ i, i ≤ E.length → subF E N 0 i = E.take i := by
    intro i
    induction i with
    | zero => intro _; simp [subF]
    | succ i ih =>
      intro hi
      have e : pthF E N 0 i = [gx E i] := by simp [pthF, wyF, atF]
      rw [ye5, ih (by omega), e, List.take_add_one, List.getElem?_eq_getElem (show i < E.length by omega), ybx (show i < E.length by omega)]
      rfl
  rw [key _ (Nat.le_refl _), List.take_length]
theorem subF_few {es : List E3} {E : List (Int × Int)} {N j : Nat} (G : GrOk N es E) (h : N + j * E.length ≤ 12) : ¬ Many (subF E N j E.length) := fun ⟨a, b, q⟩ => by
  rcases Nat.eq_zero_or_pos j with rfl | hj
  · rw [subF_zero] at q
    have := G.cnt a b; omega
  · have h1 := yfJ (subF E N j E.length) a b
    rw [yfC, Nat.mul_add, Nat.mul_one] at h1
    have h2 : E.length ≤ j * E.length := Nat.le_mul_of_pos_left _ hj
    rw [Nat.mul_comm E.length j] at h1
    omega
section
variable {n : Int} {es : List E3} {k : Int}
theorem yfw (hl : es.length ≤ 40) {R : Int → List E3 → Int → Prop} (he : finF n es k ≠ 0 → R 0 [] (finF n es k))
    (h : finF n es k = 0 → R ((n.toNat + (yaI es).length * (k.toNat - 1) : Nat) : Int) (made (n.toNat + (yaI es).length * (k.toNat - 1)) (subF (yaI es) n.toNat (k.toNat - 1) (yaI es).length)) 0) : ybj n es k R := by
  refine p_c_finer hl (fun q => ⟨fun q2 => absurd q2 q, fun _ => he q⟩) fun q => ⟨fun _ => ?_, fun q2 => absurd rfl q2⟩
  replace h := h q
  clear he
  obtain ⟨N, j, rfl, rfl, G, hj, h12⟩ := yfF hl q
  have hlen := G.len
  have ek : ((j + 1 : Nat) : Int).toNat - 1 = j := by omega
  rw [Int.toNat_natCast, ek] at h
  generalize hEE : yaI es = E at *
  have hN1 := G.one
  have hjl : E.length * j = j * E.length := Nat.mul_comm _ _
  refine ⟨fun m out next v => Cnt E.length (fun i => out = subF E N j i ∧ next = ((N + i * j : Nat) : Int)) m v, Cnt.start ⟨rfl, by simp⟩, ?_⟩
  rintro m out next _ ⟨i, rfl, rfl, hi, rfl, rfl⟩
  simp only [Int.toNat_natCast]
  have hsl := yfC E N j i
  have him : i * (j + 1) ≤ E.length * (j + 1) := Nat.mul_le_mul_right _ hi
  have hmm : E.length * (j + 1) = E.length * j + E.length := by rw [Nat.mul_add, Nat.mul_one]
  refine ⟨fun hlt => ?_, fun hge => ?_⟩
  · have hil : i < E.length := by omega
    have hm : (i + 1) * j ≤ E.length * j := Nat.mul_le_mul_right j hil
    have hm2 : (i + 1) * j = i * j + j := by rw [Nat.add_mul, Nat.one_mul]
    have hg := gx_ok G.ok hil
    refine ⟨⟨by omega, hlt⟩, by decide, ⟨by omega, by omega⟩, fun m3 out2 next2 at2 t => Cnt j (fun t => out2 = subF E N j i ++ wyF (gx E i).1 (N + i * j) t ∧ next2 = ((N + i * j + t : Nat) : Int) ∧ at2 = atF (gx E i).1 (N + i * j) t) m3 t, Cnt.start ⟨by simp [wyF], by simp, by simp [atF]⟩, ?_⟩
    rintro m3 out2 next2 at2 _ ⟨t, rfl, rfl, ht, rfl, rfl, rfl⟩
    have hwl := wyF_len (gx E i).1 (N + i * j) t
    refine ⟨fun hlt2 => ⟨by rw [List.length_append]; omega, ⟨by omega, by omega⟩, Cnt.next (by omega) (by omega) ⟨?_, by omega, ?_⟩⟩, fun hge2 => ⟨by decide, by rw [List.length_append]; omega, Cnt.next hil (by omega) ⟨?_, ?_⟩⟩⟩
    · rw [wyF_snoc, List.append_assoc]
    · simp [atF]
    · have : t = j := by omega
      subst this
      rw [ye5, pthF, List.append_assoc]
    · have : t = j := by omega
      subst this
      omega
  · have e : i = E.length := by omega
    subst e
    have hok := subF_ok (j := j) G.ok
    exact yeg (by omega) (by omega) hok (by omega) (fun z => absurd z (subF_few G h12)) fun _ => h
end
def chpF (n : Int) (d : List Int) : Int := if (d.length : Int) ≠ n then 8 else if ∃ x ∈ d, x < -1048576 ∨ 1048576 < x then 2 else 0
theorem yfL {n : Int} {es : List E3} {d : List Int} (hl : d.length ≤ 1000000) {R : Int → Prop} (h : R (chpF n d)) : ybF n es d R := by
  refine ⟨fun q => ?_, fun q => ?_⟩
  · refine ycA (p := fun x => decide (x < -1048576 ∨ 1048576 < x)) (by omega) (fun x R' hR => ⟨fun z => ?_, fun z => ?_⟩) ?_
    · rw [decide_eq_true (.inl z)] at hR; exact hR
    · rw [show decide (x < -1048576 ∨ 1048576 < x) = decide (1048576 < x) from by
        by_cases z2 : 1048576 < x
        · rw [decide_eq_true z2, decide_eq_true (.inr z2)]
        · rw [decide_eq_false z2, decide_eq_false (by omega)]] at hR
      exact hR
    · refine ⟨fun z => ?_, fun z => ?_⟩
      · have e1 : chpF n d = 2 := by
          unfold chpF
          rw [if_neg (fun z => z q), if_pos]
          obtain ⟨x, hx, hp⟩ := List.any_eq_true.1 z
          exact ⟨x, hx, of_decide_eq_true hp⟩
        rw [e1] at h; exact h
      · have e1 : chpF n d = 0 := by
          unfold chpF
          rw [if_neg (fun z => z q), if_neg]
          rintro ⟨x, hx, hp⟩
          exact z (List.any_eq_true.2 ⟨x, hx, decide_eq_true hp⟩)
        rw [e1] at h; exact h
  · have e1 : chpF n d = 8 := by unfold chpF; rw [if_pos q]
    rw [e1] at h; exact h
theorem chp_zero {n : Int} {d : List Int} (h : chpF n d = 0) : (d.length : Int) = n ∧ ∀ k, k < d.length → -1048576 ≤ gi d k ∧ gi d k ≤ 1048576 := by
  unfold chpF at h
  split at h
  · cases h
  · rename_i q
    split at h
    · cases h
    · rename_i q2
      refine ⟨Classical.byContradiction q, fun k hk => ?_⟩
      have : ¬ (gi d k < -1048576 ∨ 1048576 < gi d k) := fun z => q2 ⟨_, gi_mem hk, z⟩
      omega
section
variable {n : Int} {es : List E3} {k : Int} {d : List Int}
end
def colF (m : Nat) (f : Int → Int) (d : List Int) : Nat → List Int
  | 0 => List.replicate m 0
  | k + 1 => (colF m f d k).set (f k).toNat (gi (colF m f d k) (f k).toNat + gi d k)
theorem yd0 (m : Nat) (f : Int → Int) (d : List Int) : ∀ k, (colF m f d k).length = m
  | 0 => by simp [colF]
  | k + 1 => by rw [colF, List.length_set, yd0 m f d k]
theorem colF_bound {m : Nat} {f : Int → Int} {d : List Int} (hd : ∀ k, k < d.length → -1048576 ≤ gi d k ∧ gi d k ≤ 1048576) : ∀ k, k ≤ d.length → ∀ i, i < m → -1048576 * (k : Int) ≤ gi (colF m f d k) i ∧ gi (colF m f d k) i ≤ 1048576 * (k : Int)
  | 0, _, i, hi => by
    have : gi (colF m f d 0) i = 0 := by rw [colF, ybl (by simpa using hi)]; simp
    omega
  | k + 1, hk, i, hi => by
    have ih := colF_bound (m := m) (f := f) hd k (by omega)
    have h1 := hd k (by omega)
    have h0 := ih i hi
    rw [colF]
    by_cases q : (f k).toNat < m
    · rw [ydQ (by rw [yd0]; exact q)]
      have h2 := ih _ q
      split <;> omega
    · rw [List.set_eq_of_length_le (by rw [yd0]; omega)]
      omega
section
variable {n : Int} {es : List E3} {e : Int} {d : List Int}
def cltF (n : Int) (es : List E3) (e : Int) (d : List Int) : List Int := colF (conD n.toNat (gx (yaI es) e.toNat)) (mvF (gx (yaI es) e.toNat).1 (gx (yaI es) e.toNat).2) d n.toNat
theorem col_loop {N m : Nat} {f : Int → Int} {P : List Int} {R : List Int → Prop} (hN : N ≤ 12) (hP : P.length = N) (hPf : ∀ k, k < N → gi P k = f k) (hf : ∀ v : Int, 0 ≤ v ∧ v < N → 0 ≤ f v ∧ f v < m) (hdl : d.length = N) (hd : ∀ k, k < d.length → -1048576 ≤ gi d k ∧ gi d k ≤ 1048576) (h : R (colF m f d N)) {t : Int} (ht : t = N) :
    (∃ I2 : Nat → Int → (List Int) → Prop, (∃ m0, I2 m0 0 (List.replicate m (0 : Int))) ∧ ∀ (m2 : Nat) (v : Int) (v2 : List Int), I2 m2 v v2 → 
    ((v < t →
    ((0 ≤ v ∧ v < ((P.length : Nat) : Int)) ∧
    ((0 ≤ (gi P v.toNat) ∧ (gi P v.toNat) < ((v2.length : Nat) : Int)) ∧
    ((0 ≤ v ∧ v < ((d.length : Nat) : Int)) ∧
    (In64 ((gi v2 (gi P v.toNat).toNat) + (gi d v.toNat)) ∧
    (In64 (v + 1) ∧
    ∃ m3, m3 < m2 ∧ I2 m3 (v + 1) (v2.set (gi P v.toNat).toNat ((gi v2 (gi P v.toNat).toNat) + (gi d v.toNat))))))))) ∧
    (¬ (v < t) →
    R v2))) := by
  subst ht
  refine ⟨fun q v out => Cnt N (fun k => out = colF m f d k) q v, Cnt.start rfl, ?_⟩
  rintro q _ out ⟨k, rfl, rfl, hk, rfl⟩
  simp only [Int.toNat_natCast]
  refine ⟨fun hlt => ?_, fun hge => ?_⟩
  · have hkN : k < N := by omega
    rw [hPf k hkN, yd0]
    have h1 := hf k (by omega)
    have h2 := hd k (by omega)
    have h3 := colF_bound (m := m) (f := f) hd k (by omega) (f k).toNat (by omega)
    refine ⟨⟨by omega, by omega⟩, h1, ⟨by omega, by omega⟩, ⟨by omega, by omega⟩, Cnt.next hkN (by omega) rfl⟩
  · have : k = N := by omega
    subst this; exact h
theorem yfT (hl : es.length ≤ 40) (hdl : d.length ≤ 40) {R : List Int → Int → Prop} (he : sglF n es e ≠ 0 → R [] (sglF n es e)) (hc : sglF n es e = 0 → chpF n d ≠ 0 → R [] (chpF n d))
    (h : sglF n es e = 0 → chpF n d = 0 → (chpF ((cltF n es e d).length : Int) (cltF n es e d) = 0 → R (cltF n es e d) 0) ∧ (chpF ((cltF n es e d).length : Int) (cltF n es e d) ≠ 0 → R [] 11)) : ybt n es e d R := by
  refine ybX (by omega) (fun q => ⟨fun q2 => absurd q2 q, fun _ => he q⟩) fun q => ⟨fun _ => yfL (by omega) ⟨fun q2 => ?_, fun q2 => hc q q2⟩, fun q2 => absurd rfl q2⟩
  replace h := h q q2
  clear he hc
  obtain ⟨q1, q4, q3⟩ := ydb q
  obtain ⟨k, rfl, G⟩ := yga q1
  obtain ⟨e, rfl⟩ : ∃ m : Nat, e = m := ⟨e.toNat, by omega⟩
  have hee : e < (yaI es).length := by omega
  obtain ⟨d1, d2⟩ := chp_zero q2
  have hxl := G.le (gx (yaI es) e) (by rw [ybx hee]; exact List.getElem_mem hee)
  have hx := gx_ok G.ok hee
  obtain ⟨c1, c2, c3⟩ := conD_in G.ok G.le hee G.few
  unfold cltF at h
  simp only [Int.toNat_natCast] at h ⊢
  refine ⟨⟨by omega, by omega⟩, by decide, by decide, p_fewer G.few G.one ⟨⟨by omega, by omega⟩, ?_⟩⟩
  unfold yaB
  rw [(ygQ hxl).1, (ygQ hxl).2, Int.toNat_natCast]
  refine ydg G.few (col_loop G.few (ydE k _ _) (fun j hj => gi_plcF _ _ hj) (fun v hv => ?_) (by omega) d2 ?_ (by rw [ydE]))
  · unfold conD; exact mvF_in hx.1.1 hxl hx.2.2 hv
  · exact yfL (by rw [yd0]; omega) h
end
end Go.Proofs.Ytinoedockljfeaa

/- What Singles comes to: a stable sort of few numbers; program and reference. -/
namespace Go.Proofs.Ytinoedockljfeaa
open Go Go.RowKit Go.Shelf Go.Proofs.Try
set_option linter.unusedVariables false
set_option linter.unusedSimpArgs false
theorem swap_list (P S : List Int) (x y : Int) : ((P ++ y :: x :: S).set (P.length + 1) y).set P.length x = P ++ x :: y :: S := by
  rw [List.set_append_right _ _ (by omega), show P.length + 1 - P.length = 1 by omega, List.set_append_right _ _ (Nat.le_refl _), Nat.sub_self]
  rfl
theorem gi_app (P : List Int) (x : Int) (S : List Int) : gi (P ++ x :: S) P.length = x := by
  rw [ybl (by simp)]; simp
theorem gi_app1 (P : List Int) (x y : Int) (S : List Int) : gi (P ++ y :: x :: S) (P.length + 1) = x := by
  rw [ybl (by simp)]; simp [List.getElem_append]
theorem p_insertion {data : List Int} {F : Int → Int → (Int → Prop) → Prop} {c : Int → Int → Int} {lt : Int → Int → Prop} (hl : data.length ≤ 1000) (hF : ∀ x ∈ data, ∀ y ∈ data, ∀ R' : Int → Prop, R' (c x y) → F x y R')
    (h1 : ∀ x ∈ data, ∀ y ∈ data, c x y < 0 → lt x y) (h2 : data.Pairwise fun x y => ¬ c y x < 0 → lt x y) (ht : ∀ x y z, lt x y → lt y z → lt x z) {R : List Int → Prop} (h : ∀ y : List Int, y.Perm data → y.Pairwise lt → R y) {b : Int} (hb : b = data.length) : yaG data 0 b F R := by
  subst hb
  refine ⟨⟨by decide, by decide⟩, ?_⟩
  by_cases h0 : data = []
  · subst h0
    refine ⟨fun m i d => i = 1 ∧ d = [], ⟨0, rfl, rfl⟩, ?_⟩
    rintro m i d ⟨rfl, rfl⟩
    exact ⟨fun q => by simp at q, fun _ => h [] (List.Perm.refl _) List.Pairwise.nil⟩
  have hpos : 0 < data.length := List.length_pos_iff.2 h0
  refine ⟨fun m i d2 => ∃ (k : Nat) (A : List Int), i = k ∧ 1 ≤ k ∧ k + m = data.length ∧ d2 = A ++ data.drop k ∧ A.Perm (data.take k) ∧ A.Pairwise lt, ⟨data.length - 1, 1, data.take 1, rfl, by omega, by omega, (List.take_append_drop 1 data).symm, List.Perm.refl _, ?_⟩, ?_⟩
  · cases data with
    | nil => exact absurd rfl h0
    | cons x t => simp
  rintro m i d2 ⟨k, A, rfl, hk1, hkm, rfl, hA, hAs⟩
  have hAl : A.length = k := by rw [hA.length_eq, List.length_take]; omega
  refine ⟨fun hlt => ?_, fun hge => ?_⟩
  · have hkl : k < data.length := by omega
    obtain ⟨x, hx⟩ : ∃ x, data.drop k = x :: data.drop (k + 1) := ⟨_, List.drop_eq_getElem_cons hkl⟩
    have hxm : x ∈ data := List.mem_of_mem_drop (by rw [hx]; simp)
    have hAm : ∀ y ∈ A, y ∈ data := fun y hy => List.mem_of_mem_take (hA.subset hy)
    have hbefore : ∀ y ∈ A, ¬ c x y < 0 → lt y x := fun y hy => by
      have h3 := h2
      rw [← List.take_append_drop k data, hx, List.pairwise_append] at h3
      exact h3.2.2 y (hA.subset hy) x (by simp)
    refine ⟨fun m3 j d3 => ∃ (p : Nat) (P S : List Int), j = p ∧ m3 = p ∧ P.length = p ∧ A = P ++ S ∧ d3 = P ++ x :: (S ++ data.drop (k + 1)) ∧ ∀ y ∈ S, lt x y, ⟨k, k, A, [], rfl, rfl, hAl, by simp, by rw [hx]; simp, by simp⟩, ?_⟩
    rintro m3 j d3 ⟨p, P, S, rfl, hmp, hP, hPS, rfl, hS⟩
    have hPl : P.length + S.length = k := by rw [← hAl, hPS, List.length_append]
    have hdone : (∀ y ∈ P, lt y x) → In64 ((k : Int) + 1) ∧ ∃ m5, m5 < m ∧ ∃ (k2 : Nat) (A : List Int), ((k : Int) + 1) = k2 ∧ 1 ≤ k2 ∧ k2 + m5 = data.length ∧ P ++ x :: (S ++ data.drop (k + 1)) = A ++ data.drop k2 ∧ A.Perm (data.take k2) ∧ A.Pairwise lt := by
      intro hPx
      refine ⟨⟨by omega, by omega⟩, m - 1, by omega, k + 1, P ++ x :: S, by omega, by omega, by omega, by simp, ?_, ?_⟩
      · have e1 : data.take (k + 1) = data.take k ++ [x] := by
          rw [List.take_add_one, List.getElem?_eq_getElem hkl]
          have : data[k] = x := by rw [List.drop_eq_getElem_cons hkl] at hx; exact (List.cons.inj hx).1
          rw [this]; rfl
        rw [e1]
        refine List.Perm.trans List.perm_middle ?_
        rw [← hPS]
        exact (List.perm_append_singleton x A).symm.trans (hA.append_right [x])
      · rw [hPS, List.pairwise_append] at hAs
        rw [List.pairwise_append, List.pairwise_cons]
        exact ⟨hAs.1, ⟨hS, hAs.2.1⟩, fun y hy z hz => by
          rcases List.mem_cons.1 hz with rfl | hz
          · exact hPx y hy
          · exact hAs.2.2 y hy z hz⟩
    refine ⟨0 < p ∧ ∃ P' y, P = P' ++ [y] ∧ c x y < 0, fun ⟨hp, P', y, hPy, hc⟩ => ?_, fun hp => ?_, fun hp => ?_⟩
    · subst hPy
      have hP' : P'.length = p - 1 := by rw [List.length_append, List.length_singleton] at hP; omega
      have e1 : ((p : Int) - 1).toNat = P'.length := by omega
      have e2 : ((p : Int)).toNat = P'.length + 1 := by omega
      have e3 : (P' ++ [y]) ++ x :: (S ++ data.drop (k + 1)) = P' ++ y :: x :: (S ++ data.drop (k + 1)) := by simp
      have hlen : (P' ++ y :: x :: (S ++ data.drop (k + 1))).length = P'.length + 2 + S.length + (data.length - (k + 1)) := by simp; omega
      rw [e3, e1, e2, gi_app, gi_app1, List.length_set, hlen, swap_list]
      refine ⟨⟨by omega, by omega⟩, ⟨by omega, by omega⟩, ⟨by omega, by omega⟩, ⟨by omega, by omega⟩, p - 1, by omega, p - 1, P', y :: S, by omega, rfl, hP', by rw [hPS]; simp, by simp, fun z hz => ?_⟩
      rcases List.mem_cons.1 hz with rfl | hz
      · exact h1 _ hxm _ (hAm _ (by rw [hPS]; simp)) hc
      · exact hS z hz
    · obtain ⟨P', y, hPy⟩ : ∃ P' y, P = P' ++ [y] := by
        have hne : P ≠ [] := by rintro rfl; simp at hP; omega
        exact ⟨P.dropLast, P.getLast hne, (List.dropLast_concat_getLast hne).symm⟩
      subst hPy
      have hP' : P'.length = p - 1 := by rw [List.length_append, List.length_singleton] at hP; omega
      have e1 : ((p : Int) - 1).toNat = P'.length := by omega
      have e2 : ((p : Int)).toNat = P'.length + 1 := by omega
      have e3 : (P' ++ [y]) ++ x :: (S ++ data.drop (k + 1)) = P' ++ y :: x :: (S ++ data.drop (k + 1)) := by simp
      have hlen : (P' ++ y :: x :: (S ++ data.drop (k + 1))).length = P'.length + 2 + S.length + (data.length - (k + 1)) := by simp; omega
      have hym : y ∈ data := hAm _ (by rw [hPS]; simp)
      rw [e3] at hdone ⊢
      rw [e1, e2, gi_app, gi_app1, hlen]
      refine ⟨⟨by omega, by omega⟩, ⟨by omega, by omega⟩, ⟨by omega, by omega⟩, hF x hxm y hym _ ⟨fun q => ⟨by omega, P', y, rfl, q⟩, fun q => hdone fun z hz => ?_⟩⟩
      have hyx := hbefore y (by rw [hPS]; simp) q
      rcases List.mem_append.1 hz with hz | hz
      · rw [hPS, List.pairwise_append] at hAs
        rw [List.pairwise_append] at hAs
        exact ht _ _ _ (hAs.1.2.2 z hz y (by simp)) hyx
      · rw [List.mem_singleton] at hz; subst hz; exact hyx
    · have hp0 : p = 0 := by omega
      have hPn : P = [] := List.eq_nil_of_length_eq_zero (by omega)
      subst hPn
      exact hdone fun z hz => by simp at hz
  · have e : k = data.length := by omega
    subst e
    rw [List.drop_length, List.append_nil]
    rw [List.take_length] at hA
    exact h A hA hAs
theorem p_stable {data : List Int} {F : Int → Int → (Int → Prop) → Prop} {c : Int → Int → Int} {lt : Int → Int → Prop} (hl : data.length ≤ 19) (hF : ∀ x ∈ data, ∀ y ∈ data, ∀ R' : Int → Prop, R' (c x y) → F x y R')
    (h1 : ∀ x ∈ data, ∀ y ∈ data, c x y < 0 → lt x y) (h2 : data.Pairwise fun x y => ¬ c y x < 0 → lt x y) (ht : ∀ x y z, lt x y → lt y z → lt x z) {R : List Int → Prop} (h : ∀ y : List Int, y.Perm data → y.Pairwise lt → R y) : ya5 data F R := by
  refine ⟨fun m a b d => a = 0 ∧ b = 20 ∧ d = data, ⟨0, rfl, rfl, rfl⟩, ?_⟩
  rintro m a b d ⟨rfl, rfl, rfl⟩
  refine ⟨fun q => by omega, fun _ => p_insertion (by omega) hF h1 h2 ht (fun y hy hs => ⟨fun m b => b = 20, ⟨0, rfl⟩, ?_⟩) rfl⟩
  rintro m b rfl
  exact ⟨fun q => by omega, fun _ => h y hy hs⟩
def bfF (K : List (Int × Int)) (i j : Int) : Prop := ((gx K i.toNat).1 < (gx K j.toNat).1 ∨ (gx K i.toNat).1 = (gx K j.toNat).1 ∧ (gx K i.toNat).2 < (gx K j.toNat).2) ∨ gx K i.toNat = gx K j.toNat ∧ i < j
instance (K : List (Int × Int)) (i j : Int) : Decidable (bfF K i j) := by unfold bfF; exact inferInstance
def lesF (m e : Nat) : List Int := (List.range m).map fun i => if i = e then -1 else if i < e then (i : Int) else (i : Int) - 1
def numF (K : List (Int × Int)) (e i k : Nat) : Nat := (List.range k).countP fun j => decide (j ≠ e ∧ bfF K j i)
def shoF (K : List (Int × Int)) (m e : Nat) : List Int := (List.range m).map fun i => if i = e then -1 else (numF K e i m : Int)
theorem yeh (m e : Nat) : (lesF m e).length = m := by simp [lesF]
theorem numF_succ (K : List (Int × Int)) (e i k : Nat) : numF K e i (k + 1) = numF K e i k + if k ≠ e ∧ bfF K k i then 1 else 0 := by
  unfold numF
  rw [List.range_succ, List.countP_append]
  by_cases q : k ≠ e ∧ bfF K k i
  · rw [if_pos q]; simp [q]
  · rw [if_neg q]; simp [q]
section
variable {n : Int} {es : List E3} {e : Int}
def rstF (e k : Nat) : List Int := ((List.range k).filter fun i => decide (i ≠ e)).map fun i : Nat => (i : Int)
theorem yeN (e k : Nat) : rstF e (k + 1) = rstF e k ++ if k = e then [] else [(k : Int)] := by
  unfold rstF
  rw [List.range_succ, List.filter_append, List.map_append]
  by_cases q : k = e
  · simp [q]
  · simp [q]
theorem rstF_len (e : Nat) : ∀ k, (rstF e k).length = if k ≤ e then k else k - 1
  | 0 => by simp [rstF]
  | k + 1 => by
    rw [yeN, List.length_append, rstF_len e k]
    by_cases q : k = e
    · subst q; rw [if_pos (Nat.le_refl _), if_pos rfl, if_neg (by omega)]; simp
    · rw [if_neg q]
      split
      · rw [if_pos (by omega)]; simp
      · rw [if_neg (by omega)]; simp; omega
theorem yeJ {e k : Nat} {x : Int} : x ∈ rstF e k ↔ ∃ i : Nat, x = i ∧ i < k ∧ i ≠ e := by
  unfold rstF
  simp only [List.mem_map, List.mem_filter, List.mem_range, decide_eq_true_eq]
  constructor
  · rintro ⟨i, ⟨h1, h2⟩, rfl⟩; exact ⟨i, rfl, h1, h2⟩
  · rintro ⟨i, rfl, h1, h2⟩; exact ⟨i, ⟨h1, h2⟩, rfl⟩
theorem ye2 (e k : Nat) : (rstF e k).Pairwise (· < ·) := by
  unfold rstF
  rw [List.pairwise_map]
  exact (List.pairwise_lt_range.filter _).imp fun h => by omega
theorem ygV {K : List (Int × Int)} {x y z : Int} (h1 : bfF K x y) (h2 : bfF K y z) : bfF K x z := by
  unfold bfF at *
  rcases h1 with h1 | ⟨h1, h3⟩
  · rcases h2 with h2 | ⟨h2, h4⟩
    · exact .inl (by omega)
    · rw [← h2]; exact .inl h1
  · rcases h2 with h2 | ⟨h2, h4⟩
    · rw [h1]; exact .inl h2
    · exact .inr ⟨h1.trans h2, by omega⟩
theorem ygW {K : List (Int × Int)} {x : Int} (h : bfF K x x) : False := by
  unfold bfF at h
  rcases h with h | ⟨_, h⟩ <;> omega
theorem cnt_sorted {K : List (Int × Int)} {y : List Int} (hs : y.Pairwise (bfF K)) {j : Nat} (hj : j < y.length) : y.countP (fun x => decide (bfF K x (gi y j))) = j := by
  have e : y = y.take j ++ gi y j :: y.drop (j + 1) := by
    rw [ybl hj, ← List.drop_eq_getElem_cons hj, List.take_append_drop]
  have h2 := hs
  rw [e, List.pairwise_append, List.pairwise_cons] at h2
  generalize hx : gi y j = x at h2 e ⊢
  have h3 : y.countP (fun z => decide (bfF K z x)) = (y.take j).countP (fun z => decide (bfF K z x)) + (x :: y.drop (j + 1)).countP (fun z => decide (bfF K z x)) := by
    conv => lhs; rw [e]
    exact List.countP_append
  rw [h3]
  have a1 : (y.take j).countP (fun z => decide (bfF K z x)) = j := by
    have : (y.take j).countP (fun z => decide (bfF K z x)) = (y.take j).length := List.countP_eq_length.2 fun z hz => decide_eq_true (h2.2.2 z hz x (by simp))
    rw [this, List.length_take]; omega
  have a2 : (x :: y.drop (j + 1)).countP (fun z => decide (bfF K z x)) = 0 := by
    rw [List.countP_eq_zero]
    intro z hz hb
    have hb := of_decide_eq_true hb
    rcases List.mem_cons.1 hz with rfl | hz
    · exact ygW hb
    · exact ygW (ygV hb (h2.2.1.1 z hz))
  rw [a1, a2, Nat.add_zero]
theorem num_rst (K : List (Int × Int)) (e i k : Nat) : numF K e i k = (rstF e k).countP fun x => decide (bfF K x i) := by
  induction k with
  | zero => rfl
  | succ k ih =>
    rw [numF_succ, yeN, List.countP_append, ← ih]
    congr 1
    by_cases q : k = e
    · rw [if_pos q, if_neg (fun z => z.1 q)]; rfl
    · rw [if_neg q]
      by_cases q2 : bfF K k i
      · rw [if_pos ⟨q, q2⟩]; simp [q2]
      · rw [if_neg (fun z => q2 z.2)]; simp [q2]
theorem ydV (hl : es.length ≤ 40) (hsm : yaZ n es = 0 → (yaI es).length ≤ 20) {R : List Int → List Int → Int → Prop} (he : sglF n es e ≠ 0 → R [] [] (sglF n es e))
    (h : sglF n es e = 0 → R (lesF (yaI es).length e.toNat) (shoF ((yaI es).map (sndF (mvF (gx (yaI es) e.toNat).1 (gx (yaI es) e.toNat).2))) (yaI es).length e.toNat) 0) : ybe n es e R := by
  refine ybX (by omega) (fun q => ⟨fun q2 => absurd q2 q, fun _ => he q⟩) fun q => ⟨fun _ => ?_, fun q2 => absurd rfl q2⟩
  replace h := h q
  clear he
  obtain ⟨q1, q2, q3⟩ := ydb q
  obtain ⟨k, rfl, G⟩ := yga q1
  obtain ⟨e, rfl⟩ : ∃ m : Nat, e = m := ⟨e.toNat, by omega⟩
  replace hsm := hsm q1
  have hlen := G.len
  have hee : e < (yaI es).length := by omega
  rw [Int.toNat_natCast] at h
  generalize hEE : yaI es = E at *
  have hxl := G.le (gx E e) (by rw [ybx hee]; exact List.getElem_mem hee)
  have hx := gx_ok G.ok hee
  rw [Int.toNat_natCast]
  refine ⟨⟨by omega, by omega⟩, by decide, by decide, ?_⟩
  unfold yaB
  rw [(ygQ hxl).1, (ygQ hxl).2]
  have hk := G.few
  refine ydx (by omega) (fun y hy R' => by
    have := G.ok y hy
    exact ⟨fun z => ycV (by omega) z, fun z => ycV (by omega) z⟩) ?_
  generalize hK : E.map (sndF (mvF (gx E e).1 (gx E e).2)) = K at h ⊢
  have hKl : K.length = E.length := by rw [← hK, List.length_map]
  refine ⟨fun v v2 => v = List.replicate E.length 0 ∧ v2 = List.replicate E.length 0, ?_, ⟨⟨by omega, by omega⟩, by rw [Int.toNat_natCast]; exact ⟨rfl, rfl⟩⟩, ⟨by omega, by omega⟩, by rw [Int.toNat_natCast]; exact ⟨rfl, rfl⟩⟩
  rintro v v2 ⟨rfl, rfl⟩
  refine ⟨fun q v3 v4 v5 => Cnt E.length (fun i => v3 = rstF e i ∧ v5.length = E.length ∧ ∀ t, t < i → t ≠ e → gi v5 t = if t < e then (t : Int) else (t : Int) - 1) q v4, Cnt.start ⟨rfl, by simp, fun t ht => by omega⟩, ?_⟩
  rintro q v3 _ v5 ⟨i, rfl, rfl, hi, rfl, h5l, h5⟩
  simp only [Int.toNat_natCast]
  have hrs := yeN e i
  have hrl := rstF_len e i
  refine ⟨fun hlt => ⟨fun z => Cnt.next (by omega) (by omega) ⟨?_, h5l, fun t ht hne => h5 t (by omega) hne⟩, fun z => ⟨⟨by omega, by omega⟩, by rw [hrl]; split <;> omega, Cnt.next (by omega) (by omega) ⟨?_, by rw [List.length_set]; exact h5l, fun t ht hne => ?_⟩⟩⟩, fun hge => ?_⟩
  · rw [hrs, if_pos (by omega), List.append_nil]
  · rw [hrs, if_neg (by omega)]
  · rw [ydQ (by omega)]
    by_cases z2 : t = i
    · subst z2
      rw [if_pos rfl, hrl]
      split
      · rw [if_pos (by omega)]
      · rw [if_neg (by omega)]; omega
    · rw [if_neg z2]; exact h5 t (by omega) hne
  · have ei : i = E.length := by omega
    subst ei
    rw [if_neg (by omega)] at hrl
    refine p_stable (lt := bfF K) (c := fun x y => yc6 (gx K x.toNat).1 (gx K x.toNat).2 (gx K y.toNat).1 (gx K y.toNat).2) (by omega) (fun x hx y hy R' hR => ?_) (fun x hx y hy hc => .inl (ycF.1 hc)) ?_ (fun x y z => ygV) fun y hyp hys => ?_
    · obtain ⟨i1, rfl, i2, _⟩ := yeJ.1 hx
      obtain ⟨j1, rfl, j2, _⟩ := yeJ.1 hy
      simp only [Int.toNat_natCast] at hR
      refine ⟨⟨by omega, by omega⟩, by decide, ⟨by omega, by omega⟩, by decide, ?_⟩
      simp only [Int.toNat_natCast]
      exact ycH (ycH (p_cmp_Or2 hR))
    · refine (ye2 e E.length).imp fun {a b} hab hc => ?_
      rw [ycF] at hc
      unfold bfF
      by_cases z : (gx K a.toNat).1 < (gx K b.toNat).1 ∨ (gx K a.toNat).1 = (gx K b.toNat).1 ∧ (gx K a.toNat).2 < (gx K b.toNat).2
      · exact .inl z
      · exact .inr ⟨Prod.ext (by omega) (by omega), hab⟩
    · have hyl : y.length = E.length - 1 := by rw [hyp.length_eq, hrl]
      have hyd : y.Nodup := hyp.nodup_iff.2 ((ye2 e E.length).imp fun h => by omega)
      have hyi : ∀ j, j < y.length → ∃ t : Nat, gi y j = t ∧ t < E.length ∧ t ≠ e := fun j hj => yeJ.1 (hyp.subset (gi_mem hj))
      refine ⟨fun q v6 v7 => Cnt y.length (fun j => v7.length = E.length ∧ ∀ t, t < j → gi v7 (gi y t).toNat = (t : Int)) q v6, Cnt.start ⟨by simp, fun t ht => by omega⟩, ?_⟩
      rintro q _ v7 ⟨j, rfl, rfl, hj, h7l, h7⟩
      simp only [Int.toNat_natCast]
      refine ⟨fun hlt => ?_, fun hge => ?_⟩
      · have hjl : j < y.length := by omega
        obtain ⟨t, ht1, ht2, _⟩ := hyi j hjl
        refine ⟨⟨by omega, by omega⟩, ⟨by omega, by omega⟩, Cnt.next hjl (by omega) ⟨by rw [List.length_set]; exact h7l, fun s hs => ?_⟩⟩
        obtain ⟨u, hu1, hu2, _⟩ := hyi s (by omega)
        rw [ydQ (by omega)]
        by_cases z : s = j
        · subst z; rw [if_pos rfl]
        · have : gi y s ≠ gi y j := fun w => by
            have h9 := List.pairwise_iff_getElem.1 hys s j (by omega) hjl (by omega)
            rw [← ybl (by omega), ← ybl hjl, w] at h9
            exact ygW h9
          rw [if_neg (by omega)]; exact h7 s (by omega)
      · have ej : j = y.length := by omega
        subst ej
        refine ⟨⟨by omega, by omega⟩, ⟨by omega, by omega⟩, ?_⟩
        have e1 : v5.set e (-1) = lesF E.length e := gi_ext (by rw [List.length_set, h5l, yeh]) fun t ht => by
          rw [List.length_set] at ht
          rw [ydQ (by omega), ybl (l := lesF E.length e) (by rw [yeh]; omega)]
          simp only [lesF, List.getElem_map, List.getElem_range]
          by_cases z : t = e
          · rw [if_pos z, if_pos z]
          · rw [if_neg z, if_neg z]; exact h5 t (by omega) z
        have e2 : v7.set e (-1) = shoF K E.length e := gi_ext (by rw [List.length_set, h7l]; simp [shoF]) fun t ht => by
          rw [List.length_set] at ht
          rw [ydQ (by omega), ybl (l := shoF K E.length e) (by simp [shoF]; omega)]
          simp only [shoF, List.getElem_map, List.getElem_range]
          by_cases z : t = e
          · rw [if_pos z, if_pos z]
          · rw [if_neg z, if_neg z]
            have hty : (t : Int) ∈ y := hyp.symm.subset (yeJ.2 ⟨t, rfl, by omega, z⟩)
            obtain ⟨s, hs, hst⟩ := List.mem_iff_getElem.1 hty
            have hgs : gi y s = (t : Int) := by rw [ybl hs]; exact hst
            have h8 := h7 s hs
            rw [hgs, Int.toNat_natCast] at h8
            rw [h8, num_rst]
            have h9 := cnt_sorted hys hs
            rw [hgs, hyp.countP_eq] at h9
            rw [h9]
        rw [e1, e2]; exact h
end
end Go.Proofs.Ytinoedockljfeaa

/- The laws on contract: the program's answers are the reference's. -/
namespace Go.Proofs.Ytinoedockljfeaa
open Go Go.RowKit Go.Shelf Go.Proofs.Try
set_option linter.unusedVariables false
set_option linter.unusedSimpArgs false
theorem few_len {l : List (Int × Int)} (h : l.length ≤ 50) : ¬ Many l := fun ⟨a, b, q⟩ => by have := yfJ l a b; omega
theorem few_of {n : Int} {es : List E3} (h : smallF n es 6 9 = true) : es.length ≤ 40 ∧ (yaZ n es = 0 → n ≤ 6 ∧ (yaI es).length ≤ 9) := by
  unfold smallF at h
  obtain ⟨h1, h2⟩ := of_decide_eq_true h
  refine ⟨h1, fun q2 => ?_⟩
  have h2 := h2 q2
  obtain ⟨k, rfl, G⟩ := yga q2
  rw [G.size] at h2
  omega
theorem p_tri {R : Int → List E3 → Prop} (h : R 3 [(0, 1, 1), (0, 2, 1), (1, 2, 1)]) : ybi R := h
theorem aw_contract {R : Int → List E3 → Int → Prop} (h : R 2 [(0, 1, 2)] 0) : ya0 3 [(0, 1, 1), (0, 2, 1), (1, 2, 1)] 0 R := by
  refine yen (by decide) (fun q => absurd (by decide) q) (fun _ q => absurd q (few_len (by decide))) fun _ _ => ?_
  have key : ∀ x y, x = 2 → y = [(0, 1, 2)] → R x y 0 := by rintro _ _ rfl rfl; exact h
  exact key _ _ (by decide) (by decide)
theorem aw_contract2 {R : Int → List E3 → Int → Prop} (h : R 1 [(0, 0, 1)] 0) : ya0 2 [(0, 1, 2)] 0 R := by
  refine yen (by decide) (fun q => absurd (by decide) q) (fun _ q => absurd q (few_len (by decide))) fun _ _ => ?_
  have key : ∀ x y, x = 1 → y = [(0, 0, 1)] → R x y 0 := by rintro _ _ rfl rfl; exact h
  exact key _ _ (by decide) (by decide)
theorem aw_vertices {R : List Int → Int → Prop} (h : R [0, 0, 1] 0) : ybn 3 [(0, 1, 1), (0, 2, 1), (1, 2, 1)] 0 R := by
  refine ygc (by decide) (fun q => absurd (by decide) q) fun _ => ?_
  have key : ∀ x, x = [0, 0, 1] → R x 0 := by rintro _ rfl; exact h
  exact key _ (by decide)
theorem aw_singles {R : List Int → List Int → Int → Prop} (h : ∀ l, R l [-1, 0, 1] 0) : ybe 3 [(0, 1, 1), (0, 2, 1), (1, 2, 1)] 0 R := by
  refine ydV (by decide) (fun _ => by decide) (fun q => absurd (by decide) q) fun _ => ?_
  have key : ∀ x l, x = [-1, 0, 1] → R l x 0 := by rintro _ l rfl; exact h l
  exact key _ _ (by decide)
def fineG : List E3 := [(0, 3, 1), (0, 4, 1), (1, 3, 1), (1, 5, 1), (2, 4, 1), (2, 5, 1)]
theorem aw_subdivide {R : Int → List E3 → Int → Prop} (h : R 6 fineG 0) : ybj 3 [(0, 1, 1), (0, 2, 1), (1, 2, 1)] 2 R := by
  refine yfw (by decide) (fun q => absurd (by decide) q) fun _ => ?_
  have key : ∀ x y, x = 6 → y = fineG → R x y 0 := by rintro _ _ rfl rfl; exact h
  exact key _ _ (by decide) (by decide)
theorem aw_collect {R : List Int → Int → Prop} (h : R [3, 3] 0) : ybt 3 [(0, 1, 1), (0, 2, 1), (1, 2, 1)] 0 [1, 2, 3] R := by
  refine yfT (by decide) (by decide) (fun q => absurd (by decide) q) (fun _ q => absurd (by decide) q) fun _ _ => ⟨fun _ => ?_, fun q => absurd (by decide) q⟩
  have key : ∀ x, x = [3, 3] → R x 0 := by rintro _ rfl; exact h
  exact key _ (by decide)
theorem ygA {n : Int} {a b : List E3} {R : Bool → Prop} (hl : a.length ≤ 1000000000) (e : a = b) (h : R true) : ycN n a n b R := by
  subst e
  refine ⟨True, fun _ => ⟨Cnt a.length fun _ => True, Cnt.start trivial, ?_⟩, fun _ => ⟨fun _ => trivial, fun q => absurd rfl q⟩, fun q => absurd rfl q⟩
  rintro m _ ⟨k, rfl, rfl, hk, -⟩
  exact ⟨fun hlt => ⟨⟨by omega, by omega⟩, ⟨by omega, by omega⟩, fun _ => Cnt.next (by omega) (by omega) trivial, fun q => absurd rfl q⟩, fun _ => h⟩
theorem p_sameEnds {a b : List (Int × Int)} {R : Bool → Prop} (hl : a.length ≤ 1000000000) (e : a = b) (h : R true) : yci a b R := by
  subst e
  refine ⟨fun _ => ⟨Cnt a.length fun _ => True, Cnt.start trivial, ?_⟩, fun q => absurd rfl q⟩
  rintro m _ ⟨k, rfl, rfl, hk, -⟩
  exact ⟨fun hlt => ⟨⟨by omega, by omega⟩, ⟨by omega, by omega⟩, fun _ => Cnt.next (by omega) (by omega) trivial, fun q => absurd rfl q⟩, fun _ => h⟩
theorem yeX {R : Bool → Prop} (h : R true) : ycd R := by
  refine p_tri (aw_contract (p_tri (aw_vertices (p_tri (aw_singles fun l => aw_contract2 (p_tri (aw_subdivide (p_tri (aw_collect (yds (es := fineG) (by decide) (fun q => absurd (by decide) q) fun _ => ?_))))))))))
  refine ⟨⟨by decide, by decide⟩, ⟨by decide, by decide⟩, ⟨by decide, by decide⟩, ⟨by decide, by decide⟩, ⟨by decide, by decide⟩, ⟨by decide, by decide⟩, fun _ => ?_, fun q => absurd (by decide) q⟩
  refine ygA (by decide) rfl ⟨fun _ => ycX (by decide) ?_, fun q => absurd rfl q⟩
  rw [decide_eq_true (rfl : ([0, 0, 1] : List Int) = [0, 0, 1])]
  refine ⟨fun _ => ycX (by decide) ?_, fun q => absurd rfl q⟩
  rw [decide_eq_true (rfl : ([-1, 0, 1] : List Int) = [-1, 0, 1])]
  refine ⟨fun _ => ygA (by decide) rfl ⟨fun _ => p_sameEnds (by decide) (by decide) ⟨fun _ => ydq (by decide) ?_, fun q => absurd rfl q⟩, fun q => absurd rfl q⟩, fun q => absurd rfl q⟩
  rw [decide_eq_true (rfl : ([3, 3] : List Int) = [3, 3])]
  exact h
theorem yfN : ∀ (es : List E3), (∀ x ∈ es, 1 ≤ x.2.2) → (es.length : Int) ≤ (es.map (·.2.2)).sum
  | [], _ => by simp
  | x :: t, h => by
    have := yfN t fun y hy => h y (by simp [hy])
    have := h x (by simp)
    rw [List.length_cons, List.map_cons, List.sum_cons]; omega
theorem yht {d : Nat} {l : List (Int × Int)} (hl : yc4 d l) : (made d l).length ≤ l.length := by
  have h := yfN (made d l) fun x hx => by
    obtain ⟨a, b, _, _, h4, rfl⟩ := ygN.1 hx
    simp only; omega
  rw [sum_made l hl] at h
  omega
end Go.Proofs.Ytinoedockljfeaa

/- The law on what Delete, Contract, Vertices and Merge change. -/
namespace Go.Proofs.Ytinoedockljfeaa
open Go Go.RowKit Go.Shelf Go.Proofs.Try
set_option linter.unusedVariables false
set_option linter.unusedSimpArgs false
section
variable {n : Int} {es : List E3} {e a b : Int}
end
end Go.Proofs.Ytinoedockljfeaa

/- The law on degrees: divisors keep them when they are collected or spread. -/
namespace Go.Proofs.Ytinoedockljfeaa
open Go Go.RowKit Go.Shelf Go.Proofs.Try
set_option linter.unusedVariables false
set_option linter.unusedSimpArgs false
structure RtG (n : Int) (es : List E3) (e : Int) (k m : Nat) : Prop where
  hn : n = k
  he : e = m
  G : GrOk k es (yaI es)
  hl : es.length ≤ 40
  hk : k ≤ 6
  hE : (yaI es).length ≤ 9
  hm : m < (yaI es).length
theorem p_l12_right {n : Int} {es : List E3} {e : Int} {R : Bool → Prop} (h1 : ∀ k m, RtG n es e k m → R true) (h2 : R false) : ygH n es e R := by
  refine p_r08_Few ⟨fun q => ?_, fun _ => h2⟩
  obtain ⟨hl, hs⟩ := few_of q
  refine ye7 (by omega) ⟨fun q2 => ⟨fun q3 => ?_, fun _ => h2⟩, fun _ => h2⟩
  obtain ⟨k, rfl, G⟩ := yga q2
  obtain ⟨hk, hE⟩ := hs q2
  refine yhn G (by omega) ?_
  by_cases q4 : e < ((yaI es).length : Int)
  · rw [decide_eq_true q4]
    exact h1 k e.toNat ⟨rfl, by omega, G, hl, by omega, hE, by omega⟩
  · rw [decide_eq_false q4]; exact h2
theorem RtG.sgl {n : Int} {es : List E3} {e : Int} {k m : Nat} (h : RtG n es e k m) : sglF n es e = 0 := by
  obtain ⟨rfl, rfl, G, hl, hk, hE, hm⟩ := h
  unfold sglF
  rw [if_neg (fun z => z G.g), if_neg (by omega)]
theorem RtG.few {n : Int} {es : List E3} {e : Int} {k m : Nat} (h : RtG n es e k m) : ¬ Many (conL (yaI es) m) := by
  apply few_len
  rw [conL_len h.hm]; have := h.hE; omega
section
variable {n : Int} {es : List E3} {e : Int} {d : List Int}
end
end Go.Proofs.Ytinoedockljfeaa

/- Ends of made graphs stand in order; places in sorted lists; the law on how ends move. -/
namespace Go.Proofs.Ytinoedockljfeaa
open Go Go.RowKit Go.Shelf Go.Proofs.Try
set_option linter.unusedVariables false
set_option linter.unusedSimpArgs false
def ltP (x y : Int × Int) : Prop := x.1 < y.1 ∨ x.1 = y.1 ∧ x.2 < y.2
def leP (x y : Int × Int) : Prop := x.1 < y.1 ∨ x.1 = y.1 ∧ x.2 ≤ y.2
instance (x y : Int × Int) : Decidable (ltP x y) := by unfold ltP; exact inferInstance
instance (x y : Int × Int) : Decidable (leP x y) := by unfold leP; exact inferInstance
theorem cnt_cons (x : E3) (t : List E3) (hx : x.1 ≤ x.2.1) (a b : Int) : cntE (yaI (x :: t)) a b = (if x.1 = a ∧ x.2.1 = b then (x.2.2.toNat : Int) else 0) + cntE (yaI t) a b := by
  have e : yaI (x :: t) = List.replicate x.2.2.toNat (x.1, x.2.1) ++ yaI t := by unfold yaI; rw [List.flatMap_cons]
  have em : mnF x.1 x.2.1 = x.1 := (ygQ hx).1
  have ex : mxF x.1 x.2.1 = x.2.1 := (ygQ hx).2
  rw [e]
  unfold cntE
  rw [List.countP_append, List.countP_replicate]
  have : isE a b (x.1, x.2.1) = decide (x.1 = a ∧ x.2.1 = b) := by unfold isE; rw [em, ex]
  rw [this]
  by_cases q : x.1 = a ∧ x.2.1 = b <;> simp [q]
theorem cnt_none : ∀ {es : List E3} {a b : Int}, (∀ x ∈ es, x.1 ≤ x.2.1) → (∀ x ∈ es, ¬ (x.1 = a ∧ x.2.1 = b)) → cntE (yaI es) a b = 0
  | [], _, _, _, _ => by simp [yaI, cntE]
  | x :: t, a, b, h, h2 => by
    rw [cnt_cons _ _ (h x (by simp)), if_neg (h2 x (by simp)), cnt_none (fun y hy => h y (by simp [hy])) fun y hy => h2 y (by simp [hy])]; rfl
theorem cnt_mem : ∀ {es : List E3} {x : E3}, (∀ x ∈ es, x.1 ≤ x.2.1 ∧ 0 ≤ x.2.2) → es.Pairwise ltE → x ∈ es → cntE (yaI es) x.1 x.2.1 = x.2.2
  | [], _, _, _, h => by simp at h
  | y :: t, x, h, hp, hx => by
    rw [List.pairwise_cons] at hp
    have hy := h y (by simp)
    rw [cnt_cons _ _ hy.1]
    rcases List.mem_cons.1 hx with rfl | hx
    · rw [if_pos ⟨rfl, rfl⟩, cnt_none (fun z hz => (h z (by simp [hz])).1) fun z hz q => by
        have := hp.1 z hz
        unfold ltE at this; omega]
      omega
    · rw [if_neg (fun q => by have := hp.1 x hx; unfold ltE at this; omega), cnt_mem (fun z hz => h z (by simp [hz])) hp.2 hx]; omega
theorem made_le {d : Nat} {l : List (Int × Int)} : ∀ x ∈ made d l, x.1 ≤ x.2.1 ∧ 0 ≤ x.2.2 := fun x hx => by
  obtain ⟨a, b, h1, h2, h3, rfl⟩ := ygN.1 hx
  simp only; omega
theorem cnt_made {d : Nat} {l : List (Int × Int)} (hl : yc4 d l) (a b : Int) : cntE (yaI (made d l)) a b = cntE l a b := by
  by_cases q : 0 < cntE l a b
  · have q' := q
    unfold cntE at q
    have h2 : 0 < l.countP (isE a b) := by omega
    obtain ⟨e, he, hp⟩ := List.countP_pos_iff.1 h2
    unfold isE at hp
    obtain ⟨h3, h4⟩ := of_decide_eq_true hp
    have h5 := hl e he
    have h6 : mnF e.1 e.2 ≤ mxF e.1 e.2 ∧ 0 ≤ mnF e.1 e.2 ∧ mxF e.1 e.2 < d := by
      unfold mnF mxF
      split <;> omega
    obtain ⟨a', rfl⟩ : ∃ k : Nat, a = k := ⟨a.toNat, by omega⟩
    obtain ⟨b', rfl⟩ : ∃ k : Nat, b = k := ⟨b.toNat, by omega⟩
    have hm : ((a' : Int), (b' : Int), cntE l a' b') ∈ made d l := ygN.2 ⟨a', b', by omega, by omega, q', rfl⟩
    exact cnt_mem made_le yes hm
  · have := yfG l a b
    rw [cnt_none (fun x hx => (made_le x hx).1)]
    · omega
    · rintro x hx ⟨rfl, rfl⟩
      obtain ⟨a, b, h1, h2, h3, rfl⟩ := ygN.1 hx
      exact q h3
theorem cnt_count {l : List (Int × Int)} (h : ∀ e ∈ l, e.1 ≤ e.2) (p : Int × Int) : l.count p = if p.1 ≤ p.2 then (cntE l p.1 p.2).toNat else 0 := by
  split
  · rename_i q
    unfold cntE
    rw [Int.toNat_natCast, List.count_eq_countP]
    refine List.countP_congr fun x hx => ?_
    unfold isE
    rw [(ygQ (h x hx)).1, (ygQ (h x hx)).2, beq_iff_eq, decide_eq_true_eq]
    exact ⟨fun z => by rw [z]; exact ⟨rfl, rfl⟩, fun z => Prod.ext z.1 z.2⟩
  · rename_i q
    rw [List.count_eq_zero]
    intro z
    exact q (h p z)
theorem ends_le {es : List E3} (h : ∀ x ∈ es, x.1 ≤ x.2.1) : ∀ e ∈ yaI es, e.1 ≤ e.2 := fun e he => by
  unfold yaI at he
  obtain ⟨x, hx, hr⟩ := List.mem_flatMap.1 he
  rw [(List.mem_replicate.1 hr).2]
  exact h x hx
theorem yhA {d : Nat} {l : List (Int × Int)} (hl : yc4 d l) (hle : ∀ e ∈ l, e.1 ≤ e.2) : (yaI (made d l)).Perm l := by
  rw [List.perm_iff_count]
  intro p
  rw [cnt_count (ends_le fun x hx => (made_le x hx).1), cnt_count hle, cnt_made hl]
theorem made_gr {d : Nat} (h1 : 1 ≤ d) (hd : d ≤ 12) {l : List (Int × Int)} (hm : ¬ Many l) : GrOk d (made d l) (yaI (made d l)) := by
  obtain ⟨k, e, G⟩ := yga (made_ok h1 hd (not_many hm))
  have e : k = d := by omega
  rw [e] at G; exact G
theorem oth_snoc (l : List (Int × Int)) (x : Int × Int) (m : Nat) : othF (l ++ [x]) m = othF l m ++ if l.length = m then [] else [x] := by
  unfold othF
  rcases Nat.lt_trichotomy l.length m with q | q | q
  · rw [if_neg (by omega), List.take_of_length_le (by simp; omega), List.take_of_length_le (by omega), List.drop_eq_nil_of_le (by simp; omega), List.drop_eq_nil_of_le (by omega)]; simp
  · rw [if_pos q, List.take_append_of_le_length (by omega), List.drop_eq_nil_of_le (by simp; omega), List.drop_eq_nil_of_le (by omega)]; simp
  · rw [if_neg (by omega), List.take_append_of_le_length (by omega), List.drop_append_of_le_length (by omega), List.append_assoc]
theorem gx_snoc_lt {l : List (Int × Int)} {x : Int × Int} {j : Nat} (h : j < l.length) : gx (l ++ [x]) j = gx l j := by
  rw [ybx (by simp; omega), ybx h, List.getElem_append_left h]
theorem oth_range (m : Nat) (E : List (Int × Int)) : othF E m = ((List.range E.length).filter fun j => decide (j ≠ m)).map (gx E) := by
  refine snoc_ind (P := fun E => othF E m = ((List.range E.length).filter fun j => decide (j ≠ m)).map (gx E)) (by simp [othF]) (fun l x ih => ?_) E
  have e : ((List.range l.length).filter fun j => decide (j ≠ m)).map (gx (l ++ [x])) = ((List.range l.length).filter fun j => decide (j ≠ m)).map (gx l) :=
    List.map_congr_left fun j hj => gx_snoc_lt (List.mem_range.1 (List.mem_filter.1 hj).1)
  rw [oth_snoc, ih, List.length_append, List.length_singleton, List.range_succ, List.filter_append, List.map_append, e]
  congr 1
  by_cases q : l.length = m
  · rw [if_pos q]; simp [q]
  · rw [if_neg q]
    simp only [List.filter_cons, List.filter_nil]
    rw [if_pos (decide_eq_true q), List.map_singleton, ybx (by simp)]; simp
end Go.Proofs.Ytinoedockljfeaa

/- The number of parts; degrees in made graphs. -/
namespace Go.Proofs.Ytinoedockljfeaa
open Go Go.RowKit Go.Shelf Go.Proofs.Try
set_option linter.unusedVariables false
set_option linter.unusedSimpArgs false
set_option maxRecDepth 100000
def degL (l : List (Int × Int)) (v : Int) : Int := ((l.countP fun e => decide (e.1 = v)) : Int) + ((l.countP fun e => decide (e.2 = v)) : Int)
theorem yhv (l : List (Int × Int)) (e : Int × Int) (v : Int) : degL (l ++ [e]) v = degL l v + ((if e.1 = v then 1 else 0) + if e.2 = v then 1 else 0) := by
  unfold degL
  rw [List.countP_append, List.countP_append]
  by_cases h1 : e.1 = v <;> by_cases h2 : e.2 = v <;> simp [List.countP_cons, h1, h2] <;> omega
theorem deg_sum {d v : Nat} (hv : v < d) (l : List (Int × Int)) : yc4 d l → (sm d fun u => if u = v then 0 else cntE l (mnF v u) (mxF v u)) + 2 * cntE l v v = degL l v := by
  refine snoc_ind (P := fun l => yc4 d l → (sm d fun u => if u = v then 0 else cntE l (mnF v u) (mxF v u)) + 2 * cntE l v v = degL l v) (fun _ => ?_) (fun l e ih hl => ?_) l
  · simp only [cntE, degL, List.countP_nil, Int.natCast_zero, ite_self]
    rw [yc7]; omega
  · have ih := ih fun x hx => hl x (by simp [hx])
    obtain ⟨⟨a1, a2⟩, b1, b2⟩ := hl e (by simp)
    obtain ⟨x, hx⟩ : ∃ x : Nat, e.1 = x := ⟨e.1.toNat, by omega⟩
    obtain ⟨y, hy⟩ : ∃ y : Nat, e.2 = y := ⟨e.2.toNat, by omega⟩
    have e1 : (sm d fun u => if u = v then 0 else cntE (l ++ [e]) (mnF v u) (mxF v u)) = (sm d fun u => if u = v then 0 else cntE l (mnF v u) (mxF v u)) + sm d fun u => if u = v then 0 else if mnF e.1 e.2 = mnF v u ∧ mxF e.1 e.2 = mxF v u then 1 else 0 := by
      rw [← ydn]
      refine yaR fun u _ => ?_
      by_cases q : u = v
      · simp [q]
      · rw [if_neg q, if_neg q, if_neg q, ye8]
    rw [e1, ye8, yhv, ← ih, hx, hy]
    rw [hx] at a1 a2; rw [hy] at b1 b2
    have hs : ∀ w : Nat, w < d → w ≠ v → (∀ u : Nat, u ≠ v → ((mnF (x : Int) y = mnF v u ∧ mxF (x : Int) y = mxF v u) ↔ u = w)) → (sm d fun u => if u = v then 0 else if mnF (x : Int) y = mnF v u ∧ mxF (x : Int) y = mxF v u then (1 : Int) else 0) = 1 := by
      intro w hw hne h
      refine Eq.trans (yaR fun u _ => ?_) (yfO (1 : Int) hw)
      by_cases q : u = v
      · rw [if_pos q, if_neg (by omega)]
      · rw [if_neg q]
        by_cases q2 : u = w
        · rw [if_pos q2, if_pos ((h u q).2 q2)]
        · rw [if_neg q2, if_neg fun z => q2 ((h u q).1 z)]
    have h0 : (∀ u : Nat, u ≠ v → ¬ (mnF (x : Int) y = mnF v u ∧ mxF (x : Int) y = mxF v u)) → (sm d fun u => if u = v then 0 else if mnF (x : Int) y = mnF v u ∧ mxF (x : Int) y = mxF v u then (1 : Int) else 0) = 0 := by
      intro h
      refine Eq.trans (yaR fun u _ => ?_) (yc7 d)
      by_cases q : u = v
      · rw [if_pos q]
      · rw [if_neg q, if_neg (h u q)]
    by_cases c1 : x = v <;> by_cases c2 : y = v
    · rw [h0 fun u hu => by simp only [mnF, mxF]; split <;> split <;> (try split) <;> (try split) <;> omega]
      rw [if_pos (by simp only [mnF, mxF]; split <;> omega), if_pos (by omega), if_pos (by omega)]; omega
    · rw [hs y (by omega) c2 fun u hu => by simp only [mnF, mxF]; split <;> split <;> (try split) <;> (try split) <;> omega]
      rw [if_neg (by simp only [mnF, mxF]; split <;> (try split) <;> omega), if_pos (by omega), if_neg (by omega)]; omega
    · rw [hs x (by omega) c1 fun u hu => by simp only [mnF, mxF]; split <;> split <;> (try split) <;> (try split) <;> omega]
      rw [if_neg (by simp only [mnF, mxF]; split <;> (try split) <;> omega), if_neg (by omega), if_pos (by omega)]; omega
    · rw [h0 fun u hu => by simp only [mnF, mxF]; split <;> split <;> (try split) <;> (try split) <;> omega]
      rw [if_neg (by simp only [mnF, mxF]; split <;> (try split) <;> omega), if_neg (by omega), if_neg (by omega)]; omega
theorem deg_made {d : Nat} {l : List (Int × Int)} (h1 : 1 ≤ d) (hd : d ≤ 12) (hm : ∀ a b, cntE l a b ≤ 50) {v : Nat} (hv : v < d) : deg d (made d l) v = sm d fun u => if u = v then 0 else cntE l (mnF v u) (mxF v u) := by
  unfold deg
  refine yaR fun u hu => ?_
  by_cases q : u = v
  · rw [if_pos q, q, W_self]
  · rw [if_neg q, W_made h1 hd hm hv hu (by omega)]
theorem loop_made {d : Nat} {l : List (Int × Int)} {v : Nat} (hv : v < d) : (((made d l).find? fun x => decide (x.1 = mnF (v : Int) v ∧ x.2.1 = mxF (v : Int) v)).map (·.2.2)).getD 0 = cntE l v v := by
  have e1 : mnF (v : Int) v = v := by simp only [mnF]; split <;> rfl
  have e2 : mxF (v : Int) v = v := by simp only [mxF]; split <;> rfl
  rw [e1, e2]
  cases hf : (made d l).find? fun x => decide (x.1 = (v : Int) ∧ x.2.1 = (v : Int)) with
  | none =>
    have h0 := yfG l v v
    rcases Classical.em (0 < cntE l v v) with q | q
    · have := List.find?_eq_none.1 hf _ (ygN.2 ⟨v, v, Nat.le_refl _, hv, q, rfl⟩)
      simp at this
    · simp; omega
  | some x =>
    have hx := List.mem_of_find?_eq_some hf
    have hp := List.find?_some hf
    simp only [decide_eq_true_eq] at hp
    obtain ⟨a', b', _, _, _, rfl⟩ := ygN.1 hx
    simp only at hp
    simp [hp.1, hp.2]
theorem root_new {F : List Nat} (hF : yg9 F) {v : Nat} (hv : v < 12) : root F v = v ↔ ¬ ∃ x, x < v ∧ root F v = root F x := by
  constructor
  · rintro h ⟨x, hx, h2⟩
    have := (yhg hF x (by omega)).1
    omega
  · intro h
    have h1 := (yhg hF v hv).1
    apply Classical.byContradiction
    intro q
    exact h ⟨root F v, by omega, (root_root hF hv).symm⟩
theorem ends12_of {n : Nat} {es : List E3} (hE : EOk n es) (hn : n ≤ 12) : yhi es := fun x hx => by
  have := hE x hx; omega
section
variable {n : Nat} {es : List E3}
theorem p_r08_PartsN {R : Int → Prop} (hl : es.length ≤ 1000000000) (hg : yaZ n es = 0) (h : R (yhf (ygX es) n : Int)) : yg4 (n : Int) es R := by
  obtain ⟨hE, hn1, hn12⟩ := yfb hg
  have hF := yhh es (ends12_of hE hn12)
  unfold yg4
  simp only [Int.toNat_natCast]
  refine ⟨by omega, ?_⟩
  refine ⟨fun m k i o => Cnt n (fun v => 0 ≤ k ∧ k ≤ v ∧ k = (yhf (ygX es) v : Int) ∧ o.length = n ∧ (∀ u, u < n → (gb o u = true ↔ ∃ x, x < v ∧ root (ygX es) u = root (ygX es) x))) m i,
    Cnt.start ⟨by omega, by omega, rfl, by simp, fun u _ => by rw [gb_rep]; simp⟩, ?_⟩
  rintro m k _ o ⟨v, rfl, rfl, hv, k0, k1, k2, hol, hseen⟩
  refine ⟨fun hlt => ?_, fun hge => ?_⟩
  · have hlt : v < n := by omega
    simp only [Int.toNat_natCast]
    refine ⟨by omega, fun hx => ?_, fun hx => ⟨i64 (by omega), p_r08_Reached hl hg hlt fun ro hrl hro => ?_⟩⟩
    · obtain ⟨x, hxv, hxr⟩ := (hseen v hlt).1 hx
      have hns : yhf (ygX es) (v + 1) = yhf (ygX es) v := by
        rw [yhf, if_neg fun z => (root_new hF (by omega)).1 z ⟨x, hxv, hxr⟩, Nat.add_zero]
      refine Cnt.next hlt (by omega) ⟨k0, by omega, by rw [hns]; exact k2, hol, fun u hu => ?_⟩
      · rw [hseen u hu]
        constructor
        · rintro ⟨y, hy, hyr⟩; exact ⟨y, by omega, hyr⟩
        · rintro ⟨y, hy, hyr⟩
          by_cases e : y = v
          · subst e; exact ⟨x, hxv, hyr.trans hxr⟩
          · exact ⟨y, by omega, hyr⟩
    · refine ⟨fun m i o' => Cnt n (fun u => o'.length = n ∧ (∀ x, x < n → (gb o' x = true ↔ (gb o x = true ∨ (x < u ∧ gb ro x = true))))) m i, Cnt.start ⟨hol, fun x _ => by simp⟩, ?_⟩
      rintro m _ o' ⟨u, rfl, rfl, hu, hol', hor⟩
      refine ⟨fun hltu => ?_, fun hgeu => ?_⟩
      · have hltu : u < n := by omega
        simp only [Int.toNat_natCast]
        have hou := hor u hltu
        have st : ∀ b : Bool, (b = true ↔ (gb o u = true ∨ gb ro u = true)) → (o'.set u b).length = n ∧ (∀ x, x < n → (gb (o'.set u b) x = true ↔ (gb o x = true ∨ (x < u + 1 ∧ gb ro x = true)))) := fun b hbb => by
          refine ⟨by simpa using hol', fun x hx => ?_⟩
          rw [yhq (by omega)]
          by_cases e : x = u
          · subst e
            rw [if_pos rfl, hbb]
            constructor
            · rintro (h | h)
              · exact .inl h
              · exact .inr ⟨by omega, h⟩
            · rintro (h | h)
              · exact .inl h
              · exact .inr h.2
          · rw [if_neg e, hor x hx]
            constructor
            · rintro (h | h)
              · exact .inl h
              · exact .inr ⟨by omega, h.2⟩
            · rintro (h | h)
              · exact .inl h
              · exact .inr ⟨by omega, h.2⟩
        refine ⟨by omega, fun hx2 => Cnt.next hltu (by omega) (st true ?_), fun hx2 => ⟨by omega, Cnt.next hltu (by omega) (st _ ?_)⟩⟩
        · have := hou.1 hx2
          constructor
          · intro _; rcases this with h | h
            · exact .inl h
            · exact .inr h.2
          · intro _; rfl
        · constructor
          · intro h; exact .inr h
          · rintro (h | h)
            · exact absurd (hou.2 (.inl h)) hx2
            · exact h
      · have hun : u = n := by omega
        subst hun
        have hnew : ¬ ∃ x, x < v ∧ root (ygX es) v = root (ygX es) x := fun h => hx ((hseen v hlt).2 h)
        have hns : yhf (ygX es) (v + 1) = yhf (ygX es) v + 1 := by
          rw [yhf, if_pos ((root_new hF (by omega)).2 hnew)]
        refine Cnt.next (by omega) (by omega) ⟨by omega, by omega, by rw [hns]; omega, hol', fun x hxn => ?_⟩
        rw [hor x hxn, hseen x hxn, hro x hxn, decide_eq_true_eq]
        constructor
        · rintro (⟨y, hy, hyr⟩ | h)
          · exact ⟨y, by omega, hyr⟩
          · exact ⟨v, by omega, h.2⟩
        · rintro ⟨y, hy, hyr⟩
          by_cases e : y = v
          · subst e; exact .inr ⟨hxn, hyr⟩
          · exact .inl ⟨y, by omega, hyr⟩
  · have hvn : v = n := by omega
    subst hvn
    rw [k2]; exact h
end
theorem yhm (F : List Nat) : ∀ n, yhf F n = ((List.range n).filter fun v => decide (root F v = v)).length
  | 0 => rfl
  | n + 1 => by
    rw [yhf, yhm F n, List.range_succ, List.filter_append, List.length_append]
    by_cases q : root F n = n <;> simp [q]
structure Rts (r : Nat → Nat) (L : List (Int × Int)) : Prop where
  one : ∀ e ∈ L, r e.1.toNat = r e.2.toNat
  least : ∀ h : Nat → Nat, (∀ e ∈ L, h e.1.toNat = h e.2.toNat) → ∀ u v, u < 12 → v < 12 → r u = r v → h u = h v
  le : ∀ v, v < 12 → r v ≤ v ∧ r (r v) = r v
theorem rts_gr {k : Nat} {es : List E3} {E : List (Int × Int)} (G : GrOk k es E) : Rts (root (ygX es)) E := by
  obtain ⟨hE, _, h12⟩ := yfb G.g
  have hE12 := ends12_of hE h12
  have hF := yhh es hE12
  have hee := G.e
  refine ⟨fun e he => ?_, fun h hh u v hu hv huv => ?_, fun v hv => ⟨(yhg hF v hv).1, root_root hF hv⟩⟩
  · rw [← hee] at he
    unfold yaI at he
    obtain ⟨x, hx, hr⟩ := List.mem_flatMap.1 he
    rw [(List.mem_replicate.1 hr).2]
    exact root_edge es hE12 x hx
  · have hx : ∀ x ∈ es, (fun w => decide (h w = h v)) x.1.toNat = (fun w => decide (h w = h v)) x.2.1.toNat := fun x hx => by
      have : (x.1, x.2.1) ∈ E := by
        rw [← hee]
        unfold yaI
        refine List.mem_flatMap.2 ⟨x, hx, List.mem_replicate.2 ⟨?_, rfl⟩⟩
        have := hE x hx; omega
      have := hh _ this
      simp only at this ⊢
      rw [this]
    have h1 := yhw (n := k) (S := fun w => decide (h w = h v)) es hE12 hx u hu
    have h2 := yhw (n := k) (S := fun w => decide (h w = h v)) es hE12 hx v hv
    rw [huv, h2] at h1
    have h3 : decide (h u = h v) = true := h1.symm.trans (decide_eq_true rfl)
    exact of_decide_eq_true h3
theorem Rts.perm {r : Nat → Nat} {L M : List (Int × Int)} (h : Rts r L) (p : L.Perm M) : Rts r M :=
  ⟨fun e he => h.one e (p.mem_iff.2 he), fun g hg => h.least g fun e he => hg e (p.mem_iff.1 he), h.le⟩
theorem yhs {n n' : Nat} {r r' : Nat → Nat} (f : Nat → Nat) (hr : ∀ v, v < n' → r' v ≤ v ∧ r' (r' v) = r' v) (hf : ∀ v, v < n → f v < n') (hi : ∀ u v, u < n → v < n → r' (f u) = r' (f v) → r u = r v) :
    ((List.range n).filter fun v => decide (r v = v)).length ≤ ((List.range n').filter fun v => decide (r' v = v)).length := by
  have e : ((List.range n).filter fun v => decide (r v = v)).length = (((List.range n).filter fun v => decide (r v = v)).map fun v => r' (f v)).length := by rw [List.length_map]
  rw [e]
  refine yhy ?_ fun x hx => ?_
  · unfold List.Nodup
    rw [List.pairwise_map]
    have hn : ((List.range n).filter fun v => decide (r v = v)).Nodup := List.nodup_range.filter _
    refine List.Pairwise.imp_of_mem (fun {a b} ha hb hab q => ?_) hn
    obtain ⟨a1, a2⟩ := List.mem_filter.1 ha
    obtain ⟨b1, b2⟩ := List.mem_filter.1 hb
    have := hi a b (List.mem_range.1 a1) (List.mem_range.1 b1) q
    rw [of_decide_eq_true a2, of_decide_eq_true b2] at this
    exact hab this
  · obtain ⟨v, hv, rfl⟩ := List.mem_map.1 hx
    have hv := List.mem_range.1 (List.mem_filter.1 hv).1
    have h1 := hr (f v) (hf v hv)
    have h2 := hf v hv
    exact List.mem_filter.2 ⟨List.mem_range.2 (by omega), decide_eq_true h1.2⟩
theorem mem_oth {E : List (Int × Int)} {m : Nat} {e : Int × Int} (h : e ∈ E) : e = gx E m ∨ e ∈ othF E m := by
  obtain ⟨j, hj, rfl⟩ := List.getElem_of_mem h
  by_cases q : j = m
  · subst q; exact .inl (ybx hj).symm
  · refine .inr ?_
    rw [oth_range]
    exact List.mem_map.2 ⟨j, List.mem_filter.2 ⟨List.mem_range.2 hj, decide_eq_true q⟩, ybx hj⟩
theorem snd_one {r : Nat → Nat} {f : Int → Int} {x : Int × Int} : r (sndF f x).1.toNat = r (sndF f x).2.toNat ↔ r (f x.1).toNat = r (f x.2).toNat := by
  unfold sndF mnF mxF
  simp only
  split <;> split
  · omega
  · exact eq_comm
  · exact Iff.rfl
  · have e : f x.2 = f x.1 := by omega
    rw [e]
theorem parts_con {k : Nat} {E : List (Int × Int)} {m : Nat} {r r' : Nat → Nat} (hE : yc4 k E) (hle : ∀ e ∈ E, e.1 ≤ e.2) (hm : m < E.length) (hk : k ≤ 12) (h : Rts r E) (h' : Rts r' (conL E m)) :
    ((List.range k).filter fun v => decide (r v = v)).length = ((List.range (conD k (gx E m))).filter fun v => decide (r' v = v)).length := by
  have hgm : gx E m ∈ E := by rw [ybx hm]; exact List.getElem_mem hm
  have hg := hE _ hgm
  have hab := hle _ hgm
  obtain ⟨a, ha⟩ : ∃ a : Nat, (gx E m).1 = a := ⟨(gx E m).1.toNat, by omega⟩
  obtain ⟨b, hb⟩ : ∃ b : Nat, (gx E m).2 = b := ⟨(gx E m).2.toNat, by omega⟩
  have hrab := h.one _ hgm
  rw [ha, hb, Int.toNat_natCast, Int.toNat_natCast] at hrab
  have hcd : conD k (gx E m) = if a = b then k else k - 1 := by
    unfold conD; rw [ha, hb]; split <;> split <;> omega
  have hcl : conL E m = (othF E m).map (sndF (mvF a b)) := by unfold conL; rw [ha, hb]
  have hk2 : a < k ∧ b < k ∧ a ≤ b := by omega
  have hfv : ∀ v : Nat, v < k → (mvF a b v).toNat < conD k (gx E m) := fun v hv => by
    rw [hcd]; unfold mvF; split
    · split <;> omega
    · split
      · split <;> omega
      · split <;> omega
  have hmv : ∀ v : Nat, (mvF a b v).toNat = if a = b ∨ v < b then v else if v = b then a else v - 1 := fun v => by
    unfold mvF
    by_cases q : a = b ∨ v < b
    · rw [if_pos q, if_pos (show (a : Int) = b ∨ (v : Int) < b by omega)]; rfl
    · rw [if_neg q, if_neg (show ¬ ((a : Int) = b ∨ (v : Int) < b) by omega)]
      by_cases q2 : v = b
      · rw [if_pos q2, if_pos (show (v : Int) = b by omega)]; rfl
      · rw [if_neg q2, if_neg (show ¬ (v : Int) = b by omega)]; omega
  have hrg : ∀ v : Nat, v < k → r (if a = b then (mvF a b v).toNat else if (mvF a b v).toNat < b then (mvF a b v).toNat else (mvF a b v).toNat + 1) = r v := fun v hv => by
    rw [hmv]
    by_cases q : a = b
    · rw [if_pos q, if_pos (show a = b ∨ v < b from .inl q)]
    · rw [if_neg q]
      by_cases q1 : v < b
      · rw [if_pos (show a = b ∨ v < b from .inr q1), if_pos q1]
      · rw [if_neg (show ¬ (a = b ∨ v < b) by omega)]
        by_cases q2 : v = b
        · rw [if_pos q2, if_pos (show a < b by omega), q2]; exact hrab
        · rw [if_neg q2, if_neg (show ¬ v - 1 < b by omega)]; congr 1; omega
  apply Nat.le_antisymm
  · refine yhs (fun v => (mvF a b v).toNat) (fun v hv => h'.le v (by rw [hcd] at hv; split at hv <;> omega)) hfv fun u v hu hv huv => ?_
    have := h'.least (fun v => r (if a = b then v else if v < b then v else v + 1)) (fun e he => by
      rw [hcl] at he
      obtain ⟨x, hx, rfl⟩ := List.mem_map.1 he
      have hxE := (ygR E m).subset hx
      have hx1 := hE x hxE
      have e1 := hrg x.1.toNat (by omega)
      have e2 := hrg x.2.toNat (by omega)
      rw [show ((x.1.toNat : Nat) : Int) = x.1 by omega] at e1
      rw [show ((x.2.toNat : Nat) : Int) = x.2 by omega] at e2
      refine (snd_one (r := fun v => r (if a = b then v else if v < b then v else v + 1))).2 ?_
      exact e1.trans ((h.one x hxE).trans e2.symm)) _ _ (by have := hfv u hu; rw [hcd] at this; split at this <;> omega) (by have := hfv v hv; rw [hcd] at this; split at this <;> omega) huv
    exact (hrg u hu).symm.trans (this.trans (hrg v hv))
  · have hgk : ∀ v, v < conD k (gx E m) → (if a = b then v else if v < b then v else v + 1) < k := fun v hv => by
      rw [hcd] at hv
      split
      · rename_i q; rw [if_pos q] at hv; exact hv
      · rename_i q; rw [if_neg q] at hv; split <;> omega
    have hfg : ∀ v, v < conD k (gx E m) → (mvF a b ((if a = b then v else if v < b then v else v + 1 : Nat) : Nat)).toNat = v := fun v hv => by
      rw [hcd] at hv
      rw [hmv]
      by_cases q : a = b
      · rw [if_pos q, if_pos (show a = b ∨ v < b from .inl q)]
      · rw [if_neg q]
        by_cases q1 : v < b
        · rw [if_pos q1, if_pos (show a = b ∨ v < b from .inr q1)]
        · rw [if_neg q1, if_neg (show ¬ (a = b ∨ v + 1 < b) by omega), if_neg (show ¬ v + 1 = b by omega)]; omega
    refine yhs (fun v => if a = b then v else if v < b then v else v + 1) (fun v hv => h.le v (by omega)) hgk fun u v hu hv huv => ?_
    have := h.least (fun v => r' (mvF a b v).toNat) (fun e he => by
      have h1 := hE e he
      show r' (mvF a b (e.1.toNat : Int)).toNat = r' (mvF a b (e.2.toNat : Int)).toNat
      rw [show ((e.1.toNat : Nat) : Int) = e.1 by omega, show ((e.2.toNat : Nat) : Int) = e.2 by omega]
      rcases mem_oth (m := m) he with q | q
      · rw [q, ha, hb]
        congr 1
        rw [hmv, hmv]
        by_cases q : a = b
        · rw [q]
        · rw [if_pos (show a = b ∨ a < b by omega), if_neg (show ¬ (a = b ∨ b < b) by omega), if_pos rfl]
      · exact snd_one.1 (h'.one _ (by rw [hcl]; exact List.mem_map.2 ⟨e, q, rfl⟩))) _ _ (by have := hgk u hu; omega) (by have := hgk v hv; omega) huv
    rw [hfg u hu, hfg v hv] at this
    exact this
theorem parts_sub {N j : Nat} {E : List (Int × Int)} {r r' : Nat → Nat} (hE : yc4 N E) (h12 : N + E.length * j ≤ 12) (h : Rts r E) (h' : Rts r' (subF E N j E.length)) :
    ((List.range N).filter fun v => decide (r v = v)).length = ((List.range (N + E.length * j)).filter fun v => decide (r' v = v)).length := by
  have hmem : ∀ i, i < E.length → ∀ e ∈ pthF E N j i, e ∈ subF E N j E.length := fun i hi e he => by
    unfold subF; exact List.mem_flatMap.2 ⟨i, List.mem_range.2 hi, he⟩
  have hpth : ∀ i, i < E.length → ∀ t, t ≤ j → r' (atF (gx E i).1 (N + i * j) t).toNat = r' (gx E i).1.toNat := fun i hi t => by
    induction t with
    | zero => intro _; simp [atF]
    | succ t ih =>
      intro ht
      have := h'.one (atF (gx E i).1 (N + i * j) t, ((N + i * j + t : Nat) : Int)) (hmem i hi _ (by
        unfold pthF wyF
        exact List.mem_append.2 (.inl (List.mem_map.2 ⟨t, List.mem_range.2 (by omega), rfl⟩))))
      simp only at this
      rw [ih (by omega)] at this
      rw [this]; unfold atF; rw [if_neg (by omega)]; rfl
  have hend : ∀ i, i < E.length → r' (gx E i).1.toNat = r' (gx E i).2.toNat := fun i hi => by
    have := h'.one (atF (gx E i).1 (N + i * j) j, (gx E i).2) (hmem i hi _ (by unfold pthF; simp))
    simp only at this
    rw [← this, hpth i hi j (Nat.le_refl _)]
  have hdiv : ∀ i t, t < j → (N + i * j + t - N) / j = i := fun i t ht => by
    rw [show N + i * j + t - N = t + i * j by omega, Nat.add_mul_div_right _ _ (by omega), Nat.div_eq_of_lt ht]; omega
  apply Nat.le_antisymm
  · refine yhs (fun v => v) (fun v hv => h'.le v (by omega)) (fun v hv => by omega) fun u v hu hv huv => ?_
    have key := h'.least (fun v => r (if v < N then v else (gx E ((v - N) / j)).1.toNat)) (fun e he => by
      unfold subF at he
      obtain ⟨i, hi, he⟩ := List.mem_flatMap.1 he
      have hi := List.mem_range.1 hi
      have hg := gx_ok hE hi
      have hat : ∀ t, t ≤ j → (if (atF (gx E i).1 (N + i * j) t).toNat < N then (atF (gx E i).1 (N + i * j) t).toNat else (gx E (((atF (gx E i).1 (N + i * j) t).toNat - N) / j)).1.toNat) = (gx E i).1.toNat := fun t ht => by
        unfold atF
        by_cases q : t = 0
        · rw [if_pos q, if_pos (by omega)]
        · rw [if_neg q, Int.toNat_natCast, if_neg (by omega), show N + i * j + t - 1 - N = N + i * j + (t - 1) - N by omega, hdiv i _ (by omega)]
      unfold pthF at he
      rcases List.mem_append.1 he with he | he
      · unfold wyF at he
        obtain ⟨t, ht, rfl⟩ := List.mem_map.1 he
        have ht := List.mem_range.1 ht
        simp only
        rw [hat t (by omega), Int.toNat_natCast, if_neg (by omega), hdiv i t ht]
      · rw [List.mem_singleton] at he
        subst he
        simp only
        rw [hat j (Nat.le_refl _), if_pos (show (gx E i).2.toNat < N by omega)]
        exact h.one _ (by rw [ybx hi]; exact List.getElem_mem hi)) u v (by omega) (by omega) huv
    rw [if_pos hu, if_pos hv] at key
    exact key
  · have hq : ∀ v, v < N + E.length * j → ¬ v < N → (v - N) / j < E.length ∧ ∃ t, t < j ∧ v = N + (v - N) / j * j + t := fun v hv hn => by
      have hj : 0 < j := by
        rcases Nat.eq_zero_or_pos j with z | z
        · subst z; omega
        · exact z
      refine ⟨by rw [Nat.div_lt_iff_lt_mul hj]; omega, (v - N) % j, Nat.mod_lt _ hj, ?_⟩
      have := Nat.div_add_mod (v - N) j
      rw [Nat.mul_comm] at this
      omega
    have hgl : ∀ v, v < N + E.length * j → (if v < N then v else (gx E ((v - N) / j)).1.toNat) < N := fun v hv => by
      split
      · assumption
      · rename_i q
        have := gx_ok hE (hq v hv q).1
        omega
    have hrv : ∀ v, v < N + E.length * j → r' (if v < N then v else (gx E ((v - N) / j)).1.toNat) = r' v := fun v hv => by
      split
      · rfl
      · rename_i q
        obtain ⟨h1, t, ht, h2⟩ := hq v hv q
        have := hpth _ h1 (t + 1) (by omega)
        unfold atF at this
        rw [if_neg (by omega), Int.toNat_natCast] at this
        rw [← this]
        congr 1
        omega
    refine yhs (fun v => if v < N then v else (gx E ((v - N) / j)).1.toNat) (fun v hv => h.le v (by omega)) hgl fun u v hu hv huv => ?_
    have key := h.least r' (fun e he => by
      obtain ⟨i, hi, rfl⟩ := List.getElem_of_mem he
      have := hend i hi
      rw [ybx hi] at this
      exact this) _ _ (by have := hgl u hu; omega) (by have := hgl v hv; omega) huv
    rw [hrv u hu, hrv v hv] at key
    exact key
theorem degL_append (l m : List (Int × Int)) (v : Int) : degL (l ++ m) v = degL l v + degL m v := by
  unfold degL
  rw [List.countP_append, List.countP_append]; omega
theorem atF_val (a : Int) (nx j : Nat) : (j = 0 → atF a nx j = a) ∧ (j ≠ 0 → atF a nx j = ((nx + j - 1 : Nat) : Int)) := by
  unfold atF
  exact ⟨fun q => if_pos q, fun q => if_neg q⟩
theorem deg_way {a : Int} {N nx v : Nat} (ha : a < N) (hN : N ≤ nx) (hv : N ≤ v) : ∀ j, degL (wyF a nx j) v = if v < nx ∨ nx + j ≤ v then 0 else if v + 1 = nx + j then 1 else 2
  | 0 => by rw [if_pos (by omega)]; simp [wyF, degL]
  | j + 1 => by
    rw [wyF_snoc, yhv, deg_way ha hN hv j]
    have hz := atF_val a nx j
    generalize atF a nx j = z at *
    show _ + ((if z = (v : Int) then (1 : Int) else 0) + if ((nx + j : Nat) : Int) = (v : Int) then (1 : Int) else 0) = _
    by_cases q0 : j = 0
    · have hz := hz.1 q0
      repeat' split
      all_goals omega
    · have hz := hz.2 q0
      repeat' split
      all_goals omega
theorem deg_pth {E : List (Int × Int)} {N j v : Nat} (hE : yc4 N E) (hv : N ≤ v) {i : Nat} (hi : i < E.length) : degL (pthF E N j i) v = if v < N + i * j ∨ N + i * j + j ≤ v then 0 else 2 := by
  have hg := gx_ok hE hi
  unfold pthF
  rw [yhv, deg_way (N := N) (by omega) (by omega) hv j]
  have hz := atF_val (gx E i).1 (N + i * j) j
  generalize atF (gx E i).1 (N + i * j) j = z at *
  show _ + ((if z = (v : Int) then (1 : Int) else 0) + if (gx E i).2 = (v : Int) then (1 : Int) else 0) = _
  generalize N + i * j = nx at *
  by_cases q0 : j = 0
  · have hz := hz.1 q0
    repeat' split
    all_goals omega
  · have hz := hz.2 q0
    repeat' split
    all_goals omega
theorem deg_sub {E : List (Int × Int)} {N j v : Nat} (hE : yc4 N E) (hv : N ≤ v) : ∀ i, i ≤ E.length → degL (subF E N j i) v = if v < N + i * j then 2 else 0
  | 0, _ => by rw [if_neg (by omega)]; simp [subF, degL]
  | i + 1, hi => by
    rw [ye5, degL_append, deg_sub hE hv i (by omega), deg_pth hE hv (by omega), Nat.add_mul, Nat.one_mul]
    by_cases q : v < N + i * j
    · rw [if_pos q, if_pos (.inl q), if_pos (by omega)]; rfl
    · rw [if_neg q]
      by_cases q2 : v < N + (i * j + j)
      · rw [if_neg (by omega), if_pos q2]; rfl
      · rw [if_pos (by omega), if_neg q2]; rfl
end Go.Proofs.Ytinoedockljfeaa

/- The law on how ends move. -/
namespace Go.Proofs.Ytinoedockljfeaa
open Go Go.RowKit Go.Shelf Go.Proofs.Try
set_option linter.unusedVariables false
set_option linter.unusedSimpArgs false
section
variable {n : Int} {es : List E3} {e : Int}
end
end Go.Proofs.Ytinoedockljfeaa

/- The law on counts: single edges, vertices, genera. -/
namespace Go.Proofs.Ytinoedockljfeaa
open Go Go.RowKit Go.Shelf Go.Proofs.Try
set_option linter.unusedVariables false
set_option linter.unusedSimpArgs false
theorem yhr {k : Nat} {es : List E3} {E : List (Int × Int)} (G : GrOk k es E) (hl : es.length ≤ 100) {R : Int → Prop} (h : R ((E.length : Int) - k + (((List.range k).filter fun v => decide (root (ygX es) v = v)).length : Nat))) : yg0 k es R := by
  have h1 := G.few
  have h2 := G.len
  have h3 : ((List.range k).filter fun v => decide (root (ygX es) v = v)).length ≤ k := Nat.le_trans (List.length_filter_le _ _) (by simp)
  refine yhn G hl ⟨⟨by omega, by omega⟩, p_r08_PartsN (by omega) G.g ?_⟩
  rw [yhm]
  exact ⟨⟨by omega, by omega⟩, h⟩
theorem p_deg8 {d : Nat} {l : List (Int × Int)} (h1 : 1 ≤ d) (hd : d ≤ 12) (hl : yc4 d l) (hm : ¬ Many l) (hn : l.length ≤ 1000) {v : Nat} (hv : v < d) {R : Int → Prop} (h : R (degL l v)) : yg7 d (made d l) v R := by
  have hs := deg_sum hv l hl
  have hm2 := not_many hm
  rw [← deg_made h1 hd hm2 hv] at hs
  have c1 := yfG l v v
  have c2 := hm2 v v
  have hg := made_ok h1 hd hm2
  have c3 := deg_bound hg d v
  have c4 : deg d (made d l) v = sm d (fun u => W (made d l) v u) := rfl
  have hml := yht hl
  rw [← hs] at h
  refine p_r08_Valence (by omega) hg (p_r08_Between' (by omega) ?_)
  rw [loop_made hv]
  exact ⟨⟨by omega, by omega⟩, ⟨by omega, by omega⟩, h⟩
def nrm (x : Int × Int) : Int × Int := sndF (fun v => v) x
theorem nrm_le (x : Int × Int) : (nrm x).1 ≤ (nrm x).2 := by
  unfold nrm sndF mnF mxF; simp only; split <;> omega
theorem isE_nrm (a b : Int) (x : Int × Int) : isE a b (nrm x) = isE a b x := by
  have h := nrm_le x
  unfold isE
  rw [(ygQ h).1, (ygQ h).2]; rfl
theorem cnt_nrm (l : List (Int × Int)) : cntE (l.map nrm) = cntE l := by
  funext a b
  unfold cntE
  rw [List.countP_map]
  congr 1
  exact List.countP_congr fun x _ => by rw [Function.comp_apply, isE_nrm]
theorem made_nrm (d : Nat) (l : List (Int × Int)) : made d (l.map nrm) = made d l := by
  unfold made tabE
  have e : rowT d (l.map nrm) = rowT d l := by unfold rowT; rw [cnt_nrm]
  rw [e]
theorem nrm_ok {d : Nat} {l : List (Int × Int)} (h : yc4 d l) : yc4 d (l.map nrm) := sndF_ok h fun v hv => hv
theorem perm_nrm {d : Nat} {l : List (Int × Int)} (h : yc4 d l) : (yaI (made d l)).Perm (l.map nrm) := by
  rw [← made_nrm]
  refine yhA (nrm_ok h) fun x hx => ?_
  obtain ⟨y, _, rfl⟩ := List.mem_map.1 hx
  exact nrm_le y
theorem Rts.of_nrm {r : Nat → Nat} {l : List (Int × Int)} (h : Rts r (l.map nrm)) : Rts r l :=
  ⟨fun e he => snd_one.1 (h.one (nrm e) (List.mem_map.2 ⟨e, he, rfl⟩)), fun g hg => h.least g fun e he => by
    obtain ⟨x, hx, rfl⟩ := List.mem_map.1 he
    exact (snd_one (f := fun v => v)).2 (hg x hx), h.le⟩
section
variable {n : Int} {es : List E3} {e a : Int}
theorem p_counts (ha : 0 ≤ a ∧ a ≤ 255) : ygZ n es e a fun r => r = true := by
  refine p_l12_right (fun k m H => ⟨fun _ => ?_, fun q => absurd rfl q⟩) ⟨fun q => (by cases q), fun _ => yeX rfl⟩
  have hs := H.sgl
  have hfw := H.few
  obtain ⟨rfl, rfl, G, hl, hk, hE, hm⟩ := H
  obtain ⟨hd1, hd2, hok⟩ := conD_in G.ok G.le hm (by omega)
  have hof := oth_few G m
  have h1 := G.one
  have GA := made_gr h1 G.few hof
  have GB := made_gr hd1 hd2 hfw
  have hcle : ∀ x ∈ conL (yaI es) m, x.1 ≤ x.2 := fun x hx => by
    unfold conL at hx
    obtain ⟨y, _, rfl⟩ := List.mem_map.1 hx
    unfold sndF mnF mxF; simp only; split <;> omega
  have hpA := (yhA (G.ok.oth m) (fun x hx => G.le x ((ygR _ _).subset hx)))
  have hpB := yhA hok hcle
  have hAl := yht (G.ok.oth m)
  have hBl := yht hok
  have hA2 := hpA.length_eq
  have hB2 := hpB.length_eq
  rw [ygg hm] at hAl hA2
  rw [conL_len hm] at hBl hB2
  have hpc := parts_con G.ok G.le hm (by omega) (rts_gr G) ((rts_gr GB).perm hpB)
  refine p_c_Delete hl (fun z => absurd hs z) fun _ => ?_
  refine yen hl (fun z => absurd hs z) (fun _ z => absurd z hfw) fun _ _ => ?_
  rw [Int.toNat_natCast, Int.toNat_natCast]
  obtain ⟨j, hj, hj2⟩ : ∃ j : Nat, 1 + a.tmod 3 = ((j + 1 : Nat) : Int) ∧ j ≤ 2 := by
    rw [Int.tmod_eq_emod_of_nonneg ha.1]
    exact ⟨(a % 3).toNat, by omega, by omega⟩
  refine ⟨True, fun _ => ?_, ⟨fun _ => ⟨fun _ => yhc (by omega) ⟨fun _ => yhc (by omega) ⟨fun _ => trivial, fun z => absurd GB.g z⟩, fun z => absurd GA.g z⟩, fun z => absurd rfl z⟩, fun z => absurd rfl z⟩⟩
  refine p_ends8 G (by omega) ⟨⟨by omega, by omega⟩, yhn G (by omega) (yhr G (by omega) ?_)⟩
  have hpk : ((List.range k).filter fun v => decide (root (ygX es) v = v)).length ≤ k := Nat.le_trans (List.length_filter_le _ _) (by simp)
  generalize hP : ((List.range k).filter fun v => decide (root (ygX es) v = v)).length = P at *
  refine ⟨True, fun _ => ?_, ye7 (by omega) ⟨fun _ => ye7 (by omega) ⟨fun _ => yhn GA (by omega) ⟨⟨by omega, by omega⟩, ⟨fun _ => yhn GB (by omega) ⟨fun _ => ⟨fun _ => trivial, fun z => absurd rfl z⟩, fun z => absurd (by omega) z⟩, fun z => absurd (by omega) z⟩⟩, fun z => absurd GB.g z⟩, fun z => absurd GA.g z⟩⟩
  refine ⟨True, fun _ => ?_, ⟨by decide, by decide⟩, ⟨by decide, by decide⟩, ⟨fun z => ?_, fun z => ?_⟩⟩
  · rw [hj]
    refine ⟨by decide, ⟨by omega, by omega⟩, ⟨by omega, by omega⟩, ?_⟩
    refine yfw hl (fun z => ?_) fun z => ?_
    · have e1 : finF (k : Int) es ((j + 1 : Nat) : Int) = 5 := by
        unfold finF at z ⊢
        rw [if_neg (fun z => z G.g), if_neg (by omega)] at z ⊢
        split
        · rfl
        · rename_i q; rw [if_neg q] at z; exact absurd rfl z
      rw [e1]
      exact ⟨fun z => absurd z (by decide), fun _ => ⟨fun _ => yeX rfl, fun z => absurd rfl z⟩⟩
    · obtain ⟨N, j', hN, hj', _, _, h12⟩ := yfF hl z
      have hN : k = N := by omega
      have hj' : j = j' := by omega
      subst hN; subst hj'
      have hmn : ¬ Many (subF (yaI es) k j (yaI es).length) := subF_few G h12
      have hso := subF_ok (j := j) G.ok
      rw [Nat.mul_comm] at h12
      rw [Int.toNat_natCast, show (((j + 1 : Nat) : Int)).toNat - 1 = j by omega]
      have hd0 : 1 ≤ k + (yaI es).length * j := by omega
      have GC := made_gr hd0 h12 hmn
      have hsl := yfC (yaI es) k j (yaI es).length
      have hll : (yaI es).length * (j + 1) = (yaI es).length * j + (yaI es).length := by rw [Nat.mul_add, Nat.mul_one]
      have hml := yht hso
      have hpn := perm_nrm hso
      have hpl := hpn.length_eq
      rw [List.length_map, hsl] at hpl
      have hps := parts_sub G.ok h12 (rts_gr G) ((rts_gr GC).perm hpn).of_nrm
      rw [hP] at hps
      have hgen : ((j + 1 : Nat) : Int) * ((yaI es).length : Int) = (((yaI es).length * (j + 1) : Nat) : Int) := by rw [Nat.mul_comm]; exact (Int.natCast_mul _ _).symm
      refine ⟨fun _ => ⟨True, fun _ => ?_, ye7 (by omega) ⟨fun _ => ⟨fun z => absurd z (by omega), fun _ => yhn GC (by omega) ⟨?_, ⟨fun _ => yhr GC (by omega) ⟨fun _ => trivial, fun z => absurd ?_ z⟩, fun z => absurd ?_ z⟩⟩⟩, fun z => absurd GC.g z⟩⟩, fun z => absurd rfl z⟩
      · refine ⟨fun m v => ∃ u : Nat, v = u ∧ k ≤ u ∧ u + m = k + (yaI es).length * j, ⟨(yaI es).length * j, k, rfl, Nat.le_refl _, rfl⟩, ?_⟩
        rintro m2 _ ⟨u, rfl, hu, hum⟩
        refine ⟨fun hlt => p_deg8 hd0 h12 hso hmn (by omega) (by omega) ?_, fun _ => yeX rfl⟩
        rw [deg_sub G.ok hu _ (Nat.le_refl _), if_pos (by omega)]
        exact ⟨fun _ => ⟨⟨by omega, by omega⟩, m2 - 1, by omega, u + 1, by omega, by omega, by omega⟩, fun z => absurd rfl z⟩
      · rw [hgen]; exact ⟨by omega, by omega⟩
      · rw [← hps, hpl]; omega
      · rw [hgen, hpl]
  · have ec : conD k (gx (yaI es) m) = k := by unfold conD; rw [if_pos z]
    refine ⟨fun _ => yhr GB (by omega) ⟨⟨by omega, by omega⟩, ⟨fun _ => trivial, fun z => absurd ?_ z⟩⟩, fun z => absurd (by omega) z⟩
    rw [← hpc]; omega
  · have ec : conD k (gx (yaI es) m) = k - 1 := by unfold conD; rw [if_neg z]
    refine ⟨⟨by omega, by omega⟩, ⟨fun _ => yhr GB (by omega) ⟨fun _ => trivial, fun z => absurd ?_ z⟩, fun z => absurd (by omega) z⟩⟩
    rw [← hpc]; omega
end
end Go.Proofs.Ytinoedockljfeaa
