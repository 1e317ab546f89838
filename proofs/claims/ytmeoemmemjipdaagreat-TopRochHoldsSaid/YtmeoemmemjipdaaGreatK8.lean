/- Texts laid together: RkV, Big, Lw36, Lw36b, Lr38b, Rr, Roch. -/
import Derived.Test.YtmeoemmemjipdaaGreatK7
/- What rank.VerifyLess, rank.Verify and rank.Certificate come to, and their references. -/
namespace Go.Proofs.YtmeoemmemjipdaaGreat
open Go Go.Proofs.Tryz
set_option linter.unusedVariables false
set_option linter.unusedSimpArgs false
theorem yjU {n : Nat} {es : List E3} {d s : List Int} {R : List Int → Prop} (hl : es.length ≤ 1000) (hg : yat n es = 0) (hdl : d.length = n) (hd : ∀ j, j < n → -1000000000000000 ≤ gi d j ∧ gi d j ≤ 1000000000000000) (hsl : s.length = n) (hs : ∀ j, j < n → -2000000000 ≤ gi s j ∧ gi s j ≤ 2000000000) (h : R (appF n es d s)) : yi8 (n : Int) es d s R := by
  obtain ⟨hE, hn1, hn12⟩ := yba hg
  unfold yi8
  refine yfo (by omega) ?_
  refine ⟨fun m v out => Cnt es.length (fun k => out = appF n (es.take k) d s) m v, Cnt.start (app_start hdl), ?_⟩
  rintro m _ out ⟨k, rfl, rfl, hk, rfl⟩
  simp only [Int.toNat_natCast]
  refine ⟨fun hlt => ⟨by omega, ?_⟩, fun hge => ?_⟩
  · have hlt : k < es.length := by omega
    have hx := hE _ (yjI hlt)
    have hf := flow_bound (x := ge es k) (s := gi s) (by omega) (hs _ (by omega)) (hs _ (by omega))
    have ha := hs (ge es k).1.toNat (by omega)
    have hb := hs (ge es k).2.1.toNat (by omega)
    have hal : (appF n (es.take k) d s).length = n := yja
    have h1 : ∀ j, j < n → gi (appF n (es.take k) d s) j = gi d j - Lp n (es.take k) (gi s) j := fun j hj => yde _ hj
    have hbd : ∀ j, j < n → -2000000000000000 ≤ gi (appF n (es.take k) d s) j ∧ gi (appF n (es.take k) d s) j ≤ 2000000000000000 := fun j hj => by
      have := yjL hE hs hj k (by omega)
      have := hd j hj
      rw [h1 j hj]; omega
    have b1 := hbd (ge es k).1.toNat (by omega)
    have b2 := hbd (ge es k).2.1.toNat (by omega)
    refine ⟨by omega, by omega, i64 (by omega), i64 (by omega), by omega, i64 (by omega), by rw [List.length_set]; omega, ?_, Cnt.next hlt (by omega) (edge_step hE hlt)⟩
    rw [ybi (by omega)]
    split
    · exact i64 (by omega)
    · exact i64 (by omega)
  · have hk2 : k = es.length := by omega
    rw [hk2, List.take_length]; exact h
theorem givL_two {n : Int} {es : List E3} {d e : List Int} : givL n es [d, e] = if yaH n es 0 d = 0 then yaM e n else yaH n es 0 d := by
  rw [given0]
  unfold givL errL errL errL
  by_cases h1 : yca n es = 0
  · rw [if_pos h1, if_pos h1]
    by_cases h2 : yaM d n = 0
    · rw [if_pos h2, if_pos h2]
      by_cases h3 : yaM e n = 0
      · rw [if_pos h3, h3]
      · rw [if_neg h3]
    · rw [if_neg h2, if_neg h2]
  · rw [if_neg h1, if_neg h1, if_neg h1]
theorem givL_two0 {n : Int} {es : List E3} {d e : List Int} (h : givL n es [d, e] = 0) : yaH n es 0 d = 0 ∧ yaM e n = 0 := by
  rw [givL_two] at h
  by_cases h1 : yaH n es 0 d = 0
  · rw [if_pos h1] at h; exact ⟨h1, h⟩
  · rw [if_neg h1] at h; exact absurd h h1
def lessE (n : Int) (es : List E3) (d e s : List Int) (b : Bool) : Int :=
  if givL n es [d, e] = 0 then (if paidF e = true then (if yaM s n = 0 then (if b = true then 0 else 16) else yaM s n) else 15) else givL n es [d, e]
def LessIs (n : Nat) (es : List E3) (d e s : List Int) : Prop := Red n es 0 (appF n es (sb n d e) s) ∧ gi (appF n es (sb n d e) s) 0 < 0
section
variable {n : Int} {es : List E3} {d e s : List Int} {b : Bool} {R : Int → Prop}
theorem yjQ (hl : es.length ≤ 1000) (hb : b = true ↔ LessIs n.toNat es d e s) (h : R (lessE n es d e s b)) : yiY n es d e s R := by
  unfold yiY
  unfold lessE at h
  refine yfz hl (by simp) ⟨fun h0 => ?_, fun h0 => by rwa [if_neg h0] at h⟩
  rw [if_pos h0] at h
  obtain ⟨hg, hec⟩ := givL_two0 h0
  obtain ⟨n, rfl⟩ : ∃ n' : Nat, n = (n' : Int) := ⟨n.toNat, by have := yb0 hg; omega⟩
  obtain ⟨hE, hn1, hn12, hg1, hc, -, hdl, hck⟩ := ydV (q := 0) hg
  obtain ⟨-, -, -, hdb⟩ := ygQ hck
  obtain ⟨hel, -, -, heb⟩ := ygQ hec
  simp only [Int.toNat_natCast] at hb
  refine yju (by omega) (by omega) fun m ⟨k, hk, hm⟩ hall => ⟨fun hneg => ?_, fun hpos => ?_⟩
  · rwa [if_neg (fun q => by have := yjm.1 q k hk; omega)] at h
  rw [if_pos (yjm.2 fun v hv => by have := hall v hv; omega)] at h
  refine ygE ⟨fun h2 => ?_, fun h2 => by rwa [if_neg h2] at h⟩
  rw [if_pos h2] at h
  obtain ⟨hsl, -, -, hsb⟩ := ygQ h2
  refine ⟨by omega, fun m v out => Cnt n (fun k => out = upto (fun i => gi d i - gi e i) k n) m v, Cnt.start (yiM _ _).symm, ?_⟩
  rintro m _ out ⟨k, rfl, rfl, hk, rfl⟩
  simp only [Int.toNat_natCast, List.length_replicate]
  refine ⟨fun hlt => ⟨by omega, by omega, i64 (by have := hdb k (by omega); have := heb k (by omega); omega), by rw [ybR]; omega, Cnt.next (by omega) (by omega) (yjF (fun i => gi d i - gi e i) (by omega))⟩, fun hge => ?_⟩
  have e9 : k = n := by omega
  subst e9
  rw [yjD]
  have hsb2 : tab (fun i => gi d i - gi e i) k = sb k d e := rfl
  rw [hsb2]
  refine yjU hl hg1 (ycd _ _ _) (fun j hj => by rw [yff hj]; have := hdb j hj; have := heb j hj; omega) hsl (fun j hj => by have := hsb j hj; omega) ?_
  unfold LessIs at hb
  have hxl : (appF k es (sb k d e) s).length = k := yja
  generalize appF k es (sb k d e) s = x at hb hxl ⊢
  have e0 : (0 : Int).toNat = 0 := rfl
  rw [e0]
  have yes : (Red k es 0 x ∧ gi x 0 < 0) → R 0 := fun q => by rwa [if_pos (hb.2 q)] at h
  have nay : ¬ (Red k es 0 x ∧ gi x 0 < 0) → R 16 := fun q => by rwa [if_neg (fun q2 => q (hb.1 q2))] at h
  refine ⟨by omega, hl, by rw [List.length_set]; omega, fun r c1 c2 => ⟨fun hz => ⟨fun hr => ⟨fun hneg => ?_, fun hneg => nay fun hy => hneg hy.2⟩, fun hr => nay fun hy => ?_⟩, fun hz => nay fun hy => ?_⟩⟩
  · simp only [Int.toNat_natCast] at c2
    exact yes ⟨(red_set hxl (by omega) 0).1 ((c2 hz).1 hr), hneg⟩
  · simp only [Int.toNat_natCast] at c2
    exact hr ((c2 hz).2 ((red_set hxl (by omega) 0).2 hy.1))
  · refine hz ?_
    have hc2 : yaM (x.set 0 0) k = 0 := yfP (by rw [List.length_set, hxl]) hn1 hn12 fun j hj => by
      rw [ybi (by omega)]
      split
      · omega
      · rename_i e
        have a1 := hy.1.pos j hj e
        have a2 := red_lt hE hy.1 hj e
        have a3 := deg_le hg1 hn12 (n := k) j
        omega
    unfold yaH
    rw [if_pos hg1, if_pos hc, if_pos ⟨by omega, by omega⟩, hc2]
end
def cntF (r : Int) : Nat → Int
  | 0 => 1
  | j + 1 => (cntF r j * (r + ((j : Int) + 1))).tdiv ((j : Int) + 1)
def lenF : Nat → Nat → Nat
  | 0, _ => 1
  | n + 1, k => ((List.range (k + 1)).map fun i => lenF n (k - i)).sum
theorem lenF_eq : ∀ n k, (ybG (n + 1) k).length = lenF n k
  | 0, k => by simp [ybG, lenF]
  | n + 1, k => by
    show ((List.range (k + 1)).flatMap fun i => (ybG (n + 1) (k - i)).map ((i : Int) :: ·)).length = _
    rw [List.length_flatMap]
    unfold lenF
    congr 1
    refine List.map_congr_left fun i _ => ?_
    rw [List.length_map, lenF_eq n]
theorem cnt_len0 : ∀ N : Nat, N < 6 → ∀ k : Nat, k < 13 → cntF (k : Int) N = (lenF N k : Int) := by decide +kernel
theorem cnt_bd0 : ∀ N : Nat, N < 6 → ∀ k : Nat, k < 13 → 0 ≤ cntF (k : Int) N ∧ cntF (k : Int) N ≤ 10000 ∧ 0 ≤ cntF (k : Int) N * ((k : Int) + ((N : Int) + 1)) ∧ cntF (k : Int) N * ((k : Int) + ((N : Int) + 1)) ≤ 1000000 := by decide +kernel
theorem cnt_loop {n : Nat} {a : Int} {P : Int → Prop} (hn : 1 ≤ n ∧ n ≤ 6) (ha : 0 ≤ a ∧ a ≤ 12) (h : P (cntF a (n - 1))) :
    ∃ I2 : Nat → Int → Int → Prop, (∃ m0, I2 m0 1 1) ∧ ∀ (m2 : Nat) (v : Int) (v2 : Int), I2 m2 v v2 → ((v2 < (n : Int) → (In64 (a + v2) ∧ (In64 (v * (a + v2)) ∧ (v2 ≠ 0 ∧ In64 ((v * (a + v2)).tdiv v2) ∧ (In64 (v2 + 1) ∧ ∃ m3, m3 < m2 ∧ I2 m3 ((v * (a + v2)).tdiv v2) (v2 + 1)))))) ∧ (¬ (v2 < (n : Int)) → P v)) := by
  obtain ⟨k, rfl⟩ : ∃ k : Nat, a = (k : Int) := ⟨a.toNat, by omega⟩
  refine ⟨fun m v v2 => ∃ j : Nat, v2 = (j : Int) + 1 ∧ v = cntF k j ∧ m = n - j ∧ j + 1 ≤ n, ⟨n, 0, rfl, rfl, rfl, by omega⟩, ?_⟩
  rintro m _ _ ⟨j, rfl, rfl, rfl, hj⟩
  refine ⟨fun hlt => ?_, fun hge => ?_⟩
  · have h1 := cnt_bd0 j (by omega) k (by omega)
    have h2 := cnt_bd0 (j + 1) (by omega) k (by omega)
    have e : cntF (k : Int) (j + 1) = (cntF k j * (k + ((j : Int) + 1))).tdiv ((j : Int) + 1) := rfl
    rw [e] at h2
    exact ⟨i64 (by omega), i64 (by omega), by omega, i64 (by omega), i64 (by omega), n - (j + 1), by omega, j + 1, by omega, e.symm, rfl, by omega⟩
  · have e : j = n - 1 := by omega
    rw [e]; exact h
def firE (f : Nat → Int) : Nat → Int
  | 0 => 0
  | m + 1 => if firE f m = 0 then f m else firE f m
theorem yjE {f : Nat → Int} : ∀ {m : Nat}, (∀ j, j < m → f j = 0) → firE f m = 0
  | 0, _ => rfl
  | m + 1, h => by unfold firE; rw [if_pos (yjE fun j hj => h j (by omega))]; exact h m (by omega)
theorem firE_at {f : Nat → Int} {k : Nat} (h0 : ∀ j, j < k → f j = 0) (hk : f k ≠ 0) : ∀ {m : Nat}, k < m → firE f m = f k
  | 0, h => by omega
  | m + 1, h => by
    unfold firE
    by_cases e : k = m
    · subst e; rw [if_pos (yjE h0)]
    · rw [firE_at h0 hk (m := m) (by omega), if_neg hk]
def errV (n : Nat) (es : List E3) (d e s : List Int) : Int := if yaM s n = 0 then (if paidF (appF n es (sb n d e) s) = true then 0 else 16) else yaM s n
def verE (n : Int) (es : List E3) (d : List Int) (r : Int) (l : List (List Int)) : Int :=
  if yaH n es 0 d = 0 then (if 0 ≤ r ∧ r ≤ 12 then (if (l.length : Int) = cntF r (n.toNat - 1) then firE (fun j => errV n.toNat es d (gx (ybG n.toNat r.toNat) j) (gx l j)) l.length else 8) else 2) else yaH n es 0 d
section
variable {n : Int} {es : List E3} {d : List Int} {r : Int} {l : List (List Int)} {R : Int → Prop}
theorem p_rank_Verify (hl : es.length ≤ 1000) (hll : l.length ≤ 100000) (hn6 : yat n es = 0 → n ≤ 6) (h : R (verE n es d r l)) : yi6 n es d r l R := by
  unfold yi6
  unfold verE at h
  refine yfz hl (by simp) ?_
  rw [yjX]
  refine ⟨fun h0 => ?_, fun h0 => by rwa [if_neg h0] at h⟩
  rw [if_pos h0] at h
  refine ⟨0 ≤ r ∧ r ≤ 12, fun hr => ?_, fun q => by rwa [if_neg (by omega)] at h, fun q => ⟨fun q2 => by rwa [if_neg (by omega)] at h, fun q2 => by omega⟩⟩
  rw [if_pos hr] at h
  obtain ⟨n, rfl⟩ : ∃ n' : Nat, n = (n' : Int) := ⟨n.toNat, by have := yb0 h0; omega⟩
  obtain ⟨hE, hn1, hn12, hg1, hc, -, hdl, hck⟩ := ydV (q := 0) h0
  have hn6 := hn6 hg1
  obtain ⟨-, -, -, hdb⟩ := ygQ hck
  obtain ⟨k, rfl⟩ : ∃ k : Nat, r = (k : Int) := ⟨r.toNat, by omega⟩
  simp only [Int.toNat_natCast] at h
  refine cnt_loop (n := n) (a := (k : Int)) (by omega) hr ⟨fun hc => ?_, fun hc => by rwa [if_neg hc] at h⟩
  rw [if_pos hc] at h
  obtain ⟨N, rfl⟩ : ∃ N, n = N + 1 := ⟨n - 1, by omega⟩
  have hlen : (ybG (N + 1) k).length = l.length := by
    have := cnt_len0 N (by omega) k (by omega)
    rw [Nat.add_sub_cancel] at hc
    rw [lenF_eq]
    omega
  have hmem : ∀ e ∈ ybG (N + 1) k, Eff (N + 1) e (k : Int) := fun e he => ye3 he
  refine ⟨_, _, yga (by omega) (by omega) hdl (fun v hv => by have := hdb v hv; omega), fun pre v => v = (pre.length : Int) ∧ ∃ A B, ybG (N + 1) k = A ++ B ∧ pre = A.map (takY (N + 1) d) ∧ ∀ i, i < A.length → errV (N + 1) es d (gx (ybG (N + 1) k) i) (gx l i) = 0, ⟨rfl, [], _, rfl, rfl, fun i hi => by simp at hi⟩, ?_, ?_⟩
  · rintro pre y y2 v ⟨rfl, A, B, hAB, rfl, hA⟩ hPr
    have hPr : A.map (takY (N + 1) d) ++ [(y, y2)] <+: (ybG (N + 1) k).map (takY (N + 1) d) := hPr
    rw [hAB, List.map_append, List.prefix_append_right_inj] at hPr
    obtain ⟨b, B', rfl, hb⟩ : ∃ b B', B = b :: B' ∧ takY (N + 1) d b = (y, y2) := by
      cases B with
      | nil => simp at hPr
      | cons b B' =>
        refine ⟨b, B', rfl, ?_⟩
        obtain ⟨t, ht⟩ := hPr
        injection ht with e _
        exact e.symm
    injection hb with e1 e2
    subst e1
    subst e2
    have hAl : A.length < l.length := by rw [← hlen, hAB, List.length_append, List.length_cons]; omega
    have hgb : gx (ybG (N + 1) k) A.length = b := by unfold gx; rw [hAB]; simp
    have heff : Eff (N + 1) b (k : Int) := hmem b (by rw [hAB]; simp)
    have heb : ∀ v, v < N + 1 → 0 ≤ gi b v ∧ gi b v ≤ 12 := fun v hv => by have := heff.pos v hv; have := heff.le hv; omega
    have hbad : ∀ x, errV (N + 1) es d b (gx l A.length) = x → x ≠ 0 → R x := fun x hx hne => by
      have := firE_at (f := fun j => errV (N + 1) es d (gx (ybG (N + 1) k) j) (gx l j)) hA (by show errV (N + 1) es d (gx (ybG (N + 1) k) A.length) (gx l A.length) ≠ 0; rw [hgb, hx]; exact hne) hAl
      rw [this] at h
      have h : R (errV (N + 1) es d (gx (ybG (N + 1) k) A.length) (gx l A.length)) := h
      rwa [hgb, hx] at h
    simp only [List.length_map, Int.toNat_natCast]
    refine ⟨by omega, ygE ⟨fun h2 => ?_, fun h2 => hbad _ (by unfold errV; rw [if_neg h2]) h2⟩⟩
    obtain ⟨hsl, -, -, hsb⟩ := ygQ h2
    refine yjU hl hg1 (ycd _ _ _) (fun j' hj' => by rw [yff hj']; have := hdb j' hj'; have := heb j' hj'; omega) hsl (fun j hj => by have := hsb j hj; omega) ?_
    refine yju (by rw [yja]; omega) (by rw [yja]; omega) fun m ⟨i, hi, hm⟩ hall => ⟨fun hneg => hbad 16 ?_ (by omega), fun hpos => ⟨i64 (by omega), ?_⟩⟩
    · unfold errV; rw [if_pos h2, if_neg (fun q => by have := yjm.1 q i hi; omega)]
    · refine ⟨by rw [List.length_append, List.length_map, List.length_singleton]; rfl, A ++ [b], B', by rw [hAB]; simp, by rw [List.map_append]; rfl, fun j hj => ?_⟩
      rw [List.length_append, List.length_singleton] at hj
      by_cases e : j = A.length
      · rw [e, hgb]; unfold errV; rw [if_pos h2, if_pos (yjm.2 fun v hv => by have := hall v hv; omega)]
      · exact hA j (by omega)
  · rintro ys v ⟨rfl, A, B, hAB, rfl, hA⟩ hR
    have hR : A.map (takY (N + 1) d) = (ybG (N + 1) k).map (takY (N + 1) d) := hR
    have hAl : A.length = l.length := by
      have := congrArg List.length hR
      rwa [List.length_map, List.length_map, hlen] at this
    rw [yjE (by rw [← hAl]; exact hA)] at h
    exact h
end
def yeM (n : Nat) (es : List E3) (d : List Int) : List (List Int) → List (List Int) → Prop
  | [], [] => True
  | e :: A, s :: out => (∃ x, Reduces n es 0 (sb n d e) x s) ∧ yeM n es d A out
  | _, _ => False
section
variable {n : Nat} {es : List E3} {d : List Int}
theorem yeM.snoc : ∀ {A out : List (List Int)} {e s x : List Int}, yeM n es d A out → Reduces n es 0 (sb n d e) x s → yeM n es d (A ++ [e]) (out ++ [s])
  | [], [], e, s, x, _, h => ⟨⟨x, h⟩, trivial⟩
  | [], _ :: _, _, _, _, q, _ => absurd q id
  | _ :: _, [], _, _, _, q, _ => absurd q id
  | a :: A, o :: out, e, s, x, ⟨h1, h2⟩, h => ⟨h1, yeM.snoc h2 h⟩
theorem yeM.len : ∀ {A out : List (List Int)}, yeM n es d A out → out.length = A.length
  | [], [], _ => rfl
  | [], _ :: _, q => absurd q id
  | _ :: _, [], q => absurd q id
  | a :: A, o :: out, ⟨_, h2⟩ => by rw [List.length_cons, List.length_cons, yeM.len h2]
theorem yeM.eq (hE : EOk n es) (hn : 1 ≤ n) : ∀ {A o o' : List (List Int)}, yeM n es d A o → yeM n es d A o' → o = o'
  | [], [], [], _, _ => rfl
  | [], [], _ :: _, _, q => absurd q id
  | [], _ :: _, _, q, _ => absurd q id
  | _ :: _, [], _, q, _ => absurd q id
  | _ :: _, _ :: _, [], _, q => absurd q id
  | a :: A, s :: o, s' :: o', ⟨⟨x, hx⟩, h2⟩, ⟨⟨y, hy⟩, h2'⟩ => by
    rw [yeM.eq hE hn h2 h2', (yhf hE (by omega) hx hy.dl hy.sl hy.lp hy.sq hy.red).2]
theorem yeM.at_ : ∀ {A out : List (List Int)}, yeM n es d A out → ∀ i, i < A.length → ∃ x, Reduces n es 0 (sb n d (gx A i)) x (gx out i)
  | [], [], _, i, hi => by simp at hi
  | [], _ :: _, q, _, _ => absurd q id
  | _ :: _, [], q, _, _ => absurd q id
  | a :: A, o :: out, ⟨h1, _⟩, 0, _ => by rw [yh4, yh4]; exact h1
  | a :: A, o :: out, ⟨_, h2⟩, i + 1, hi => by rw [yii, yii]; exact yeM.at_ h2 i (by simpa using hi)
end
theorem ygO {n r : Int} {es : List E3} {d : List Int} {R : List (List Int) → Int → Prop} (hl : es.length ≤ 1000) (h0 : yaH n es 0 d ≠ 0 → R [] (yaH n es 0 d)) (h1 : yaH n es 0 d = 0 → r < 0 → R [] 2)
    (h2 : yaH n es 0 d = 0 → 0 ≤ r → DOk n.toNat es d ∧ ∀ k, RkOk n.toNat es d k → (k < r → R [] 15) ∧ (r ≤ k → ∀ out, yeM n.toNat es d (ybG n.toNat r.toNat) out → R out 0)) : ybD n es d r R := by
  unfold ybD
  refine yfz hl (by simp) ?_
  rw [yjX]
  refine ⟨fun hg => ⟨fun hr => h1 hg hr, fun hr => ?_⟩, fun hg => h0 hg⟩
  obtain ⟨hD, hk⟩ := h2 hg (by omega)
  refine p_rank_AtLeast hl (fun q => absurd hg q) (fun _ q => by omega) fun _ _ => ⟨hD, fun k hk' => ⟨fun _ => ⟨fun ht => ?_, fun hf => ?_⟩, fun q => absurd rfl q⟩⟩
  · have hrk : r ≤ k := of_decide_eq_true ht
    have hk := (hk k hk').2 hrk
    obtain ⟨n, rfl⟩ : ∃ n' : Nat, n = (n' : Int) := ⟨n.toNat, by have := yb0 hg; omega⟩
    obtain ⟨r, rfl⟩ : ∃ r' : Nat, r = (r' : Int) := ⟨r.toNat, by omega⟩
    simp only [Int.toNat_natCast] at hD hk hk'
    have hd := (ydV (q := 0) hg).2.2.2.2.2.2.1
    have hn1 := hD.G.n1
    have hn5 := hD.G.n5
    obtain ⟨N, rfl⟩ : ∃ N, n = N + 1 := ⟨n - 1, by omega⟩
    have hk6 := hk'.six hn1 hd hD.d5
    have hlen := yhM (n := N) (k := r) (by omega) (by omega)
    refine ⟨_, _, yga (by omega) (by omega) hd (fun v hv => by have := hD.b v hv; omega), fun pre out => ∃ A B, ybG (N + 1) r = A ++ B ∧ pre = A.map (takY (N + 1) d) ∧ yeM (N + 1) es d A out, ⟨[], _, rfl, rfl, trivial⟩, ?_, ?_⟩
    · rintro pre y y2 out ⟨A, B, hAB, rfl, hA⟩ hPr
      have hPr : A.map (takY (N + 1) d) ++ [(y, y2)] <+: (ybG (N + 1) r).map (takY (N + 1) d) := hPr
      rw [hAB, List.map_append, List.prefix_append_right_inj] at hPr
      obtain ⟨b, B', rfl, hb⟩ : ∃ b B', B = b :: B' ∧ takY (N + 1) d b = (y, y2) := by
        cases B with
        | nil => simp at hPr
        | cons b B' =>
          refine ⟨b, B', rfl, ?_⟩
          obtain ⟨t, ht⟩ := hPr
          injection ht with e _
          exact e.symm
      injection hb with e1 e2
      subst e1
      subst e2
      have hAl : A.length + 1 ≤ 2401 := by rw [hAB, List.length_append, List.length_cons] at hlen; omega
      have hol := hA.len
      have heff : Eff (N + 1) b (r : Int) := ye3 (by rw [hAB]; simp)
      have hbb : ∀ v, v < N + 1 → -200 ≤ gi (sb (N + 1) d b) v ∧ gi (sb (N + 1) d b) v ≤ 200 := fun v hv => by
        rw [yff hv]
        have := hD.b v hv
        have := heff.pos v hv
        have := heff.le hv
        omega
      refine ⟨fun q => by omega, fun _ => ?_⟩
      refine ycI (.inl (hD.G.small hbb)) (by rw [ycd]; omega) (fun q => absurd (hD.G.giv (ycd _ _ _) fun v hv => by have := hbb v hv; omega) q) fun _ x s hs bb hbw => ⟨fun _ => ⟨by omega, A ++ [b], B', by rw [hAB]; simp, by rw [List.map_append]; rfl, hA.snoc hs⟩, fun q => absurd rfl q⟩
    · rintro ys out ⟨A, B, hAB, rfl, hA⟩ hR
      have hR : A.map (takY (N + 1) d) = (ybG (N + 1) r).map (takY (N + 1) d) := hR
      have hB : B = [] := by
        have := congrArg List.length hR
        rw [hAB, List.length_map, List.length_map, List.length_append] at this
        exact List.length_eq_zero_iff.1 (by omega)
      subst hB
      rw [List.append_nil] at hAB
      rw [← hAB] at hA
      exact hk out hA
  · have hrk : ¬ r ≤ k := fun q => hf (decide_eq_true q)
    exact (hk k hk').1 (by omega)
end Go.Proofs.YtmeoemmemjipdaaGreat

/- A graph is looked through whatever its length: a right one has few edges. -/
namespace Go.Proofs.YtmeoemmemjipdaaGreat
open Go Go.Proofs.Tryz
set_option linter.unusedVariables false
set_option linter.unusedSimpArgs false
theorem p_r08_edge0 {n : Int} {es : List E3} {k : Nat} {R : Int → Prop} (hk : k < es.length) (hl : k ≤ 1000000000) (h : R (ygl n (pre es k).1 (pre es k).2 (ge es k))) : yd8 n es (k : Int) R := by
  unfold yd8
  simp only [Int.toNat_natCast]
  generalize hx : ge es k = x at h ⊢
  refine ⟨by omega, (0 ≤ x.1 ∧ x.1 < n) ∧ (0 ≤ x.2.1 ∧ x.2.1 < n) ∧ 1 ≤ x.2.2 ∧ x.2.2 ≤ 50, fun hJ => ?_, ?_⟩
  · have hed : ∀ a b, ygl n a b x = if x.1 ≤ x.2.1 ∧ yft a b x.1 x.2.1 < 0 then 0 else 9 := fun a b => by unfold ygl; rw [if_pos hJ]
    rw [hed] at h
    refine ⟨fun q => by rw [if_neg (by omega)] at h; exact h, fun q => ⟨fun h0 => ?_, fun h0 => ?_⟩⟩
    · have e1 : ((k : Int) - 1).toNat = k - 1 := by omega
      rw [e1]
      have hp : pre es k = ((ge es (k - 1)).1, (ge es (k - 1)).2.1) := by unfold pre; rw [if_neg (by omega)]
      rw [hp] at h
      have hc := yiv (ge es (k - 1)).1 (ge es (k - 1)).2.1 x.1 x.2.1
      refine ⟨i64 (by omega), by omega, fun q1 => ?_, fun q1 => ⟨fun q2 => ⟨fun q3 => ?_, fun q3 => ?_⟩, fun q2 => ?_⟩⟩
      · rw [if_neg (fun h => by have := hc.1 h.2; omega)] at h; exact h
      · rw [if_neg (fun h => by have := hc.1 h.2; omega)] at h; exact h
      · rw [if_pos ⟨by omega, hc.2 (by omega)⟩] at h; exact h
      · rw [if_pos ⟨by omega, hc.2 (by omega)⟩] at h; exact h
    · have hp : pre es k = (-1, -1) := by unfold pre; rw [if_pos (by omega)]
      rw [hp, if_pos ⟨by omega, (yiv _ _ _ _).2 (.inl (by omega))⟩] at h
      exact h
  · have hed : ¬ ((0 ≤ x.1 ∧ x.1 < n) ∧ (0 ≤ x.2.1 ∧ x.2.1 < n) ∧ 1 ≤ x.2.2 ∧ x.2.2 ≤ 50) → R 2 := fun q => by unfold ygl at h; rwa [if_neg q] at h
    refine yhr ⟨fun h1 => yhr ⟨fun h2 => ⟨fun h3 => hed (by omega), fun h3 => ⟨fun h4 => hed (by omega), fun h4 => ?_⟩⟩, fun h2 => hed (by simp at h2; omega)⟩, fun h1 => hed (by simp at h1; omega)⟩
    simp only [decide_eq_true_eq] at h1 h2
    exact ⟨h1, h2, by omega, by omega⟩
theorem gchk_few {n : Int} (hn : n ≤ 12) : ∀ {es : List E3} {a b : Int}, a ≤ 11 → b ≤ 11 → gchk n a b es = 0 → (es.length : Int) ≤ 143 - 12 * a - b ∨ es = []
  | [], _, _, _, _, _ => .inr rfl
  | x :: t, a, b, ha, hb, h => by
    unfold gchk at h
    split at h
    · rename_i c
      split at h
      · rename_i c2
        have h2 := (yiv _ _ _ _).1 c2.2
        rcases gchk_few hn (by omega) (by omega) h with q | q
        · left; rw [List.length_cons]; omega
        · subst q; left; simp; omega
      · omega
    · omega
theorem edges_few {n : Int} {es : List E3} (hg : yat n es = 0) : es.length ≤ 156 := by
  unfold yat at hg
  split at hg
  · rcases gchk_few (by omega) (by omega) (by omega) hg with q | q
    · omega
    · rw [q]; simp
  · omega
theorem p_r08_Check0 {n : Int} {es : List E3} {R : Int → Prop} (h : R (yat n es)) : ycR n es R := by
  unfold ycR
  have hout : ¬ (1 ≤ n ∧ n ≤ 12) → R 2 := fun q => by unfold yat at h; rwa [if_neg q] at h
  refine ⟨1 ≤ n ∧ n ≤ 12, fun hn => ?_, fun q => hout (by omega), fun q => ⟨fun q2 => hout (by omega), fun q2 => ⟨by omega, by omega⟩⟩⟩
  have hg : yat n es = gchk n (-1) (-1) es := by unfold yat; rw [if_pos hn]
  rw [hg] at h
  refine ⟨fun m i => ∃ k : Nat, i = (k : Int) ∧ k ≤ es.length ∧ m = es.length - k ∧ gchk n (-1) (-1) es = gchk n (pre es k).1 (pre es k).2 (es.drop k) ∧ (k = 0 ∨ (0 ≤ (pre es k).1 ∧ (pre es k).1 < 12 ∧ 0 ≤ (pre es k).2 ∧ (pre es k).2 < 12 ∧ (k : Int) ≤ 12 * (pre es k).1 + (pre es k).2 + 1)), ⟨_, 0, rfl, by omega, rfl, rfl, .inl rfl⟩, ?_⟩
  rintro m _ ⟨k, rfl, hk, rfl, hinv, hfew⟩
  refine ⟨fun hlt => p_r08_edge0 (by omega) (by omega) ⟨fun h0 => ?_, fun h0 => ?_⟩, fun hge => ?_⟩
  · refine ⟨i64 (by omega), es.length - (k + 1), by omega, k + 1, rfl, by omega, rfl, ?_, .inr ?_⟩
    · rw [ygY (by omega), yfF, if_pos h0] at hinv
      rw [hinv]; simp [pre]
    · have hp : pre es (k + 1) = ((ge es k).1, (ge es k).2.1) := by simp [pre]
      rw [hp]
      unfold ygl at h0
      split at h0
      · rename_i c
        split at h0
        · rename_i c2
          have h2 := (yiv _ _ _ _).1 c2.2
          rcases hfew with q | q
          · subst q; simp only; omega
          · simp only; omega
        · omega
      · omega
  · rw [ygY (by omega), yfF, if_neg h0] at hinv
    rwa [hinv] at h
  · have hk2 : k = es.length := by omega
    rw [hinv, hk2, List.drop_length] at h
    exact h
theorem p_r25_Joined0 {n : Int} {es : List E3} {R : Int → Prop} (h : R (yca n es)) : yc7 n es R := by
  unfold yc7
  unfold yca at h
  refine p_r08_Check0 ⟨fun h0 => ?_, fun h0 => by rwa [if_neg h0] at h⟩
  rw [if_pos h0] at h
  have hn : 1 ≤ n ∧ n ≤ 12 := by
    unfold yat at h0
    split at h0
    · assumption
    · omega
  obtain ⟨n, rfl⟩ : ∃ n' : Nat, n = (n' : Int) := ⟨n.toNat, by omega⟩
  have := edges_few h0
  exact yiI (by omega) h0 ⟨fun h1 => by rwa [if_pos h1] at h, fun h1 => by rwa [if_neg h1] at h⟩
end Go.Proofs.YtmeoemmemjipdaaGreat

/- Laws of layer 36: proofs, prices, costs, moves. -/
namespace Go.Proofs.YtmeoemmemjipdaaGreat
open Go Go.Proofs.Tryz
set_option linter.unusedVariables false
set_option linter.unusedSimpArgs false
theorem yj3.len {n : Nat} {es : List E3} {d out : List Int} (h : yj3 n es d out) : out.length ≤ n := by
  obtain ⟨f, _, rfl⟩ := h
  exact filt_len f n
end Go.Proofs.YtmeoemmemjipdaaGreat

/- Laws of layer 36: what an answer proves, equivalent divisors. -/
namespace Go.Proofs.YtmeoemmemjipdaaGreat
open Go Go.Proofs.Tryz
set_option linter.unusedVariables false
set_option linter.unusedSimpArgs false
theorem app_eq {n : Nat} {es : List E3} {d r s : List Int} (hrl : r.length = n) (h : ∀ v, v < n → gi r v = gi d v - Lp n es (gi s) v) : appF n es d s = r := (eq_tab hrl _ h).symm
end Go.Proofs.YtmeoemmemjipdaaGreat

/- Laws of layer 38: Refutes, Verifies, Moves, Adds, Agrees. -/
namespace Go.Proofs.YtmeoemmemjipdaaGreat
open Go Go.Proofs.Tryz
set_option linter.unusedVariables false
set_option linter.unusedSimpArgs false
structure RtOk (n : Int) (es : List E3) (most : Int) (d : List Int) : Prop where
  j : yca n es = 0
  c : yaM d n = 0
  f : FewOk n es d most
theorem RtOk.giv {n most : Int} {es : List E3} {d : List Int} (h : RtOk n es most d) : yaH n es 0 d = 0 := by rw [given0, if_pos h.j, h.c]
theorem rank_at {n : Nat} {es : List E3} {d : List Int} {R : Int → Int → Prop} (hg : yaH n es 0 d = 0) (hD : DOk n es d) (h : ∀ k, RkOk n es d k → R k 0) : ya5 n es d R :=
  ygh (by have := hD.G.el; omega) (fun q => absurd hg q) fun _ => by
    simp only [Int.toNat_natCast]
    exact ⟨hD.G, fun v hv => by have := hD.b v hv; omega, hD.d5, h⟩
theorem wit_at {n : Nat} {es : List E3} {d : List Int} {R : List Int → Int → Prop} (hg : yaH n es 0 d = 0) (hD : DOk n es d) (h : ∀ w, WitOk n es d w → R w 0) : ybA n es d R :=
  p_rank_Witness (by have := hD.G.el; omega) (fun q => absurd hg q) fun _ => by
    simp only [Int.toNat_natCast]
    exact ⟨hD, h⟩
theorem RtOk.nat {n : Nat} {most : Int} {es : List E3} {d : List Int} (h : RtOk n es most d) (hm : most ≤ 5) : DOk n es d ∧ yaH n es 0 d = 0 ∧ d.length = n ∧ dg d ≤ most ∧ ∀ v, v < n → -100 ≤ gi d v ∧ gi d v ≤ 100 := by
  have hg := h.giv
  have hD := h.f.dok hm hg
  rw [Int.toNat_natCast] at hD
  have h4 := ydV (q := 0) hg
  have hlo := (ygv.1 (h.f.g hg).1).2 h.c
  exact ⟨hD, hg, h4.2.2.2.2.2.2.1, (h.f.g hg).2, fun v hv => hlo v (by have := h4.2.2.2.2.2.2.1; omega)⟩
theorem RtOk.int {n most : Int} {es : List E3} {d : List Int} (h : RtOk n es most d) : ∃ n' : Nat, n = (n' : Int) := ⟨n.toNat, by have := yb0 h.giv; omega⟩
theorem cert_ver {n : Nat} {es : List E3} {d : List Int} (hD : DOk n es d) (hg : yaH n es 0 d = 0) {k : Nat} (hk : k ≤ 6) (hal : AL n es d k) {out : List (List Int)} (h : yeM n es d (ybG n k) out) : verE n es d k out = 0 := by
  have hE := hD.G.E
  have hn1 := hD.G.n1
  have hn5 := hD.G.n5
  obtain ⟨N, rfl⟩ : ∃ N, n = N + 1 := ⟨n - 1, by omega⟩
  have hlen : (out.length : Int) = cntF k N := by
    rw [cnt_len0 N (by omega) k (by omega), ← lenF_eq, h.len]
  unfold verE
  simp only [Int.toNat_natCast]
  rw [if_pos hg, if_pos ⟨by omega, by omega⟩, Nat.add_sub_cancel, if_pos hlen]
  refine yjE fun j hj => ?_
  have hjL : j < (ybG (N + 1) k).length := by rw [← h.len]; exact hj
  obtain ⟨x, hx⟩ := h.at_ j hjL
  have heff : Eff (N + 1) (gx (ybG (N + 1) k) j) (k : Int) := ye3 (List.mem_of_getElem? (yd1 hjL))
  have hs := hx.bs
  unfold errV
  rw [if_pos (yfP hx.sl (by omega) (by omega) fun v hv => by have := hs v hv; omega), app_eq hx.dl hx.lp, if_pos]
  rw [yjm]
  intro v hv
  rw [hx.dl] at hv
  by_cases e : v = 0
  · rw [e]; exact (yj7 hE (by omega) hx.red hx.lp).1 (hal _ heff)
  · exact hx.pos v hv e
end Go.Proofs.YtmeoemmemjipdaaGreat

/- Riemann and Roch for graphs, plainly: orders, the canonical divisor, what is left of it. -/
namespace Go.Proofs.YtmeoemmemjipdaaGreat
open Go Go.Proofs.Tryz
set_option linter.unusedVariables false
set_option linter.unusedSimpArgs false
theorem half_ge' {n : Nat} {es : List E3} (hE : EOk n es) {r : Nat → Nat → Bool} (h : ∀ u v, u < n → v < n → u ≠ v → r u v = true ∨ r v u = true) : tot n es ≤ 2 * half n es r := by
  have h1 : tot n es ≤ half n es r + half n es r := by
    conv => rhs; arg 2; rw [yjZ]
    unfold half tot
    rw [← ybB]
    refine ydc fun v hv => ?_
    show _ ≤ _ + _
    rw [← ybB]
    refine ydc fun u hu => ?_
    show W es v u ≤ (if r u v = true then W es v u else 0) + (if r v u = true then W es v u else 0)
    have := ya4 hE v u
    by_cases e : u = v
    · subst e; rw [yfK]; split <;> omega
    · rcases h u v hu hv e with q | q
      · rw [if_pos q]; split <;> omega
      · rw [if_pos q]; split <;> omega
  omega
def InjO (n : Nat) (ρ : Nat → Nat) : Prop := ∀ u v, u < n → v < n → ρ u = ρ v → u = v
def nuO (n : Nat) (es : List E3) (ρ : Nat → Nat) : List Int := tab (fun v => sm n (fun u => if decide (ρ u < ρ v) = true then W es v u else 0) - 1) n
theorem nuO_length (n : Nat) (es : List E3) (ρ : Nat → Nat) : (nuO n es ρ).length = n := ya2 _ n
theorem gi_nuO {n : Nat} {es : List E3} {ρ : Nat → Nat} {v : Nat} (hv : v < n) : gi (nuO n es ρ) v = sm n (fun u => if decide (ρ u < ρ v) = true then W es v u else 0) - 1 := yde _ hv
theorem nuO_dg {n : Nat} {es : List E3} (hE : EOk n es) {ρ : Nat → Nat} (hi : InjO n ρ) : dg (nuO n es ρ) = ycE es - n := by
  have h1 : dg (nuO n es ρ) = half n es (fun u v => decide (ρ u < ρ v)) - n := by
    rw [dg_n (nuO_length n es ρ)]
    have : sm n (gi (nuO n es ρ)) = sm n (fun v => sm n (fun u => if decide (ρ u < ρ v) = true then W es v u else 0) - 1) := yap fun v hv => gi_nuO hv
    rw [this, yeD, ydp]
    have e9 : half n es (fun u v => decide (ρ u < ρ v)) = sm n (fun v => sm n (fun u => if decide (ρ u < ρ v) = true then W es v u else 0)) := rfl
    rw [e9]; omega
  have h2 := half_le hE (r := fun u v => decide (ρ u < ρ v)) (fun u v a b => by simp at a b; omega)
  have h3 := half_ge' hE (r := fun u v => decide (ρ u < ρ v)) (fun u v hu hv h => by
    have : ρ u ≠ ρ v := fun q => h (hi u v hu hv q)
    simp; omega)
  rw [ygF hE] at h2 h3
  omega
theorem least_by (f : Nat → Nat) (p : Nat → Prop) {n : Nat} (h : ∃ v, v < n ∧ p v) : ∃ v, v < n ∧ p v ∧ ∀ u, u < n → f u < f v → ¬ p u := by
  obtain ⟨v, hv, hp⟩ := h
  have : ∀ m v, f v = m → v < n → p v → ∃ v, v < n ∧ p v ∧ ∀ u, u < n → f u < f v → ¬ p u := by
    intro m
    induction m using Nat.strongRecOn with
    | ind m ih =>
      intro v hm hv hp
      by_cases q : ∃ u, u < n ∧ f u < f v ∧ p u
      · obtain ⟨u, hu, hlt, hpu⟩ := q
        exact ih (f u) (by omega) u rfl hu hpu
      · exact ⟨v, hv, hp, fun u hu hlt hpu => q ⟨u, hu, hlt, hpu⟩⟩
  exact this _ v rfl hv hp
theorem nuO_lose {n : Nat} {es : List E3} (hE : EOk n es) (hn : 1 ≤ n) {ρ : Nat → Nat} (hi : InjO n ρ) : ¬ Win n es (nuO n es ρ) := by
  rintro ⟨s, hs⟩
  obtain ⟨w, hw, hmax⟩ := max_at s n hn
  obtain ⟨v, hv, hp, hlow⟩ := least_by ρ (fun v => s v = s w) (n := n) ⟨w, hw, rfl⟩
  have h1 := hs v hv
  have h2 : sm n (fun u => if decide (ρ u < ρ v) = true then W es v u else 0) ≤ Lp n es s v := by
    unfold Lp
    refine ydc fun u hu => ?_
    show (if decide (ρ u < ρ v) = true then W es v u else 0) ≤ W es v u * (s v - s u)
    have h3 := ya4 hE v u
    have h4 := hmax u hu
    by_cases e : ρ u < ρ v
    · rw [if_pos (by simpa using e)]
      have h5 : s u ≠ s w := hlow u hu e
      have h6 : W es v u * 1 ≤ W es v u * (s v - s u) := Int.mul_le_mul_of_nonneg_left (by omega) h3
      omega
    · rw [if_neg (by simpa using e)]
      exact Int.mul_nonneg h3 (by omega)
  rw [gi_nuO hv] at h1
  omega
theorem lose_nuO {n : Nat} {es : List E3} {d : List Int} (hg : yat n es = 0) (hC : ∀ q, q < n → Conn n es q) (hn : n ≤ 12) (hd : d.length = n) (hdb : ∀ v, v < n → -1000 ≤ gi d v ∧ gi d v ≤ 1000) (hw : ¬ Win n es d) :
    ∃ (ρ : Nat → Nat) (t : Nat → Int), InjO n ρ ∧ ∀ v, v < n → gi d v - Lp n es t v ≤ gi (nuO n es ρ) v := by
  have hE := (yba hg).1
  obtain ⟨c, x, b, ρ, hB, hall, hx⟩ := bor_all hg hE hC hn (fun v hv => (hdb v hv).1) hw 3456001 (fun _ => 0) d (List.replicate n false) (fun _ => 0) 1 (by rw [ybr]; omega) (bor_start hd fun v hv => (hdb v hv).2) (fun _ _ => by omega) (fun v hv h => by rw [gb_rep] at h; cases h)
  refine ⟨fun v => ρ v * 12 + v, fun i => (-1) * c i, fun u v hu hv h => ?_, fun v hv => ?_⟩
  · have h : ρ u * 12 + u = ρ v * 12 + v := h
    omega
  · rw [gi_nuO hv, ygu]
    have h1 := hB.val v hv
    have h2 := hx v hv
    have h3 : ords n es b ρ v ≤ sm n (fun u => if decide (ρ u * 12 + u < ρ v * 12 + v) = true then W es v u else 0) := by
      unfold ords
      refine ydc fun u hu => ?_
      show (if gb b u = true ∧ ¬ ρ u < ρ v then 0 else W es v u) ≤ if decide (ρ u * 12 + u < ρ v * 12 + v) = true then W es v u else 0
      have h4 := ya4 hE v u
      by_cases e : ρ u < ρ v
      · rw [if_neg (fun q => q.2 e), if_pos (by rw [decide_eq_true_eq]; omega)]; exact Int.le_refl _
      · rw [if_pos ⟨hall u hu, e⟩]; split <;> omega
    have h5 : sm n (fun u => if decide (ρ u * 12 + u < ρ v * 12 + v) = true then W es v u else 0) = sm n (fun u => if decide ((fun v => ρ v * 12 + v) u < (fun v => ρ v * 12 + v) v) = true then W es v u else 0) := rfl
    rw [← h5]
    omega
def canF (n : Nat) (es : List E3) : List Int := tab (fun v => deg n es v - 2) n
theorem yi7 (n : Nat) (es : List E3) : (canF n es).length = n := ya2 _ n
theorem gi_canF {n : Nat} {es : List E3} {v : Nat} (hv : v < n) : gi (canF n es) v = deg n es v - 2 := yde _ hv
theorem canF_dg {n : Nat} {es : List E3} (hE : EOk n es) : dg (canF n es) = 2 * (ycE es - n) := by
  rw [dg_n (yi7 n es)]
  have h1 : sm n (gi (canF n es)) = sm n (fun v => deg n es v - 2) := yap fun v hv => gi_canF hv
  have h2 : sm n (fun v => deg n es v) = tot n es := rfl
  rw [h1, yeD, ydp, h2, ygF hE]
  omega
theorem bound_on (ρ : Nat → Nat) : ∀ n, ∃ M, ∀ v, v < n → ρ v ≤ M
  | 0 => ⟨0, fun v hv => by omega⟩
  | n + 1 => by
    obtain ⟨M, h⟩ := bound_on ρ n
    refine ⟨max M (ρ n), fun v hv => ?_⟩
    by_cases e : v = n
    · subst e; omega
    · have := h v (by omega); omega
theorem nuO_turn {n : Nat} {es : List E3} (hE : EOk n es) {ρ : Nat → Nat} (hi : InjO n ρ) : ∃ σ, InjO n σ ∧ ∀ v, v < n → gi (canF n es) v - gi (nuO n es ρ) v = gi (nuO n es σ) v := by
  obtain ⟨M, hM⟩ := bound_on ρ n
  refine ⟨fun v => M - ρ v, fun u v hu hv h => hi u v hu hv (by have h : M - ρ u = M - ρ v := h; have := hM u hu; have := hM v hv; omega), fun v hv => ?_⟩
  rw [gi_canF hv, gi_nuO hv, gi_nuO hv]
  show deg n es v - 2 - (sm n (fun u => if decide (ρ u < ρ v) = true then W es v u else 0) - 1) = sm n (fun u => if decide (M - ρ u < M - ρ v) = true then W es v u else 0) - 1
  have h1 : sm n (fun u => if decide (ρ u < ρ v) = true then W es v u else 0) + sm n (fun u => if decide (M - ρ u < M - ρ v) = true then W es v u else 0) = deg n es v := by
    rw [← ybB]
    unfold deg
    refine yap fun u hu => ?_
    show (if decide (ρ u < ρ v) = true then W es v u else 0) + (if decide (M - ρ u < M - ρ v) = true then W es v u else 0) = W es v u
    have h2 := hM u hu
    have h3 := hM v hv
    by_cases e : u = v
    · subst e; rw [yfK, ite_self, ite_self]; rfl
    · have h4 : ρ u ≠ ρ v := fun q => e (hi u v hu hv q)
      by_cases c : ρ u < ρ v
      · rw [if_pos (by rw [decide_eq_true_eq]; exact c), if_neg (by rw [decide_eq_true_eq]; omega)]; omega
      · rw [if_neg (by rw [decide_eq_true_eq]; exact c), if_pos (by rw [decide_eq_true_eq]; omega)]; omega
  omega
section
variable {n : Nat} {es : List E3} {d : List Int}
theorem rr_le (hg : yat n es = 0) (hC : ∀ q, q < n → Conn n es q) (h1 : 1 ≤ n) (hn : n ≤ 12) (hd : d.length = n) (hdb : ∀ v, v < n → -500 ≤ gi d v ∧ gi d v ≤ 500) {k k' : Int} (hk : RkOk n es d k) (hk5 : k ≤ 400) (hk' : RkOk n es (sb n (canF n es) d) k') : k' ≤ k + (ycE es - n) - dg d := by
  have hE := (yba hg).1
  obtain ⟨e, he⟩ := Classical.not_forall.1 hk.no
  obtain ⟨he, hlose⟩ := Classical.not_imp.1 he
  obtain ⟨ρ, t, hi, ht⟩ := lose_nuO hg hC hn (ycd n d e) (fun v hv => by
    rw [yff hv]
    have := hdb v hv
    have := he.pos v hv
    have := he.le hv
    omega) hlose
  obtain ⟨σ, hσ, hturn⟩ := nuO_turn hE hi
  have hl : (tab (fun v => gi (nuO n es ρ) v - (gi (sb n d e) v - Lp n es t v)) n).length = n := ya2 _ n
  have hv2 : ∀ v, v < n → gi (tab (fun v => gi (nuO n es ρ) v - (gi (sb n d e) v - Lp n es t v)) n) v = gi (nuO n es ρ) v - (gi (sb n d e) v - Lp n es t v) := fun v hv => yde _ hv
  generalize tab (fun v => gi (nuO n es ρ) v - (gi (sb n d e) v - Lp n es t v)) n = f at hl hv2
  have hfd : dg f = dg (nuO n es ρ) - dg (sb n d e) := by
    rw [← dg_sb (nuO_length n es ρ) (ycd n d e)]
    exact dg_lp (n := n) (es := es) (s := fun i => (-1) * t i) hl (ycd n _ _) fun v hv => by rw [hv2 v hv, yff (d := nuO n es ρ) hv, ygu]; omega
  rw [nuO_dg hE hi, dg_sb hd he.len, he.deg] at hfd
  have hf : Eff n f (ycE es - n - (dg d - (k + 1))) := ⟨hl, fun v hv => by rw [hv2 v hv]; have := ht v hv; omega, hfd⟩
  apply Int.not_lt.1
  intro hlt
  have hw := ygN h1 (r := ycE es - n - (dg d - (k + 1))) (by omega) hk'.al f hf
  refine nuO_lose hE h1 hσ ?_
  refine ygT (a := sb n (nuO n es σ) e) (fun v hv => by rw [yff hv]; have := he.pos v hv; omega) ?_
  refine (win_eqv (y := sb n (sb n (canF n es) d) f) (s := t) fun v hv => ?_).2 hw
  rw [yff hv, yff hv, yff hv, hv2 v hv, yff hv, ← hturn v hv]
  omega
theorem rr (hg : yat n es = 0) (hC : ∀ q, q < n → Conn n es q) (h1 : 1 ≤ n) (hn : n ≤ 12) (hd : d.length = n) (hdb : ∀ v, v < n → -300 ≤ gi d v ∧ gi d v ≤ 300) (ht : tot n es ≤ 18) {k k' : Int} (hk : RkOk n es d k) (hk5 : k ≤ 400) (hk' : RkOk n es (sb n (canF n es) d) k') (hk5' : k' ≤ 400) : k - k' = dg d + 1 - (ycE es + 1 - n) := by
  have hE := (yba hg).1
  have h2 := rr_le hg hC h1 hn hd (fun v hv => by have := hdb v hv; omega) hk hk5 hk'
  have hdeg : ∀ v, v < n → 0 ≤ deg n es v ∧ deg n es v ≤ 18 := fun v hv => by
    have h6 : deg n es v ≤ tot n es := yhy (f := fun v => sm n (fun u => W es v u)) (fun i _ => yaX fun u _ => ya4 hE i u) v hv
    have h7 : 0 ≤ deg n es v := yaX fun u _ => ya4 hE v u
    omega
  have h3 := rr_le (d := sb n (canF n es) d) hg hC h1 hn (ycd n _ _) (fun v hv => by
    rw [yff hv, gi_canF hv]
    have := hdb v hv
    have := hdeg v hv
    omega) hk' hk5' (k' := k) ((rk_eqv (s := fun _ => 0) fun v hv => by rw [yeh, yff hv, yff hv]; omega).1 hk)
  rw [dg_sb (yi7 n es) hd, canF_dg hE] at h3
  omega
end
end Go.Proofs.YtmeoemmemjipdaaGreat

/- What riemannroch comes to; the theorem of Riemann and Roch holds. -/
namespace Go.Proofs.YtmeoemmemjipdaaGreat
open Go Go.Proofs.Tryz
set_option linter.unusedVariables false
set_option linter.unusedSimpArgs false
theorem deg_w1 {n : Nat} {x : E3} {v : Nat} (hx : 0 ≤ x.1 ∧ x.1 < n ∧ 0 ≤ x.2.1 ∧ x.2.1 < n) : sm n (fun u => w1 x v u) = if x.1 = x.2.1 then 0 else if x.1 = v then x.2.2 else if x.2.1 = v then x.2.2 else 0 := by
  by_cases e : x.1 = x.2.1
  · rw [if_pos e, yap (g := fun _ => 0) fun u _ => by unfold w1; rw [if_neg (fun q => q.1 e)], ybr]
  · rw [if_neg e]
    by_cases e1 : x.1 = v
    · rw [if_pos e1]
      have h : sm n (fun u => w1 x v u) = sm n (fun u => if u = x.2.1.toNat then x.2.2 else 0) := yap fun u hu => by
        unfold w1
        by_cases c : u = x.2.1.toNat
        · rw [if_pos c, if_pos ⟨e, .inl ⟨e1, by omega⟩⟩]
        · rw [if_neg c, if_neg]
          rintro ⟨_, ⟨_, q⟩ | ⟨q, q2⟩⟩
          · omega
          · omega
      rw [h, yc2 _ (by omega)]
    · rw [if_neg e1]
      by_cases e2 : x.2.1 = v
      · rw [if_pos e2]
        have h : sm n (fun u => w1 x v u) = sm n (fun u => if u = x.1.toNat then x.2.2 else 0) := yap fun u hu => by
          unfold w1
          by_cases c : u = x.1.toNat
          · rw [if_pos c, if_pos ⟨e, .inr ⟨by omega, e2⟩⟩]
          · rw [if_neg c, if_neg]
            rintro ⟨_, ⟨q, _⟩ | ⟨q, q2⟩⟩
            · omega
            · omega
        rw [h, yc2 _ (by omega)]
      · rw [if_neg e2, yap (g := fun _ => 0) fun u _ => by
          unfold w1
          rw [if_neg]
          rintro ⟨_, ⟨q, _⟩ | ⟨_, q⟩⟩
          · exact e1 q
          · exact e2 q, ybr]
theorem deg_take {n : Nat} {es : List E3} (hE : EOk n es) {k : Nat} (hk : k < es.length) (v : Nat) : deg n (es.take (k + 1)) v = deg n (es.take k) v + if (ge es k).1 = (ge es k).2.1 then 0 else if (ge es k).1 = v then (ge es k).2.2 else if (ge es k).2.1 = v then (ge es k).2.2 else 0 := by
  have hx := hE _ (yjI hk)
  have e : es.take (k + 1) = es.take k ++ [ge es k] := by rw [List.take_add_one, List.getElem?_eq_getElem hk, ydR hk]; rfl
  rw [← deg_w1 (x := ge es k) (n := n) (v := v) (by omega), e]
  unfold deg
  rw [← ybB]
  exact yap fun u _ => W_snoc _ _ _ _
theorem yj1 {n v : Nat} {es : List E3} {R : Int → Int → Prop} (hl : es.length ≤ 1000) (hg : yat n es = 0) (hv : v < n) (h : R (deg n es v) 0) : yi5 (n : Int) es (v : Int) R := by
  obtain ⟨hE, hn1, hn12⟩ := yba hg
  unfold yi5 yjp
  refine ygw (by omega) ⟨fun _ => ?_, fun q => absurd hg q⟩
  refine ⟨Cnt 1 (fun _ => True), Cnt.start trivial, ?_⟩
  rintro m _ ⟨k, rfl, rfl, hk, -⟩
  simp only [Int.toNat_natCast, List.length_singleton]
  refine ⟨fun hlt => ⟨by omega, yge ⟨fun _ => Cnt.next (by omega) (by omega) trivial, fun q => absurd (decide_eq_true ?_) q⟩⟩, fun _ => ⟨fun _ => ?_, fun q => absurd trivial q⟩⟩
  · have e : k = 0 := by omega
    subst e
    show 0 ≤ (v : Int) ∧ (v : Int) < n
    omega
  refine ⟨fun m d i => Cnt es.length (fun k => d = deg n (es.take k) v ∧ 0 ≤ d ∧ d ≤ 50 * k) m i, Cnt.start ⟨?_, by omega, by omega⟩, ?_⟩
  · unfold deg; rw [List.take_zero, yap (g := fun _ => 0) fun u _ => W_nil _ _, ybr]
  rintro m _ _ ⟨k, rfl, rfl, hk, rfl, h2⟩
  simp only [Int.toNat_natCast]
  refine ⟨fun hlt => ⟨by omega, ?_⟩, fun hge => ?_⟩
  · have hlt : k < es.length := by omega
    have hx := hE _ (yjI hlt)
    have h1 := deg_take hE hlt v
    refine ⟨fun e => ?_, fun e => ⟨fun e1 => ?_, fun e1 => ⟨fun e2 => ?_, fun e2 => ?_⟩⟩⟩
    · rw [if_pos e, Int.add_zero] at h1
      exact Cnt.next hlt (by omega) ⟨h1.symm, by omega, by omega⟩
    · rw [if_neg e, if_pos e1] at h1
      exact ⟨i64 (by omega), Cnt.next hlt (by omega) ⟨h1.symm, by omega, by omega⟩⟩
    · rw [if_neg e, if_neg e1, if_pos e2] at h1
      exact ⟨i64 (by omega), Cnt.next hlt (by omega) ⟨h1.symm, by omega, by omega⟩⟩
    · rw [if_neg e, if_neg e1, if_neg e2, Int.add_zero] at h1
      exact Cnt.next hlt (by omega) ⟨h1.symm, by omega, by omega⟩
  · have e : k = es.length := by omega
    rw [e, List.take_length]; exact h
theorem yjx {n : Int} {es : List E3} {R : Int → Prop} (hl : es.length ≤ 1000) (h : R (yca n es)) : yi2 n es R := by
  unfold yi2
  unfold yca at h
  refine ⟨by omega, fun hg => ⟨fun hc => ?_, fun hc => ?_⟩, fun hg => ?_⟩
  · have := of_decide_eq_true hc
    rwa [if_pos this.1, if_pos this.2] at h
  · rwa [if_pos hg, if_neg (fun q => hc (decide_eq_true ⟨hg, q⟩))] at h
  · rwa [if_neg hg] at h
theorem yjq {n : Nat} {es : List E3} {R : List Int → Prop} (hl : es.length ≤ 1000) (hg : yat n es = 0) (h : R (canF n es)) : yiX (n : Int) es R := by
  obtain ⟨hE, hn1, hn12⟩ := yba hg
  unfold yiX
  refine ⟨by omega, fun l => ∀ (i : Nat) x, l[i]? = some x → i < n ∧ x.1 = (i : Int) ∧ x.2 = deg n es i, fun l => l.length = n, ?_, fun pre k => pre.length ≤ n ∧ k = upto (fun v => deg n es v - 2) pre.length n, ⟨by simp, (yiM _ _).symm⟩, ?_, ?_⟩
  · unfold yi1
    refine ⟨fun m l v => v = (l.length : Int) ∧ l.length ≤ n ∧ m = n - l.length ∧ ∀ (i : Nat) x, l[i]? = some x → i < n ∧ x.1 = (i : Int) ∧ x.2 = deg n es i, ⟨_, rfl, by simp, rfl, by simp⟩, ?_⟩
    rintro m l _ ⟨rfl, hll, rfl, hP⟩
    refine ⟨fun hlt => yj1 hl hg (by omega) ?_, fun hge => by omega⟩
    have hP2 : ∀ (i : Nat) x, (l ++ [((l.length : Int), deg n es l.length)])[i]? = some x → i < n ∧ x.1 = (i : Int) ∧ x.2 = deg n es i := fun i x hx => by
      by_cases e : i < l.length
      · rw [List.getElem?_append_left e] at hx; exact hP i x hx
      · rw [List.getElem?_append_right (by omega)] at hx
        have e2 : i = l.length := by
          have := (List.getElem?_eq_some_iff.1 hx).1
          simp at this; omega
        subst e2
        simp at hx
        subst hx
        exact ⟨by omega, rfl, rfl⟩
    exact ⟨hP2, ⟨i64 (by omega), n - (l.length + 1), by omega, by simp, by simp; omega, by simp, hP2⟩, trivial⟩
  · rintro pre y y2 k ⟨hpl, rfl⟩ hPr
    obtain ⟨hin, h1, h2⟩ := hPr pre.length (y, y2) (by simp)
    simp only at h1 h2
    subst h1
    subst h2
    have hdb := yfU hg n pre.length
    have hd : deg n es pre.length = sm n (fun u => W es pre.length u) := rfl
    simp only [Int.toNat_natCast]
    refine ⟨i64 (by omega), by rw [ybR]; omega, by simp; omega, ?_⟩
    rw [List.length_append, List.length_singleton]
    exact yjF (fun v => deg n es v - 2) hin
  · rintro ys k ⟨hpl, rfl⟩ hlen
    have hlen : ys.length = n := hlen
    rw [hlen, yjD]; exact h
theorem yjS {n : Nat} {es : List E3} (hg : yat n es = 0) (v : Nat) (hv : v < n) : -2 ≤ gi (canF n es) v ∧ gi (canF n es) v ≤ 600 := by
  obtain ⟨hE, hn1, hn12⟩ := yba hg
  have hdb := yfU hg n v
  have hd : deg n es v = sm n (fun u => W es v u) := rfl
  rw [gi_canF hv]; omega
theorem yjf {n : Int} {es : List E3} {R : List Int → Int → Prop} (hl : es.length ≤ 1000) (h0 : yca n es ≠ 0 → R [] (yca n es)) (h1 : yca n es = 0 → R (canF n.toNat es) 0) : yiU n es R := by
  unfold yiU
  refine yjx hl ⟨fun hj => ?_, h0⟩
  have hg : yat n es = 0 := by
    unfold yca at hj
    split at hj
    · assumption
    · rename_i c; exact absurd hj c
  obtain ⟨n, rfl⟩ : ∃ n' : Nat, n = (n' : Int) := ⟨n.toNat, by unfold yat at hg; split at hg <;> omega⟩
  exact yjq hl hg (h1 hj)
theorem yjg {n : Nat} {es : List E3} {d : List Int} {R : List Int → Int → Prop} (hl : es.length ≤ 1000) (hg : yaH n es 0 d = 0) (hb : ∀ v, v < n → -400000 ≤ gi d v ∧ gi d v ≤ 400000) (h : R (sb n (canF n es) d) 0) : yiV (n : Int) es d R := by
  obtain ⟨hE, hn1, hn12, hg1, hc, -, hdl, hck⟩ := ydV (q := 0) hg
  have hj : yca n es = 0 := by unfold yca; rw [if_pos hg1, if_pos hc]
  unfold yiV
  refine yjf hl (fun q => absurd hj q) fun _ => ⟨fun _ => ygE ⟨fun _ => ?_, fun q => absurd hck q⟩, fun q => absurd rfl q⟩
  rw [Int.toNat_natCast]
  exact p_chips_Sub' (n := n) (by omega) (yi7 n es) hdl (fun j hj => by have := yjS hg1 j hj; omega) hb h
theorem tab_snoc (f : Nat → Int) (n : Nat) : tab f (n + 1) = tab f n ++ [f n] := by simp [tab, List.range_succ]
theorem p_r39_K {n : Nat} {es : List E3} {R : List Int → Prop} (hl : es.length ≤ 1000) (hg : yat n es = 0) (h : R (canF n es)) : yjH (n : Int) es R := by
  obtain ⟨hE, hn1, hn12⟩ := yba hg
  unfold yjH
  refine ⟨fun m out v => Cnt n (fun k => out = tab (fun v => deg n es v - 2) k) m v, Cnt.start rfl, ?_⟩
  rintro m _ _ ⟨k, rfl, rfl, hk, rfl⟩
  refine ⟨fun hlt => ygp (by omega) hg ?_, fun hge => ?_⟩
  · have hdb := yfU hg n k
    have hd : deg n es k = sm n (fun u => W es k u) := rfl
    refine ⟨i64 (by omega), by rw [ya2]; omega, Cnt.next (by omega) (by omega) ?_⟩
    rw [tab_snoc]
  · have e : k = n := by omega
    rw [e]; exact h
theorem p_r39_Few {n most : Int} {es : List E3} {d : List Int} {R : Bool → Prop} (h1 : FewOk n es d most → (yaH n es 0 d = 0 → FewOk n es (sb n.toNat (canF n.toNat es) d) most) → R true) (h2 : R false) : yjl n es d most R := by
  unfold yjl
  refine p_r38_Few (fun hF => ⟨fun _ => ?_, fun q => absurd rfl q⟩) fun _ => ⟨fun q => (by cases q), fun _ => h2⟩
  have hel := hF.el
  refine yiq (by omega) ⟨fun hg => ?_, fun hg => h1 hF fun q => absurd q hg⟩
  obtain ⟨n, rfl⟩ : ∃ n' : Nat, n = (n' : Int) := ⟨n.toNat, by have := yb0 hg; omega⟩
  obtain ⟨hE, hn1, hn12, hg1, hc, -, hdl, hck⟩ := ydV (q := 0) hg
  obtain ⟨-, -, -, hdb⟩ := ygQ hck
  unfold yjr
  refine p_r39_K (by omega) hg1 (yf1 (by rw [yi7]; omega) (by rw [yi7]; omega) (by omega) (fun v hv => ?_) (fun v hv => ?_) ?_)
  · rw [yi7] at hv; have := yjS hg1 v hv; omega
  · rw [yi7] at hv; have := hdb v hv; omega
  rw [plus_sb (yi7 n es)]
  refine p_r38_Few (fun hF2 => h1 hF fun _ => ?_) fun _ => h2
  rw [Int.toNat_natCast]; exact hF2
theorem wit_facts {n : Nat} {es : List E3} {d w : List Int} (hD : DOk n es d) (hdl : d.length = n) {k : Int} (hk : RkOk n es d k) (hw : WitOk n es d w) : Eff n w (k + 1) ∧ ¬ Win n es (sb n d w) := by
  obtain ⟨k2, hk2, hfail⟩ := hw
  have hn1 := hD.G.n1
  have e := hk2.eq hn1 hk
  subst e
  have hk6 := hk.six hn1 hdl hD.d5
  obtain ⟨r, hr⟩ : ∃ r : Nat, k2 + 1 = (r : Int) := ⟨(k2 + 1).toNat, by omega⟩
  refine ⟨?_, hfail.no⟩
  obtain ⟨N, rfl⟩ : ∃ N, n = N + 1 := ⟨n - 1, by omega⟩
  have := hfail.mem
  rwa [hr, Int.toNat_natCast, ← hr] at this
theorem less_ok {n : Nat} {es : List E3} {d w x s : List Int} {R : Int → Prop} (hD : DOk n es d) (hg : yaH n es 0 d = 0) (hdl : d.length = n) {k : Int} (hk : RkOk n es d k) (hw : WitOk n es d w) (hs : Reduces n es 0 (sb n d w) x s) (h : R 0) : yiY (n : Int) es d w s R := by
  have hE := hD.G.E
  have hn1 := hD.G.n1
  have hn5 := hD.G.n5
  have hel := hD.G.el
  obtain ⟨heff, hno⟩ := wit_facts hD hdl hk hw
  have hk6 := hk.six hn1 hdl hD.d5
  have hwb : ∀ v, v < n → 0 ≤ gi w v ∧ gi w v ≤ 6 := fun v hv => by have := heff.pos v hv; have := heff.le hv; omega
  have hwl := heff.len
  have hwc : yaM w n = 0 := yfP hwl (by omega) (by omega) fun v hv => by have := hwb v hv; omega
  have hsb3 := hs.bs
  have hless : LessIs n es d w s := by
    unfold LessIs
    rw [app_eq hs.dl hs.lp]
    exact ⟨hs.red, Int.not_le.1 fun q => hno ((yj7 hE (by omega) hs.red hs.lp).2 q)⟩
  refine yjQ (b := true) (by omega) (by rw [Int.toNat_natCast]; simpa using hless) ?_
  unfold lessE
  have hsc : yaM s n = 0 := yfP hs.sl (by omega) (by omega) fun v hv => by have := hsb3 v hv; omega
  rw [givL_two, if_pos hg, if_pos hwc, if_pos (yjm.2 fun v hv => (hwb v (by omega)).1), if_pos hsc, if_pos rfl]
  exact h
def ban3 : List E3 := [(0, 1, 3)]
theorem yjv : GOk 2 ban3 := ⟨by decide, by decide, by decide, by decide, by decide, by decide⟩
theorem ban3_can : canF 2 ban3 = [1, 1] := by decide
theorem ban3_ex : RkOk 2 ban3 [1, 1] 1 := ⟨by omega, al_dec (N := 1) (k := 1) [[0, 0]] (by decide), no_dec (N := 1) (k := 2) [0, 2] (by decide) (yer yjv 1 (by decide) (by decide) (by decide) (by decide))⟩
theorem ban3_g {d : List Int} (hd : d.length = 2) (hb : ∀ v, v < 2 → -1000000 ≤ gi d v ∧ gi d v ≤ 1000000) : yaH ((2 : Nat) : Int) ban3 0 d = 0 := yjv.giv hd hb
theorem yjK {R : Bool → Prop} (h : R true) : yiW R := by
  unfold yiW
  have hj : yca ((2 : Nat) : Int) ban3 = 0 := by decide
  show yiU ((2 : Nat) : Int) ban3 _
  refine yjf (by decide) (fun q => absurd hj q) fun _ => ?_
  rw [Int.toNat_natCast, ban3_can]
  show ya5 ((2 : Nat) : Int) ban3 [1, 1] _
  refine rank_at (ban3_g rfl (by decide)) ⟨yjv, by decide, by decide⟩ fun k hk => ?_
  have e := hk.eq (by omega) ban3_ex
  subst e
  show yi0 ((2 : Nat) : Int) ban3 [2, 0] _
  unfold yi0
  refine yjg (by decide) (ban3_g rfl (by decide)) (by decide) ⟨fun _ => ?_, fun q => absurd rfl q⟩
  have hsb : sb 2 (canF 2 ban3) [2, 0] = [-1, 1] := by decide
  refine rank_at (ban3_g rfl (by decide)) ⟨yjv, by decide, by decide⟩ fun a ha => ⟨fun _ => ?_, fun q => absurd rfl q⟩
  rw [hsb]
  refine rank_at (ban3_g rfl (by decide)) ⟨yjv, by decide, by decide⟩ fun b hb => ⟨fun _ => ?_, fun q => absurd rfl q⟩
  have ha6 := ha.six (n := 2) (by omega) rfl (by decide)
  have hb6 := hb.six (n := 2) (by omega) rfl (by decide)
  have hrr := rr yjv.g yjv.C (by omega) (by omega) (d := [2, 0]) rfl (by decide) yjv.tot ha (by omega) (by rw [hsb]; exact hb) (by omega)
  have e1 : dg [2, 0] = 2 := by decide
  have e2 : ycE ban3 = 3 := by decide
  rw [e1, e2] at hrr
  refine ⟨i64 (by omega), i64 (by omega), i64 (by omega), fun _ => ydd (by decide) ⟨fun _ => ⟨fun _ => ?_, fun q => absurd rfl q⟩, fun q => absurd (by decide) q⟩, fun q => absurd rfl q⟩
  rw [decide_eq_true (by omega)]; exact h
theorem p_toproch {n : Int} {es : List E3} {d : List Int} : yiZ n es d (fun b => b = true) := by
  unfold yiZ yi3
  refine p_r25_Joined0 ⟨fun hj => yiC ⟨fun hck => p_r39_Few (fun hF hF2 => ⟨fun _ => ?_, fun q => absurd rfl q⟩) ⟨fun q => (by cases q), fun _ => yjK rfl⟩, fun _ => ⟨fun q => (by cases q), fun _ => yjK rfl⟩⟩, fun _ => ⟨fun q => (by cases q), fun _ => yjK rfl⟩⟩
  have hR : RtOk n es 4 d := ⟨hj, hck, hF⟩
  obtain ⟨n, rfl⟩ := hR.int
  obtain ⟨hD, hg, hdl, h4, hdb⟩ := hR.nat (by omega)
  have G := hD.G
  have hn1 := G.n1
  have hn5 := G.n5
  have hel := G.el
  have hF2 := hF2 hg
  rw [Int.toNat_natCast] at hF2
  have hyl := ycd n (canF n es) d
  have hyc : yaM (sb n (canF n es) d) n = 0 := yfP hyl (by omega) (by omega) fun v hv => by
    rw [yff hv]; have := yjS G.g v hv; have := hdb v hv; omega
  have hR2 : RtOk n es 4 (sb n (canF n es) d) := ⟨hj, hyc, hF2⟩
  obtain ⟨hD2, hg2, -, h42, hyb⟩ := hR2.nat (by omega)
  refine yhC (by omega) G.g (yjG (by have := List.length_filter_le (fun x : E3 => decide (x.1 ≠ x.2.1)) es; unfold yeL; omega) (yjT G.g) (fun q hq S h0 h1 => ?_) ?_)
  · obtain ⟨v, u, a, b, c, d, e⟩ := G.C q hq S h0 h1
    exact ⟨v, u, a, b, c, d, by rw [yjV]; exact e⟩
  rw [yjR]
  refine yjg (by omega) hg (fun v hv => by have := hdb v hv; omega) ?_
  refine ⟨True, fun _ => ?_, i64 (by omega), i64 (by omega), fun _ => ⟨fun _ => yiC ⟨fun _ => trivial, fun q => absurd hyc q⟩, fun q => absurd (by omega) q⟩, fun q => absurd (by omega) q⟩
  -- either divisor
  have both : ∀ {T : Int → Prop} {Fl : Prop} (x : List Int), DOk n es x → yaH n es 0 x = 0 → x.length = n → (∀ v, v < n → -100 ≤ gi x v ∧ gi x v ≤ 100) → (∀ k, RkOk n es x k → T k) → ya5 (n : Int) es x (fun r9 r10 => ybA (n : Int) es x (fun r11 r12 => (∃ J3 : Prop, (J3 → yjc x r11 (fun r13 r14 => yaU (n : Int) es r13 (fun r15 r16 r17 r18 => (∃ J4 : Prop, (J4 → (∃ J5 : Prop, (J5 → T r9) ∧ ((0 ≤ r9 → ybD (n : Int) es x r9 (fun r19 r20 => (∃ J6 : Prop, (J6 → J5) ∧ ((r20 = 0 → yi6 (n : Int) es x r9 r19 (fun r21 => ((r21 = 0 → J6) ∧ (¬ (r21 = 0) → Fl)))) ∧ (¬ (r20 = 0) → Fl))))) ∧ (¬ (0 ≤ r9) → J5)))) ∧ ((r14 = 0 → ((r18 = 0 → yiY (n : Int) es x r11 r17 (fun r22 => ((r22 = 0 → J4) ∧ (¬ (r22 = 0) → Fl)))) ∧ (¬ (r18 = 0) → Fl))) ∧ (¬ (r14 = 0) → Fl)))))) ∧ ((r10 = 0 → ((r12 = 0 → ((r9 < (-1) → Fl) ∧ (¬ (r9 < (-1)) → ((5 < r9 → Fl) ∧ (¬ (5 < r9) → ((((r11.length : Nat) : Int) = (n : Int) → J3) ∧ (¬ (((r11.length : Nat) : Int) = (n : Int)) → Fl))))))) ∧ (¬ (r12 = 0) → Fl))) ∧ (¬ (r10 = 0) → Fl))))) := fun {T Fl} x hX hgx hxl hxb hT => by
    refine rank_at hgx hX fun k hk => wit_at hgx hX fun w hw => ?_
    obtain ⟨heff, hno⟩ := wit_facts hX hxl hk hw
    have hk6 := hk.six hn1 hxl hX.d5
    have hwl := heff.len
    have hwb : ∀ v, v < n → 0 ≤ gi w v ∧ gi w v ≤ 6 := fun v hv => by have := heff.pos v hv; have := heff.le hv; omega
    refine ⟨True, fun _ => ?_, fun _ => ⟨fun _ => ⟨fun q => by omega, fun _ => ⟨fun q => by omega, fun _ => ⟨fun _ => trivial, fun q => absurd (by omega) q⟩⟩⟩, fun q => absurd rfl q⟩, fun q => absurd rfl q⟩
    refine p_chips_Sub' (n := n) (by omega) hxl hwl (fun j hj => by have := hxb j hj; omega) (fun j hj => by have := hwb j hj; omega) ?_
    have hsb2 : tab (fun i => gi x i - gi w i) n = sb n x w := rfl
    rw [hsb2]
    have hbb : ∀ v, v < n → -200 ≤ gi (sb n x w) v ∧ gi (sb n x w) v ≤ 200 := fun v hv => by
      rw [yff hv]
      have := hxb v hv
      have := hwb v hv
      omega
    refine ycI (.inl (G.small hbb)) (by rw [ycd]; omega) (fun q => absurd (G.giv (ycd _ _ _) fun v hv => by have := hbb v hv; omega) q) fun _ y s hs b hb => ?_
    simp only [Int.toNat_natCast] at hs hb
    refine ⟨True, fun _ => ⟨T k, id, fun hpos => ?_, fun _ => hT k hk⟩, fun _ => ⟨fun _ => less_ok hX hgx hxl hk hw hs ⟨fun _ => trivial, fun q => absurd rfl q⟩, fun q => absurd rfl q⟩, fun q => absurd rfl q⟩
    refine ygO (by omega) (fun q => absurd hgx q) (fun _ q => absurd hpos (by omega)) fun _ _ => ⟨by rw [Int.toNat_natCast]; exact hX, fun k3 hk3 => ?_⟩
    rw [Int.toNat_natCast] at hk3 ⊢
    have e := hk3.eq hn1 hk
    subst e
    refine ⟨fun q => by omega, fun _ out hout => ⟨True, fun _ => hT k3 hk, fun _ => p_rank_Verify (by omega) ?_ (fun _ => by omega) ⟨fun _ => trivial, fun q => absurd ?_ q⟩, fun q => absurd rfl q⟩⟩
    · obtain ⟨N, rfl⟩ : ∃ N, n = N + 1 := ⟨n - 1, by omega⟩
      have := yhM (n := N) (k := k3.toNat) (by omega) (by omega)
      rw [hout.len]; omega
    · obtain ⟨r3, rfl⟩ : ∃ r3 : Nat, k3 = (r3 : Int) := ⟨k3.toNat, by omega⟩
      exact cert_ver hX hgx (by omega) hk.al hout
  refine ⟨fun m v v2 => ∃ j : Nat, v2 = (j : Int) ∧ j ≤ 2 ∧ m = 2 - j ∧ v.length = j ∧ (0 < j → RkOk n es d (gi v 0)) ∧ (1 < j → RkOk n es (sb n (canF n es) d) (gi v 1)), ⟨2, 0, rfl, by omega, rfl, rfl, fun q => absurd q (by omega), fun q => absurd q (by omega)⟩, ?_⟩
  rintro m v _ ⟨j, rfl, hj, rfl, hvl, h0, h1⟩
  simp only [Int.toNat_natCast, List.length_cons, List.length_nil]
  refine ⟨fun hlt => ⟨by omega, ?_⟩, fun hge => ?_⟩
  · rcases (by omega : j = 0 ∨ j = 1) with rfl | rfl
    · have g0 : gx [d, sb n (canF n es) d] 0 = d := rfl
      rw [g0]
      refine both (Fl := false = true) (T := fun r9 => v.length + 1 ≤ 1000000000 ∧ In64 (((0 : Nat) : Int) + 1) ∧ ∃ m3, m3 < 2 - 0 ∧ ∃ j : Nat, ((0 : Nat) : Int) + 1 = (j : Int) ∧ j ≤ 2 ∧ m3 = 2 - j ∧ (v ++ [r9]).length = j ∧ (0 < j → RkOk n es d (gi (v ++ [r9]) 0)) ∧ (1 < j → RkOk n es (sb n (canF n es) d) (gi (v ++ [r9]) 1))) d hD hg hdl hdb fun k hk => ⟨by omega, i64 (by omega), 1, by omega, 1, rfl, by omega, rfl, by simp [hvl], fun _ => ?_, fun q => absurd q (by omega)⟩
      have e : v = [] := List.length_eq_zero_iff.1 hvl
      subst e; exact hk
    · have g0 : gx [d, sb n (canF n es) d] 1 = sb n (canF n es) d := rfl
      rw [g0]
      refine both (Fl := false = true) (T := fun r9 => v.length + 1 ≤ 1000000000 ∧ In64 (((1 : Nat) : Int) + 1) ∧ ∃ m3, m3 < 2 - 1 ∧ ∃ j : Nat, ((1 : Nat) : Int) + 1 = (j : Int) ∧ j ≤ 2 ∧ m3 = 2 - j ∧ (v ++ [r9]).length = j ∧ (0 < j → RkOk n es d (gi (v ++ [r9]) 0)) ∧ (1 < j → RkOk n es (sb n (canF n es) d) (gi (v ++ [r9]) 1))) (sb n (canF n es) d) hD2 hg2 hyl hyb fun k hk => ⟨by omega, i64 (by omega), 0, by omega, 2, rfl, by omega, rfl, by simp [hvl], fun _ => ?_, fun _ => ?_⟩
      · obtain ⟨a, rfl⟩ : ∃ a, v = [a] := List.length_eq_one_iff.1 hvl
        exact h0 (by omega)
      · obtain ⟨a, rfl⟩ : ∃ a, v = [a] := List.length_eq_one_iff.1 hvl
        exact hk
  · have e : j = 2 := by omega
    subst e
    have k1 := h0 (by omega)
    have k2 := h1 (by omega)
    have h16 := k1.six hn1 hdl hD.d5
    have h26 := k2.six hn1 hyl hD2.d5
    have hrr := rr G.g G.C hn1 (by omega) hdl (fun v hv => by have := hdb v hv; omega) G.tot k1 (by omega) k2 (by omega)
    have e0 : (0 : Int).toNat = 0 := rfl
    have e1 : (1 : Int).toNat = 1 := rfl
    rw [e0, e1]
    refine ⟨by omega, by omega, i64 (by omega), ycO (by omega) (fun i hi => by have := hdb i (by omega); omega) ⟨i64 ?_, i64 ?_, fun _ => yjK rfl, fun q => absurd hrr q⟩⟩
    · have hdd := yc0 (f := gi d) (B := 100) (by omega) (n := n) fun i hi => hdb i hi
      rw [← dg_n hdl] at hdd
      omega
    · have hdd := yc0 (f := gi d) (B := 100) (by omega) (n := n) fun i hi => hdb i hi
      rw [← dg_n hdl] at hdd
      have ht := G.tot
      have ht2 : 0 ≤ tot n es := yaX fun v _ => yaX fun u _ => ya4 G.E v u
      rw [ygF G.E] at ht ht2
      omega
end Go.Proofs.YtmeoemmemjipdaaGreat
