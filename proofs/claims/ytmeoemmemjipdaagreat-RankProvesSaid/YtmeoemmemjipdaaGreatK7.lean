/- Texts laid together: SpG, SpW, SpP, SpF, L36, SpN, RkM, RkF, RkG, RkW, RkR, RkV, PRb, L38, RkP. -/
import Derived.Test.YtmeoemmemjipdaaGreatK6
/- What the pure forms of chips, graph and firing come to. -/
namespace Go.Proofs.YtmeoemmemjipdaaGreat
open Go Go.Proofs.Tryz
set_option linter.unusedVariables false
set_option linter.unusedSimpArgs false
theorem yjA {k : Int} {R : Bool → Prop} (h : R (inF k)) : yct k R := by
  unfold yct
  refine ⟨fun h1 => ?_, fun h1 => ?_⟩
  · have e : decide (k ≤ 1048576) = inF k := by unfold inF; simp [h1]
    rw [e]; exact h
  · have e : false = inF k := by unfold inF; simp [h1]
    rw [e]; exact h
theorem ygE {d : List Int} {n : Int} {R : Int → Prop} (h : R (yaM d n)) : ych d n R := by
  unfold ych ycB
  have hout : ¬ (1 ≤ n ∧ n ≤ 12) → R 2 := fun q => by
    have : yaM d n = 2 := by unfold yaM yfs; rw [if_neg q, if_neg (by omega)]
    rwa [this] at h
  refine ⟨fun q => ⟨fun q2 => absurd q2 (by omega), fun _ => hout (by omega)⟩, fun q => ⟨fun q2 => ⟨fun q3 => absurd q3 (by omega), fun _ => hout (by omega)⟩, fun q2 => ⟨fun _ => ?_, fun q3 => absurd rfl q3⟩⟩⟩
  have hc : yaM d n = if (d.length : Int) = n then (if d.all inF then 0 else 2) else 8 := by unfold yaM; rw [if_pos (by unfold yfs; rw [if_pos (by omega)])]
  rw [hc] at h
  refine ⟨fun hln => ?_, fun hln => by rwa [if_neg hln] at h⟩
  rw [if_pos hln] at h
  refine ⟨Cnt d.length (fun k => ∀ j, j < k → inF (gi d j) = true), Cnt.start (fun j hj => absurd hj (by omega)), ?_⟩
  rintro m _ ⟨k, rfl, rfl, hk, hinv⟩
  refine ⟨fun hlt => ⟨by omega, yjA ⟨fun h1 => Cnt.next (by omega) (by omega) fun j hj => ?_, fun h1 => ?_⟩⟩, fun hge => ?_⟩
  · by_cases e : j = k
    · subst e; simpa using h1
    · exact hinv j (by omega)
  · rw [if_neg (fun hall => h1 ((ycQ inF d).1 hall _ (by omega)))] at h; exact h
  · rw [if_pos ((ycQ inF d).2 fun j hj => hinv j (by omega))] at h; exact h
theorem yge {n v : Int} {R : Bool → Prop} (h : R (decide (0 ≤ v ∧ v < n))) : yb1 n v R := by
  unfold yb1
  refine ⟨fun h1 => ?_, fun h1 => ?_⟩
  · have e : decide (v < n) = decide (0 ≤ v ∧ v < n) := by simp [h1]
    rw [e]; exact h
  · have e : false = decide (0 ≤ v ∧ v < n) := by simp [h1]
    rw [e]; exact h
theorem ygD {a b : Int} {R : Int → Prop} (h : R (cmpF a b)) : ybt a b R := by
  unfold ybt ycf
  unfold cmpF at h
  refine ⟨fun q => absurd q (by simp), fun _ => ⟨fun q => absurd q (by simp), fun _ => ⟨fun h1 => by rwa [if_pos h1] at h, fun h1 => ?_⟩⟩⟩
  rw [if_neg h1] at h
  refine ⟨fun h2 => by rwa [if_pos h2] at h, fun h2 => by rwa [if_neg h2] at h⟩
theorem p_cmp_Or2 {x y : Int} {R : Int → Prop} (h : R (orF x y)) : ydb [x, y] R := by
  unfold ydb
  unfold orF at h
  refine ⟨Cnt 2 (fun k => ∀ j, j < k → gi [x, y] j = 0), Cnt.start (fun j hj => absurd hj (by omega)), ?_⟩
  rintro m _ ⟨k, rfl, rfl, hk, hinv⟩
  simp only [Int.toNat_natCast, List.length_cons, List.length_nil]
  have hk3 : k = 0 ∨ k = 1 ∨ k = 2 := by omega
  have g0 : gi [x, y] 0 = x := rfl
  have g1 : gi [x, y] 1 = y := rfl
  have hnx : gi [x, y] k = 0 → ∀ j, j < k + 1 → gi [x, y] j = 0 := fun q j hj => by
    by_cases e : j = k
    · subst e; exact q
    · exact hinv j (by omega)
  refine ⟨fun hlt => ⟨by omega, fun q => Cnt.next (by omega) (by omega) (hnx q), fun q => ?_⟩, fun hge => ?_⟩
  · rcases hk3 with rfl | rfl | rfl
    · rw [g0] at q ⊢; rwa [if_pos q] at h
    · have h0 := hinv 0 (by omega)
      rw [g0] at h0
      rw [g1]; rwa [if_neg (fun q2 => q2 h0)] at h
    · exact absurd hlt (by omega)
  · have : k = 2 := by omega
    subst this
    have h0 := hinv 0 (by omega)
    have h1 := hinv 1 (by omega)
    rw [g0] at h0
    rw [g1] at h1
    rw [if_neg (fun q2 => q2 h0), h1] at h; exact h
theorem p_pair_compare {a b c d : Int} {R : Int → Prop} (h : R (yft a b c d)) : ybO a b c d R :=
  ygD (ygD (p_cmp_Or2 h))
theorem ygw {n : Int} {es : List E3} {R : Int → Prop} (hl : es.length ≤ 1000000000) (h : R (yat n es)) : yci n es R := by
  unfold yci
  have hout : ¬ (1 ≤ n ∧ n ≤ 12) → R 2 := fun q => by unfold yat at h; rwa [if_neg q] at h
  refine ⟨1 ≤ n ∧ n ≤ 12, fun hn => ?_, fun q => hout (by omega), fun q => ⟨fun q2 => hout (by omega), fun q2 => ⟨by omega, by omega⟩⟩⟩
  have hg : yat n es = gchk n (-1) (-1) es := by unfold yat; rw [if_pos hn]
  rw [hg] at h
  refine ⟨fun m i a b => Cnt es.length (fun k => a = (pre es k).1 ∧ b = (pre es k).2 ∧ gchk n (-1) (-1) es = gchk n (pre es k).1 (pre es k).2 (es.drop k)) m i, Cnt.start ⟨rfl, rfl, rfl⟩, ?_⟩
  rintro m _ _ _ ⟨k, rfl, rfl, hk, rfl, rfl, hinv⟩
  simp only [Int.toNat_natCast]
  refine ⟨fun hlt => ⟨by omega, ?_⟩, fun hge => ?_⟩
  · have hlt : k < es.length := by omega
    rw [ygY hlt, yfF] at hinv
    generalize hx : ge es k = x at hinv ⊢
    have hed : R (if ygl n (pre es k).1 (pre es k).2 x = 0 then gchk n x.1 x.2.1 (es.drop (k + 1)) else ygl n (pre es k).1 (pre es k).2 x) := by rw [← hinv]; exact h
    have h2 : ¬ ((0 ≤ x.1 ∧ x.1 < n) ∧ (0 ≤ x.2.1 ∧ x.2.1 < n) ∧ 1 ≤ x.2.2 ∧ x.2.2 ≤ 50) → R 2 := fun q => by
      unfold ygl at hed; rw [if_neg q, if_neg (by omega)] at hed; exact hed
    refine ⟨(0 ≤ x.1 ∧ x.1 < n) ∧ (0 ≤ x.2.1 ∧ x.2.1 < n) ∧ 1 ≤ x.2.2 ∧ x.2.2 ≤ 50, fun hJ => ?_, yge ⟨fun q1 => yge ⟨fun q2 => ⟨fun q3 => h2 (by omega), fun q3 => ⟨fun q4 => h2 (by omega), fun q4 => ?_⟩⟩, fun q2 => h2 (by simp at q2; omega)⟩, fun q1 => h2 (by simp at q1; omega)⟩⟩
    · have he : ygl n (pre es k).1 (pre es k).2 x = if x.1 ≤ x.2.1 ∧ yft (pre es k).1 (pre es k).2 x.1 x.2.1 < 0 then 0 else 9 := by unfold ygl; rw [if_pos hJ]
      rw [he] at hed hinv
      refine ⟨fun q => ?_, fun q => p_pair_compare ⟨fun q2 => ?_, fun q2 => Cnt.next hlt (by omega) ⟨?_, ?_, ?_⟩⟩⟩
      · rw [if_neg (show ¬ (x.1 ≤ x.2.1 ∧ _) by omega), if_neg (by omega)] at hed; exact hed
      · rw [if_neg (show ¬ (x.1 ≤ x.2.1 ∧ _) by omega), if_neg (by omega)] at hed; exact hed
      · simp [pre, hx]
      · simp [pre, hx]
      · have hc : x.1 ≤ x.2.1 ∧ yft (pre es k).1 (pre es k).2 x.1 x.2.1 < 0 := ⟨by omega, by omega⟩
        rw [if_pos hc, if_pos rfl] at hinv
        rw [hinv]
        simp [pre, hx]
    · simp only [decide_eq_true_eq] at q1 q2
      exact ⟨q1, q2, by omega, by omega⟩
  · have hk2 : k = es.length := by omega
    rw [hinv, hk2, List.drop_length] at h
    exact h
def e1 (x : E3) (s : Nat → Int) (v : Nat) : Int := (if (v : Int) = x.1 then x.2.2 * (s x.1.toNat - s x.2.1.toNat) else 0) - (if (v : Int) = x.2.1 then x.2.2 * (s x.1.toNat - s x.2.1.toNat) else 0)
section
variable {n : Nat} {es : List E3} {d s : List Int}
end
end Go.Proofs.YtmeoemmemjipdaaGreat

/- What the pure forms of 'effective' and of its reference come to. -/
namespace Go.Proofs.YtmeoemmemjipdaaGreat
open Go Go.Proofs.Tryz
set_option linter.unusedVariables false
set_option linter.unusedSimpArgs false
theorem p_r36_debtor {d : List Int} {R : Int → Prop} (hl : d.length ≤ 1000000000) (h1 : (∀ v, v < d.length → 0 ≤ gi d v) → R (-1)) (h2 : ∀ v : Nat, v < d.length → gi d v < 0 → R v) : yc1 d R := by
  unfold yc1
  refine ⟨Cnt d.length (fun k => ∀ j, j < k → 0 ≤ gi d j), Cnt.start (fun j hj => absurd hj (by omega)), ?_⟩
  rintro m _ ⟨k, rfl, rfl, hk, hinv⟩
  simp only [Int.toNat_natCast]
  refine ⟨fun hlt => ⟨by omega, fun h => h2 k (by omega) h, fun h => Cnt.next (by omega) (by omega) fun j hj => ?_⟩, fun hge => h1 fun v hv => hinv v (by omega)⟩
  by_cases e : j = k
  · subst e; omega
  · exact hinv j (by omega)
theorem p_r36_all {l : List Bool} {R : Bool → Prop} (hl : l.length ≤ 1000000000) (h1 : (∀ v, v < l.length → gb l v = true) → R true) (h2 : ∀ v, v < l.length → gb l v ≠ true → R false) : yeJ l R := by
  unfold yeJ
  refine ⟨Cnt l.length (fun k => ∀ j, j < k → gb l j = true), Cnt.start (fun j hj => absurd hj (by omega)), ?_⟩
  rintro m _ ⟨k, rfl, rfl, hk, hinv⟩
  simp only [Int.toNat_natCast]
  refine ⟨fun hlt => ⟨by omega, fun h => Cnt.next (by omega) (by omega) fun j hj => ?_, fun h => h2 k (by omega) h⟩, fun hge => h1 fun v hv => hinv v (by omega)⟩
  by_cases e : j = k
  · subst e; exact h
  · exact hinv j (by omega)
theorem win_dg {n : Nat} {es : List E3} {d : List Int} (hd : d.length = n) (h : Win n es d) : 0 ≤ dg d := by
  obtain ⟨s, hs⟩ := h
  have h1 : 0 ≤ sm n (fun v => gi d v - Lp n es s v) := yaX hs
  rw [yeD, yfb] at h1
  unfold dg
  rw [hd]; omega
theorem conn_all {n : Nat} {es : List E3} (hg : yat n es = 0) (hc : ycJ n es = true) : ∀ q, q < n → Conn n es q := fun q hq => by
  obtain ⟨hE, hn1, hn12⟩ := yba hg
  exact (ygK hE hn1 hn12 hq).1 hc
theorem p_r36_Wins {n : Nat} {es : List E3} {d : List Int} {R : Bool → Prop} (hl : es.length ≤ 1000) (hg : yat n es = 0) (hc : ycJ n es = true) (hd : d.length = n) (hb : ∀ v, v < n → -1000 ≤ gi d v ∧ gi d v ≤ 1000)
    (h1 : Win n es d → R true) (h2 : ¬ Win n es d → R false) : yd0 (n : Int) es d R := by
  obtain ⟨hE, hn1, hn12⟩ := yba hg
  have hC := conn_all hg hc
  unfold yd0
  refine ycO (by omega) (fun i hi => by have := hb i (by omega); omega) ⟨fun h0 => h2 fun hw => ?_, fun h0 => ⟨by omega, by omega, ?_⟩⟩
  · have := win_dg hd hw; omega
  simp only [Int.toNat_natCast, List.nil_append]
  refine ⟨fun m step x b => ∃ c : Nat → Int, Bor n es d c x b ∧ step = sm n c ∧ m = (4000000 - step).toNat ∧ step ≤ 3500000 ∧ ∀ v, v < n → -2000000000 ≤ gi x v, ⟨_, fun _ => 0, bor_start hd (fun v hv => (hb v hv).2), (ybr n).symm, rfl, by omega, fun v hv => by have := hb v hv; omega⟩, ?_⟩
  rintro m _ x b ⟨c, hB, rfl, rfl, hst, hlo⟩
  refine ⟨fun _ => ?_, fun h => absurd (show sm n c < 10000000 by omega) h⟩
  refine p_r36_debtor (by have := hB.xl; omega) (fun hall => ⟨fun _ => h1 (bor_win hB fun v hv => hall v (by have := hB.xl; omega)), fun h => absurd (by omega) h⟩) (fun v hv hneg => ⟨fun h => absurd h (by omega), fun _ => ?_⟩)
  have hvn : v < n := by have := hB.xl; omega
  refine p_r36_all (by have := hB.bl; omega) (fun hall => ⟨fun _ => h2 (bor_loss hn1 hB fun v hv => hall v (by have := hB.bl; omega)), fun h => absurd rfl h⟩) (fun w hw hwn => ⟨fun h => (by cases h), fun _ => ?_⟩)
  have hwn' : w < n := by have := hB.bl; omega
  have hfew := bor_few hE hC hn12 (fun v hv => (hb v hv).1) hB hwn' hwn
  have htot := bor_total hn12 hfew
  have h0c : 0 ≤ sm n c := yaX hB.c0
  refine ⟨by have := hB.bl; omega, fun m u y => Cnt n (fun k => y.length = n ∧ ∀ i, i < n → gi y i = if i = v then gi x v + sm k (fun u => W es v u) else if i < k then gi x i - W es i v else gi x i) m u, Cnt.start ⟨hB.xl, fun i hi => ?_⟩, ?_⟩
  · by_cases e : i = v
    · subst e; rw [if_pos rfl]; simp [sm]
    · rw [if_neg e, if_neg (by omega)]
  rintro m' _ y ⟨k, rfl, rfl, hk, hyl, hy⟩
  simp only [Int.toNat_natCast]
  have hup := hB.up
  have hdk := yfU hg k v
  refine ⟨fun hlt => ⟨fun e => Cnt.next (by omega) (by omega) ⟨hyl, fun i hi => ?_⟩, fun e => ⟨by omega, ?_⟩⟩, fun hge => ?_⟩
  · have e : k = v := by omega
    subst e
    rw [hy i hi]
    by_cases e2 : i = k
    · subst e2; rw [if_pos rfl, if_pos rfl, sm, yfK]; omega
    · rw [if_neg e2, if_neg e2]
      by_cases e3 : i < k
      · rw [if_pos e3, if_pos (by omega)]
      · rw [if_neg e3, if_neg (by omega)]
  · have hkn : k < n := by omega
    have hkv : k ≠ v := by omega
    have hW := ygS hg k v
    have hyk : gi y k = gi x k := by rw [hy k hkn, if_neg hkv, if_neg (by omega)]
    have hyv : gi y v = gi x v + sm k (fun u => W es v u) := by rw [hy v hvn, if_pos rfl]
    have hxk := hup k hkn
    have hlk := hlo k hkn
    have hxv := hlo v hvn
    refine ycy (by omega) hg hkv ⟨i64 (by rw [hyk]; omega), by rw [List.length_set]; omega, ycy (by omega) hg hkv ⟨i64 ?_, Cnt.next (by omega) (by omega) ⟨by simp [hyl], fun i hi => ?_⟩⟩⟩
    · rw [ybi (by omega), if_neg (fun e => hkv e.symm), hyv]; omega
    · rw [ybi (by rw [List.length_set]; omega)]
      by_cases e2 : i = v
      · subst e2
        rw [if_pos rfl, if_pos rfl, ybi (by omega), if_neg (fun e => hkv e.symm), hyv, sm, ydG es i k]; omega
      · rw [if_neg e2, if_neg e2, ybi (by omega)]
        by_cases e3 : i = k
        · subst e3; rw [if_pos rfl, if_pos (by omega), hyk]
        · rw [if_neg e3, hy i hi, if_neg e2]
          by_cases e4 : i < k
          · rw [if_pos e4, if_pos (by omega)]
          · rw [if_neg e4, if_neg (by omega)]
  · have hkn : k = n := by omega
    subst hkn
    have hB2 := bor_step hg hE hn12 hB hvn hneg hyl (fun i hi => by
      rw [hy i hi]
      by_cases e : i = v
      · rw [if_pos e, if_pos e]; rfl
      · rw [if_neg e, if_neg e, if_pos hi])
    have hcnt := bor_count (c := c) hvn
    refine ⟨i64 (by omega), (4000000 - (sm k c + 1)).toNat, by omega, _, hB2, hcnt.symm, rfl, by omega, fun i hi => ?_⟩
    have h3 := hB2.val i hi
    have h4 := hb i hi
    have h5 := yc0 (f := fun u => W es i u * ((c i + if i = v then 1 else 0) - (c u + if u = v then 1 else 0))) (B := 20000000) (by omega) (n := k) fun u hu => by
      have hw := ygS hg i u
      have a1 := hB.c0 i hi
      have a2 := hB.c0 u hu
      have a3 := hfew i hi
      have a4 := hfew u hu
      have hx : -300000 ≤ (c i + if i = v then 1 else 0) - (c u + if u = v then 1 else 0) ∧ (c i + if i = v then 1 else 0) - (c u + if u = v then 1 else 0) ≤ 300000 := by
        split <;> split <;> omega
      show -20000000 ≤ W es i u * _ ∧ W es i u * _ ≤ 20000000
      generalize (c i + if i = v then 1 else 0) - (c u + if u = v then 1 else 0) = z at hx ⊢
      generalize W es i u = w at hw ⊢
      have h4 : w * z ≤ w * 300000 := Int.mul_le_mul_of_nonneg_left hx.2 hw.1
      have h5 : w * -300000 ≤ w * z := Int.mul_le_mul_of_nonneg_left hx.1 hw.1
      omega
    have h6 : Lp k es (fun j => c j + if j = v then 1 else 0) i = sm k (fun u => W es i u * ((c i + if i = v then 1 else 0) - (c u + if u = v then 1 else 0))) := rfl
    rw [h3, h6]
    omega
def yeX (d : List Int) (v : Nat) (k : Int) : List Int := d.set v (gi d v + k)
theorem yep (d : List Int) (v : Nat) (k : Int) : (yeX d v k).length = d.length := by simp [yeX]
theorem ydL {d : List Int} {v : Nat} (hv : v < d.length) (k : Int) (i : Nat) : gi (yeX d v k) i = if i = v then gi d v + k else gi d i := by unfold yeX; rw [ybi hv]
theorem dg_addAt {d : List Int} {v : Nat} (hv : v < d.length) (k : Int) : dg (yeX d v k) = dg d + k := by
  unfold dg
  rw [yep]
  have h2 : sm d.length (gi (yeX d v k)) = sm d.length (fun i => gi d i + if i = v then k else 0) := yap fun i hi => by
    rw [ydL hv]
    show _ = gi d i + if i = v then k else 0
    split
    · rename_i e; rw [e]
    · omega
  rw [h2, ybB, yc2 k hv]
theorem given0 {n : Int} {es : List E3} {d : List Int} : yaH n es 0 d = if yca n es = 0 then yaM d n else yca n es := by
  unfold yaH yca
  by_cases h1 : yat n es = 0
  · rw [if_pos h1, if_pos h1]
    have hn : 1 ≤ n := by
      unfold yat at h1
      split at h1
      · omega
      · omega
    by_cases h2 : ycJ n es = true
    · rw [if_pos h2, if_pos h2, if_pos rfl, if_pos (by omega)]
    · rw [if_neg h2, if_neg h2, if_neg (by omega)]
  · rw [if_neg h1, if_neg h1, if_neg h1]
theorem yiq {n : Int} {es : List E3} {d : List Int} {R : Int → Prop} (hl : es.length ≤ 1000000000) (h : R (yaH n es 0 d)) : ycW n es d R := by
  unfold ycW
  rw [given0] at h
  exact p_r25_Joined hl ⟨fun h0 => yiC (by rwa [if_pos h0] at h), fun h0 => by rwa [if_neg h0] at h⟩
def LossOk (n : Int) (es : List E3) (q : Int) (d s : List Int) (e : Int) : Prop :=
  (yaH n es q d ≠ 0 ∧ e = yaH n es q d) ∨ (yaH n es q d = 0 ∧ yaM s n ≠ 0 ∧ e = yaM s n) ∨
  (yaH n es q d = 0 ∧ yaM s n = 0 ∧ (Red n.toNat es q.toNat (appF n.toNat es d s) ∧ gi (appF n.toNat es d s) q.toNat < 0) ∧ e = 0) ∨
  (yaH n es q d = 0 ∧ yaM s n = 0 ∧ ¬ (Red n.toNat es q.toNat (appF n.toNat es d s) ∧ gi (appF n.toNat es d s) q.toNat < 0) ∧ e = 16)
theorem LossOk.eq {n : Int} {es : List E3} {q : Int} {d s : List Int} {e e' : Int} (h : LossOk n es q d s e) (h' : LossOk n es q d s e') : e = e' := by
  rcases h with h | h | h | h <;> rcases h' with h' | h' | h' | h' <;> first | (exact absurd h'.2.2.1 h.2.2.1) | (exact absurd h.2.2.1 h'.2.2.1) | (rw [h.2.2.2, h'.2.2.2]; done) | (rw [h.2, h'.2]; done) | (exact absurd h'.1 h.1) | (exact absurd h.1 h'.1) | (rw [h.2.2, h'.2.2]; done) | (exact absurd h'.2.1 h.2.1) | (exact absurd h.2.1 h'.2.1)
end Go.Proofs.YtmeoemmemjipdaaGreat

/- What Winnable, Price and Needy come to, and their references. -/
namespace Go.Proofs.YtmeoemmemjipdaaGreat
open Go Go.Proofs.Tryz
set_option linter.unusedVariables false
set_option linter.unusedSimpArgs false
theorem ydV {n : Nat} {es : List E3} {q : Nat} {d : List Int} (h : yaH n es q d = 0) : EOk n es ∧ 1 ≤ n ∧ n ≤ 12 ∧ yat n es = 0 ∧ ycJ n es = true ∧ q < n ∧ d.length = n ∧ yaM d n = 0 := by
  obtain ⟨k1, k2, k3, k4, k5⟩ := yb0 h
  obtain ⟨hE, hn1, hn12⟩ := yba k1
  exact ⟨hE, hn1, hn12, k1, k2, by omega, (ygQ k5).1, k5⟩
theorem ycI {n : Int} {es : List E3} {d : List Int} {R : Bool → List Int → List Int → Int → Prop} (hS : Small n es d ∨ RedIn n es 0 d) (hdl : d.length ≤ 1000000000) (h0 : yaH n es 0 d ≠ 0 → R false [] [] (yaH n es 0 d))
    (h1 : yaH n es 0 d = 0 → ∀ r s, Reduces n.toNat es 0 d r s → ∀ b, (b = true ↔ Win n.toNat es d) → R b r s 0) : yaU n es d R := by
  unfold yaU
  refine ⟨hS, hdl, fun h => ⟨fun q => absurd q h, fun _ => h0 h⟩, fun h r s hr hrl hsl => ?_⟩
  obtain ⟨n, rfl⟩ : ∃ n' : Nat, n = (n' : Int) := ⟨n.toNat, by have := yb0 h; omega⟩
  obtain ⟨hE, hn1, hn12, hg, hc, -, hd, -⟩ := ydV (q := 0) h
  have e0 : (0 : Int).toNat = 0 := rfl
  simp only [Int.toNat_natCast, e0] at hr hrl hsl h1 ⊢
  refine ⟨fun _ => ⟨by omega, h1 h r s hr _ ?_⟩, fun q => absurd trivial q⟩
  rw [decide_eq_true_eq, yj7 hE (by omega) hr.red hr.lp]
structure PriceOk (n : Nat) (es : List E3) (d : List Int) (v : Nat) (k : Int) : Prop where
  pos : 0 ≤ k
  few : k = 0 ∨ k ≤ 18 - dg d
  iff : ∀ j, 0 ≤ j → (Win n es (yeX d v j) ↔ k ≤ j)
theorem PriceOk.eq {n : Nat} {es : List E3} {d : List Int} {v : Nat} {k k' : Int} (h : PriceOk n es d v k) (h' : PriceOk n es d v k') : k = k' := by
  have h1 := h.pos
  have h2 := h'.pos
  have h3 := (h'.iff k h1).1 ((h.iff k h1).2 (Int.le_refl _))
  have h4 := (h.iff k' h2).1 ((h'.iff k' h2).2 (Int.le_refl _))
  omega
theorem tot_few {n : Nat} {es : List E3} (hE : EOk n es) (hn : 1 ≤ n) (h12 : n ≤ 12) (hs : (es.map (·.2.2)).sum ≤ 9) : tot n es ≤ 18 := by
  have := tot_le hE hn h12; omega
theorem dg_lp {n : Nat} {es : List E3} {x d : List Int} {s : Nat → Int} (hx : x.length = n) (hd : d.length = n) (h : ∀ v, v < n → gi x v = gi d v - Lp n es s v) : dg x = dg d := by
  unfold dg
  rw [hx, hd, yap (g := fun v => gi d v - Lp n es s v) h, yeD, yfb]; omega
def castL (l : List Nat) : List Int := l.map fun v : Nat => (v : Int)
def yj3 (n : Nat) (es : List E3) (d : List Int) (out : List Int) : Prop := ∃ f : Nat → Bool, (∀ v, v < n → (f v = true ↔ Win n es (yeX d v 1))) ∧ out = castL ((List.range n).filter f)
theorem yj3.eq {n : Nat} {es : List E3} {d o o' : List Int} (h : yj3 n es d o) (h' : yj3 n es d o') : o = o' := by
  obtain ⟨f, hf, rfl⟩ := h
  obtain ⟨f', hf', rfl⟩ := h'
  congr 1
  refine List.filter_congr fun v hv => ?_
  rw [List.mem_range] at hv
  rw [Bool.eq_iff_iff, hf v hv, hf' v hv]
end Go.Proofs.YtmeoemmemjipdaaGreat

/- What firing a set comes to. -/
namespace Go.Proofs.YtmeoemmemjipdaaGreat
open Go Go.Proofs.Tryz
set_option linter.unusedVariables false
set_option linter.unusedSimpArgs false
section
variable {n : Nat} {es : List E3} {d : List Int} {set : List Int}
end
end Go.Proofs.YtmeoemmemjipdaaGreat

/- Words for the laws of layer 36: what its small functions come to; the chapter's examples come out right. -/
namespace Go.Proofs.YtmeoemmemjipdaaGreat
open Go Go.Proofs.Tryz
set_option linter.unusedVariables false
set_option linter.unusedSimpArgs false
theorem red_of_dec {n : Nat} {es : List E3} {q : Nat} {d : List Int} (hq : q < n) (h1 : ∀ v, v < n → v ≠ q → 0 ≤ gi d v) (h2 : ∀ m, m < 2 ^ n → 1 ≤ m → m.testBit q = false → ¬ (∀ v, v < n → m.testBit v = true → outS n es m.testBit v ≤ gi d v)) : Red n es q d :=
  (yig hq h1).1 fun m a b c => h2 m b a c
end Go.Proofs.YtmeoemmemjipdaaGreat

/- What the pure forms of sums, of equivalence and of lists of divisors come to. -/
namespace Go.Proofs.YtmeoemmemjipdaaGreat
open Go Go.Proofs.Tryz
set_option linter.unusedVariables false
set_option linter.unusedSimpArgs false
theorem yj6 {n : Nat} {l : List (List Int)} {R : Int → Prop} (hl : l.length ≤ 1000) (h0 : 0 < l.length) (hd : ∀ k, k < l.length → (gx l k).length = n ∧ yaM (gx l k) n = 0) (h : R 0) : ydz l R := by
  unfold ydz
  refine ⟨Cnt l.length (fun _ => True), Cnt.start trivial, ?_⟩
  rintro m _ ⟨k, rfl, rfl, hk, -⟩
  simp only [Int.toNat_natCast]
  refine ⟨fun hlt => ⟨by omega, ygE ⟨fun _ => Cnt.next (by omega) (by omega) trivial, fun q => absurd ?_ q⟩⟩, fun hge => ?_⟩
  · rw [(hd k (by omega)).1]; exact (hd k (by omega)).2
  · refine ⟨Cnt l.length (fun _ => True), Cnt.start trivial, ?_⟩
    rintro m _ ⟨k2, rfl, rfl, hk2, -⟩
    simp only [Int.toNat_natCast, Int.toNat_zero]
    exact ⟨fun hlt => ⟨by omega, by omega, fun _ => Cnt.next (by omega) (by omega) trivial, fun q => absurd (by rw [(hd k2 (by omega)).1, (hd 0 h0).1]) q⟩, fun hge => h⟩
theorem sum_dg : ∀ (d : List Int), d.sum = dg d := by
  have key : ∀ (l : List Int) (n : Nat), n ≤ l.length → sm n (gi l) = (l.take n).sum := fun l n => by
    induction n with
    | zero => intro _; simp [sm]
    | succ n ih =>
      intro h
      rw [sm, ih (by omega), List.take_add_one, List.sum_append, ybb (by omega : n < l.length), List.getElem?_eq_getElem (by omega : n < l.length)]
      simp
  intro d
  unfold dg
  rw [key d d.length (Nat.le_refl _), List.take_length]
theorem gi_drop (d : List Int) (k i : Nat) : gi (d.drop k) i = gi d (k + i) := by unfold gi; simp
theorem dg_entry {d : List Int} (h : ∀ a ∈ d, 0 ≤ a) {j : Nat} (hj : j < d.length) : 0 ≤ gi d j ∧ gi d j ≤ d.sum := by
  have h1 : ∀ i, i < d.length → 0 ≤ gi d i := fun i hi => h _ (gi_mem hi)
  refine ⟨h1 j hj, ?_⟩
  rw [sum_dg]
  exact yhy h1 j hj
theorem yei (n k : Nat) : (ybG (n + 1) k).length ≤ (k + 1) ^ n := by
  induction n generalizing k with
  | zero => simp [ybG]
  | succ n ih =>
    show ((List.range (k + 1)).flatMap fun i => (ybG (n + 1) (k - i)).map ((i : Int) :: ·)).length ≤ _
    rw [List.length_flatMap]
    have h : ∀ (L : List Nat), (∀ i ∈ L, i ≤ k) → (L.map fun i => ((ybG (n + 1) (k - i)).map ((i : Int) :: ·)).length).sum ≤ L.length * (k + 1) ^ n := fun L => by
      induction L with
      | nil => simp
      | cons a L ihL =>
        intro hL
        have h1 := ihL fun i hi => hL i (by simp [hi])
        have h2 := ih (k - a)
        have h3 : (k - a + 1) ^ n ≤ (k + 1) ^ n := Nat.pow_le_pow_left (by omega) n
        simp only [List.map_cons, List.sum_cons, List.length_cons, List.length_map] at h1 ⊢
        rw [Nat.add_mul, Nat.one_mul]
        omega
    have := h (List.range (k + 1)) fun i hi => by rw [List.mem_range] at hi; omega
    rw [List.length_range] at this
    rwa [Nat.pow_succ, Nat.mul_comm]
end Go.Proofs.YtmeoemmemjipdaaGreat

/- Ranks of divisors, plainly: what takes any effective divisor of a degree away. No program in sight. -/
namespace Go.Proofs.YtmeoemmemjipdaaGreat
open Go Go.Proofs.Tryz
set_option linter.unusedVariables false
set_option linter.unusedSectionVars false
set_option linter.unusedSimpArgs false
theorem dg_n {d : List Int} {n : Nat} (h : d.length = n) : dg d = sm n (gi d) := by unfold dg; rw [h]
theorem ygT {n : Nat} {es : List E3} {a b : List Int} (h : ∀ v, v < n → gi a v ≤ gi b v) (ha : Win n es a) : Win n es b := by
  obtain ⟨s, hs⟩ := ha
  exact ⟨s, fun v hv => by have := hs v hv; have := h v hv; omega⟩
theorem win_eqv {n : Nat} {es : List E3} {x y : List Int} {s : Nat → Int} (h : ∀ v, v < n → gi y v = gi x v - Lp n es s v) : Win n es x ↔ Win n es y := by
  constructor
  · rintro ⟨t, ht⟩
    refine ⟨fun i => t i + (-1) * s i, fun v hv => ?_⟩
    rw [yfC t (fun i => (-1) * s i), ygu, h v hv]
    have := ht v hv
    omega
  · rintro ⟨t, ht⟩
    refine ⟨fun i => t i + s i, fun v hv => ?_⟩
    rw [yfC t s]
    have := ht v hv
    rw [h v hv] at this
    omega
def half (n : Nat) (es : List E3) (r : Nat → Nat → Bool) : Int := sm n (fun v => sm n (fun u => if r u v = true then W es v u else 0))
theorem yjZ {n : Nat} {es : List E3} {r : Nat → Nat → Bool} : half n es r = half n es (fun u v => r v u) := by
  unfold half
  rw [yg7 (fun v u => if r u v = true then W es v u else 0)]
  refine yap fun v hv => yap fun u hu => ?_
  show (if r v u = true then W es u v else 0) = if r v u = true then W es v u else 0
  rw [ydG]
theorem half_le {n : Nat} {es : List E3} (hE : EOk n es) {r : Nat → Nat → Bool} (h : ∀ u v, r u v = true → r v u = true → False) : 2 * half n es r ≤ tot n es := by
  have h1 : half n es r + half n es r ≤ tot n es := by
    conv => lhs; arg 2; rw [yjZ]
    unfold half tot
    rw [← ybB]
    refine ydc fun v hv => ?_
    show _ + _ ≤ _
    rw [← ybB]
    refine ydc fun u hu => ?_
    show (if r u v = true then W es v u else 0) + (if r v u = true then W es v u else 0) ≤ W es v u
    have := ya4 hE v u
    by_cases e1 : r u v = true
    · rw [if_pos e1, if_neg (fun e2 => h u v e1 e2)]; omega
    · rw [if_neg e1]; split <;> omega
  omega
theorem half_ge {n : Nat} {es : List E3} (hE : EOk n es) {r : Nat → Nat → Bool} (h : ∀ u v, u ≠ v → r u v = true ∨ r v u = true) : tot n es ≤ 2 * half n es r := by
  have h1 : tot n es ≤ half n es r + half n es r := by
    conv => rhs; arg 2; rw [yjZ]
    unfold half tot
    rw [← ybB]
    refine ydc fun v hv => ?_
    show _ ≤ _ + _
    rw [← ybB]
    refine ydc fun u hu => ?_
    show W es v u ≤ (if r u v = true then W es v u else 0) + (if r v u = true then W es v u else 0)
    have := ya4 hE v u
    by_cases e : u = v
    · subst e; rw [yfK]; split <;> omega
    · rcases h u v e with q | q
      · rw [if_pos q]; split <;> omega
      · rw [if_pos q]; split <;> omega
  omega
def ords (n : Nat) (es : List E3) (b : List Bool) (ρ : Nat → Nat) (v : Nat) : Int := sm n (fun u => if gb b u = true ∧ ¬ ρ u < ρ v then 0 else W es v u)
theorem bor_all {n : Nat} {es : List E3} {d : List Int} (hg : yat n es = 0) (hE : EOk n es) (hC : ∀ q, q < n → Conn n es q) (hn : n ≤ 12) (hdb : ∀ v, v < n → -1000 ≤ gi d v) (hw : ¬ Win n es d) :
    ∀ (N : Nat) (c : Nat → Int) (x : List Int) (b : List Bool) (ρ : Nat → Nat) (K : Nat), 3456001 - sm n c ≤ N → Bor n es d c x b → (∀ u, u < n → ρ u < K) → (∀ v, v < n → gb b v = true → gi x v ≤ ords n es b ρ v - 1) →
      ∃ c x b ρ, Bor n es d c x b ∧ (∀ v, v < n → gb b v = true) ∧ ∀ v, v < n → gi x v ≤ ords n es b ρ v - 1 := by
  intro N
  induction N with
  | zero =>
    intro c x b ρ K hN hB hρ hx
    by_cases hall : ∀ v, v < n → gb b v = true
    · exact ⟨c, x, b, ρ, hB, hall, fun v hv => hx v hv (hall v hv)⟩
    · exfalso
      obtain ⟨w, hw1⟩ := Classical.not_forall.1 hall
      obtain ⟨hw2, hw3⟩ := Classical.not_imp.1 hw1
      have := bor_total hn (bor_few hE hC hn hdb hB hw2 hw3)
      omega
  | succ N ih =>
    intro c x b ρ K hN hB hρ hx
    by_cases hall : ∀ v, v < n → gb b v = true
    · exact ⟨c, x, b, ρ, hB, hall, fun v hv => hx v hv (hall v hv)⟩
    · have hdebt : ¬ ∀ v, v < n → 0 ≤ gi x v := fun q => hw (bor_win hB q)
      obtain ⟨v, hv1⟩ := Classical.not_forall.1 hdebt
      obtain ⟨hv, hv3⟩ := Classical.not_imp.1 hv1
      have hneg : gi x v < 0 := by omega
      have hy : ∀ i, i < n → gi (tab (fun i => if i = v then gi x v + deg n es v else gi x i - W es i v) n) i = if i = v then gi x v + deg n es v else gi x i - W es i v := fun i hi => yde _ hi
      have hB2 := bor_step hg hE hn hB hv hneg (ya2 _ n) hy
      refine ih _ _ _ (fun u => if u = v then K else ρ u) (K + 1) (by rw [bor_count hv]; omega) hB2 (fun u hu => ?_) fun i hi hbi => ?_
      · show (if u = v then K else ρ u) < K + 1
        have := hρ u hu
        split <;> omega
      · rw [hy i hi]
        have hgb : ∀ u, gb (b.set v true) u = if u = v then true else gb b u := fun u => by
          rw [ydI (by rw [hB.bl]; exact hv)]
        by_cases e : i = v
        · subst e
          rw [if_pos rfl]
          have h1 : ords n es (b.set i true) (fun u => if u = i then K else ρ u) i = deg n es i := by
            unfold ords deg
            refine yap fun u hu => ?_
            show (if gb (b.set i true) u = true ∧ ¬ (if u = i then K else ρ u) < (if i = i then K else ρ i) then 0 else W es i u) = W es i u
            by_cases e : u = i
            · subst e; rw [yfK]; exact ite_self _
            · rw [if_neg]
              rintro ⟨_, h⟩
              rw [if_neg e, if_pos rfl] at h
              exact h (hρ u hu)
          rw [h1]; omega
        · rw [if_neg e]
          rw [hgb, if_neg e] at hbi
          have h0 := hx i hi hbi
          have h1 : ords n es b ρ i ≤ ords n es (b.set v true) (fun u => if u = v then K else ρ u) i + W es i v := by
            have h2 : ords n es (b.set v true) (fun u => if u = v then K else ρ u) i + W es i v = sm n (fun u => (if gb (b.set v true) u = true ∧ ¬ (if u = v then K else ρ u) < (if i = v then K else ρ i) then 0 else W es i u) + if u = v then W es i v else 0) := by
              rw [ybB, yc2 _ hv]; rfl
            rw [h2]
            unfold ords
            refine ydc fun u hu => ?_
            show (if gb b u = true ∧ ¬ ρ u < ρ i then 0 else W es i u) ≤ (if gb (b.set v true) u = true ∧ ¬ (if u = v then K else ρ u) < (if i = v then K else ρ i) then 0 else W es i u) + if u = v then W es i v else 0
            rw [hgb, if_neg e]
            have := ya4 hE i u
            by_cases e2 : u = v
            · subst e2
              rw [if_pos rfl, if_pos rfl, if_pos rfl]
              split <;> split <;> omega
            · rw [if_neg e2, if_neg e2, if_neg e2]; omega
          omega
theorem win_many {n : Nat} {es : List E3} {d : List Int} (hg : yat n es = 0) (hC : ∀ q, q < n → Conn n es q) (hn : n ≤ 12) (hd : d.length = n) (hdb : ∀ v, v < n → -1000 ≤ gi d v ∧ gi d v ≤ 1000) (h : ycE es + 1 - n ≤ dg d) : Win n es d := by
  apply Classical.byContradiction
  intro hw
  have hE := (yba hg).1
  obtain ⟨c, x, b, ρ, hB, hall, hx⟩ := bor_all hg hE hC hn (fun v hv => (hdb v hv).1) hw 3456001 (fun _ => 0) d (List.replicate n false) (fun _ => 0) 1 (by rw [ybr]; omega) (bor_start hd fun v hv => (hdb v hv).2) (fun _ _ => by omega) (fun v hv h => by rw [gb_rep] at h; cases h)
  have h1 : dg x = dg d := dg_lp (n := n) (es := es) hB.xl hd (s := fun i => (-1) * c i) fun v hv => by rw [ygu, hB.val v hv]; omega
  have h2 : dg x ≤ half n es (fun u v => decide (ρ u < ρ v)) - n := by
    rw [dg_n hB.xl]
    have h3 : half n es (fun u v => decide (ρ u < ρ v)) - n = sm n (fun v => ords n es b ρ v - 1) := by
      rw [yeD, ydp]
      have : half n es (fun u v => decide (ρ u < ρ v)) = sm n (fun v => ords n es b ρ v) := by
        unfold half ords
        refine yap fun v hv => yap fun u hu => ?_
        show (if decide (ρ u < ρ v) = true then W es v u else 0) = if gb b u = true ∧ ¬ ρ u < ρ v then 0 else W es v u
        by_cases e : ρ u < ρ v
        · rw [if_pos (by simpa using e), if_neg (fun q => q.2 e)]
        · rw [if_neg (by simpa using e), if_pos ⟨hall u hu, e⟩]
      have e9 : sm n (ords n es b ρ) = sm n (fun v => ords n es b ρ v) := rfl
      rw [this, e9]; omega
    rw [h3]
    exact ydc hx
  have h4 := half_le hE (r := fun u v => decide (ρ u < ρ v)) (fun u v a b => by simp at a b; omega)
  rw [ygF hE] at h4
  omega
def nu (n : Nat) (es : List E3) : List Int := tab (fun v => sm n (fun u => if decide (u < v) = true then W es v u else 0) - 1) n
theorem nu_dg {n : Nat} {es : List E3} (hE : EOk n es) : dg (nu n es) = ycE es - n := by
  have h1 : dg (nu n es) = half n es (fun u v => decide (u < v)) - n := by
    rw [dg_n (show (nu n es).length = n from ya2 _ n)]
    have : sm n (gi (nu n es)) = sm n (fun v => sm n (fun u => if decide (u < v) = true then W es v u else 0) - 1) := yap fun v hv => yde _ hv
    rw [this, yeD, ydp]
    show _ - _ = half n es (fun u v => decide (u < v)) - n
    have e9 : half n es (fun u v => decide (u < v)) = sm n (fun v => sm n (fun u => if decide (u < v) = true then W es v u else 0)) := rfl
    rw [e9]; omega
  have h2 := half_le hE (r := fun u v => decide (u < v)) (fun u v a b => by simp at a b; omega)
  have h3 := half_ge hE (r := fun u v => decide (u < v)) (fun u v h => by simp; omega)
  rw [ygF hE] at h2 h3
  omega
theorem least_at (p : Nat → Prop) {n : Nat} (h : ∃ v, v < n ∧ p v) : ∃ v, v < n ∧ p v ∧ ∀ u, u < v → ¬ p u := by
  obtain ⟨v, hv, hp⟩ := h
  have : ∀ v, v < n → p v → ∃ v, v < n ∧ p v ∧ ∀ u, u < v → ¬ p u := by
    intro v
    induction v using Nat.strongRecOn with
    | ind v ih =>
      intro hv hp
      by_cases q : ∃ u, u < v ∧ p u
      · obtain ⟨u, hu, hpu⟩ := q
        exact ih u hu (by omega) hpu
      · exact ⟨v, hv, hp, fun u hu hpu => q ⟨u, hu, hpu⟩⟩
  exact this v hv hp
theorem nu_lose {n : Nat} {es : List E3} (hE : EOk n es) (hn : 1 ≤ n) : ¬ Win n es (nu n es) := by
  rintro ⟨s, hs⟩
  obtain ⟨w, hw, hmax⟩ := max_at s n hn
  obtain ⟨v, hv, hp, hlow⟩ := least_at (fun v => s v = s w) (n := n) ⟨w, hw, rfl⟩
  have h1 := hs v hv
  have h2 : sm n (fun u => if decide (u < v) = true then W es v u else 0) ≤ Lp n es s v := by
    unfold Lp
    refine ydc fun u hu => ?_
    show (if decide (u < v) = true then W es v u else 0) ≤ W es v u * (s v - s u)
    have h3 := ya4 hE v u
    have h4 := hmax u hu
    by_cases e : u < v
    · rw [if_pos (by simpa using e)]
      have h5 : s u ≠ s w := hlow u e
      have h6 : W es v u * 1 ≤ W es v u * (s v - s u) := Int.mul_le_mul_of_nonneg_left (by omega) h3
      omega
    · rw [if_neg (by simpa using e)]
      exact Int.mul_nonneg h3 (by omega)
  have h3 : gi (nu n es) v = sm n (fun u => if decide (u < v) = true then W es v u else 0) - 1 := yde _ hv
  omega
theorem nu_bound {n : Nat} {es : List E3} (hE : EOk n es) {T : Int} (ht : tot n es ≤ T) {v : Nat} (hv : v < n) : -1 ≤ gi (nu n es) v ∧ gi (nu n es) v ≤ T := by
  have h3 : gi (nu n es) v = sm n (fun u => if decide (u < v) = true then W es v u else 0) - 1 := yde _ hv
  have h4 : 0 ≤ sm n (fun u => if decide (u < v) = true then W es v u else 0) := yaX fun u _ => by
    have := ya4 hE v u
    show 0 ≤ if decide (u < v) = true then W es v u else 0
    split <;> omega
  have h5 : sm n (fun u => if decide (u < v) = true then W es v u else 0) ≤ deg n es v := ydc fun u _ => by
    have := ya4 hE v u
    show (if decide (u < v) = true then W es v u else 0) ≤ W es v u
    split <;> omega
  have h6 : deg n es v ≤ tot n es := yhy (f := fun v => sm n (fun u => W es v u)) (fun i _ => yaX fun u _ => ya4 hE i u) v hv
  omega
def sb (n : Nat) (d e : List Int) : List Int := tab (fun i => gi d i - gi e i) n
theorem ycd (n : Nat) (d e : List Int) : (sb n d e).length = n := ya2 _ _
theorem yff {n : Nat} {d e : List Int} {v : Nat} (hv : v < n) : gi (sb n d e) v = gi d v - gi e v := yde _ hv
theorem dg_sb {n : Nat} {d e : List Int} (hd : d.length = n) (he : e.length = n) : dg (sb n d e) = dg d - dg e := by
  rw [dg_n (ycd n d e), dg_n hd, dg_n he, ← yeD]
  exact yap fun v hv => yff hv
structure Eff (n : Nat) (e : List Int) (r : Int) : Prop where
  len : e.length = n
  pos : ∀ v, v < n → 0 ≤ gi e v
  deg : dg e = r
theorem Eff.nonneg {n : Nat} {e : List Int} {r : Int} (h : Eff n e r) : 0 ≤ r := by
  rw [← h.deg, dg_n h.len]; exact yaX h.pos
theorem Eff.le {n : Nat} {e : List Int} {r : Int} (h : Eff n e r) {v : Nat} (hv : v < n) : gi e v ≤ r := by
  rw [← h.deg, dg_n h.len]; exact yhy h.pos v hv
theorem Eff.add {n : Nat} {e : List Int} {r : Int} (h : Eff n e r) {v : Nat} (hv : v < n) {k : Int} (hk : 0 ≤ gi e v + k) : Eff n (yeX e v k) (r + k) :=
  ⟨by rw [yep, h.len], fun i hi => by
    rw [ydL (by rw [h.len]; exact hv)]
    have := h.pos i hi
    split <;> omega, by rw [dg_addAt (by rw [h.len]; exact hv), h.deg]⟩
theorem yhU (n : Nat) : Eff n (List.replicate n 0) 0 :=
  ⟨by simp, fun v hv => by rw [ybb (by simpa using hv)]; simp, by
    rw [dg_n (n := n) (by simp), yap (g := fun _ => 0) fun v hv => by rw [ybb (by simpa using hv)]; simp]
    exact ybr n⟩
theorem eff_at {n : Nat} (hn : 1 ≤ n) {k : Int} (hk : 0 ≤ k) : Eff n (yeX (List.replicate n 0) 0 k) k := by
  have h := (yhU n).add (v := 0) (by omega) (k := k) (by have := (yhU n).pos 0 (by omega); omega)
  rwa [Int.zero_add] at h
theorem yif {n v : Nat} (hv : v < n) : gi (List.replicate n 0) v = 0 := by rw [ybb (by simpa using hv)]; simp
def AL (n : Nat) (es : List E3) (d : List Int) (r : Int) : Prop := ∀ e, Eff n e r → Win n es (sb n d e)
structure RkOk (n : Nat) (es : List E3) (d : List Int) (k : Int) : Prop where
  lo : -1 ≤ k
  al : AL n es d k
  no : ¬ AL n es d (k + 1)
section
variable {n : Nat} {es : List E3} {d : List Int}
theorem al_neg {r : Int} (hr : r < 0) : AL n es d r := fun e he => by have := he.nonneg; omega
theorem al_down (hn : 1 ≤ n) {r : Int} (h : AL n es d (r + 1)) : AL n es d r := fun e he => by
  have h1 := h _ (he.add (v := 0) (k := 1) (by omega) (by have := he.pos 0 (by omega); omega))
  refine ygT (fun v hv => ?_) h1
  rw [yff hv, yff hv, ydL (by rw [he.len]; omega)]
  split
  · rename_i e; subst e; omega
  · omega
theorem al_le (hn : 1 ≤ n) : ∀ (k : Nat) {r : Int}, AL n es d (r + k) → AL n es d r
  | 0, r, h => by simpa using h
  | k + 1, r, h => al_le hn k (al_down hn (by rw [Int.add_assoc]; exact_mod_cast h))
theorem ygN (hn : 1 ≤ n) {r r' : Int} (h : r ≤ r') (ha : AL n es d r') : AL n es d r := by
  refine al_le hn (r' - r).toNat ?_
  rwa [show r + ((r' - r).toNat : Int) = r' from by omega]
theorem RkOk.eq (hn : 1 ≤ n) {k k' : Int} (h : RkOk n es d k) (h' : RkOk n es d k') : k = k' := by
  rcases Int.lt_trichotomy k k' with q | q | q
  · exact absurd (ygN hn (by omega) h'.al) h.no
  · exact q
  · exact absurd (ygN hn (by omega) h.al) h'.no
theorem RkOk.ge (hn : 1 ≤ n) {k r : Int} (h : RkOk n es d k) : r ≤ k ↔ AL n es d r :=
  ⟨fun q => ygN hn q h.al, fun q => Int.not_lt.1 fun lt => h.no (ygN hn (by omega) q)⟩
theorem sb_zero {v : Nat} (hv : v < n) : gi (sb n d (List.replicate n 0)) v = gi d v := by rw [yff hv, yif hv]; omega
theorem al_zero : AL n es d 0 ↔ Win n es d := by
  constructor
  · intro h; exact ygT (fun v hv => by rw [sb_zero hv]; exact Int.le_refl _) (h _ (yhU n))
  · intro h e he
    refine ygT (fun v hv => ?_) h
    have h1 := he.pos v hv
    have h2 := he.le hv
    rw [yff hv]; omega
theorem rk_lose (h : ¬ Win n es d) : RkOk n es d (-1) := ⟨by omega, al_neg (by omega), fun q => h (al_zero.1 q)⟩
theorem RkOk.win (hn : 1 ≤ n) {k : Int} (h : RkOk n es d k) : 0 ≤ k ↔ Win n es d := (h.ge hn).trans al_zero
theorem RkOk.top (hn : 1 ≤ n) (hd : d.length = n) {k : Int} (h : RkOk n es d k) (hw : Win n es d) : k ≤ dg d := by
  have h0 := (h.win hn).2 hw
  have h1 := win_dg (ycd n d _) (h.al _ (eff_at hn h0))
  rw [dg_sb hd (eff_at hn h0).len, (eff_at hn h0).deg] at h1
  omega
theorem al_eqv {x y : List Int} {s : Nat → Int} (h : ∀ v, v < n → gi y v = gi x v - Lp n es s v) {r : Int} : AL n es x r ↔ AL n es y r := by
  have key : ∀ e, Win n es (sb n x e) ↔ Win n es (sb n y e) := fun e => win_eqv (s := s) fun v hv => by rw [yff hv, yff hv, h v hv]; omega
  exact ⟨fun q e he => (key e).1 (q e he), fun q e he => (key e).2 (q e he)⟩
theorem rk_eqv {x y : List Int} {s : Nat → Int} (h : ∀ v, v < n → gi y v = gi x v - Lp n es s v) {k : Int} : RkOk n es x k ↔ RkOk n es y k :=
  ⟨fun q => ⟨q.lo, (al_eqv h).1 q.al, fun a => q.no ((al_eqv h).2 a)⟩, fun q => ⟨q.lo, (al_eqv h).2 q.al, fun a => q.no ((al_eqv h).1 a)⟩⟩
theorem rk_big (hg : yat n es = 0) (hC : ∀ q, q < n → Conn n es q) (h1 : 1 ≤ n) (hn : n ≤ 12) (hd : d.length = n) (hdb : ∀ v, v < n → -200 ≤ gi d v ∧ gi d v ≤ 200) (hdg : dg d ≤ 200) (ht : tot n es ≤ 18) (h : 2 * (ycE es + 1 - n) - 2 < dg d) :
    RkOk n es d (dg d - (ycE es + 1 - n)) := by
  have hE := (yba hg).1
  have hg0 : 0 ≤ ycE es + 1 - n := by
    apply Classical.byContradiction
    intro q
    have hl : (yeX (List.replicate n (0 : Int)) 0 (-1)).length = n := by rw [yep]; simp
    have hdg1 : dg (yeX (List.replicate n (0 : Int)) 0 (-1)) = -1 := by rw [dg_addAt (by simp; omega), (yhU n).deg]; rfl
    have hw := win_many hg hC hn hl (fun v hv => by
      rw [ydL (by simp; omega), yif hv, yif (by omega)]
      split <;> omega) (by rw [hdg1]; omega)
    have := win_dg hl hw
    omega
  refine ⟨by omega, fun e he => ?_, fun hal => ?_⟩
  · refine win_many hg hC hn (ycd n d e) (fun v hv => ?_) ?_
    · rw [yff hv]
      have := he.pos v hv
      have := he.le hv
      have := hdb v hv
      omega
    · rw [dg_sb hd he.len, he.deg]; omega
  · have hnl : (nu n es).length = n := ya2 _ n
    have h2 : Win n es (sb n d (nu n es)) := by
      refine win_many hg hC hn (ycd n d _) (fun v hv => ?_) ?_
      · rw [yff hv]
        have := nu_bound hE ht hv
        have := hdb v hv
        omega
      · rw [dg_sb hd hnl, nu_dg hE]; omega
    obtain ⟨s, hs⟩ := h2
    obtain ⟨e, he⟩ : ∃ e, e = tab (fun v => gi (sb n d (nu n es)) v - Lp n es s v) n := ⟨_, rfl⟩
    have hge : ∀ v, v < n → gi e v = gi (sb n d (nu n es)) v - Lp n es s v := fun v hv => by rw [he]; exact yde _ hv
    have hel : e.length = n := by rw [he]; exact ya2 _ n
    have heff : Eff n e (dg d - (ycE es + 1 - n) + 1) := ⟨hel, fun v hv => by rw [hge v hv]; exact hs v hv, by
      rw [dg_lp hel (ycd n d _) hge, dg_sb hd hnl, nu_dg hE]; omega⟩
    have h3 := hal e heff
    refine nu_lose hE h1 ((win_eqv (x := nu n es) (y := sb n d e) (s := fun i => (-1) * s i) fun v hv => ?_).2 h3)
    rw [ygu, yff hv, hge v hv, yff hv]
    omega
theorem rk_step (hn : 1 ≤ n) (hd : d.length = n) (hw : Win n es d) {k : Nat → Int} (hk : ∀ v, v < n → RkOk n es (yeX d v (-1)) (k v)) {m : Int} (h1 : ∀ v, v < n → m ≤ k v + 1) (h2 : ∃ v, v < n ∧ m = k v + 1) : RkOk n es d m := by
  obtain ⟨v, hv, hm⟩ := h2
  refine ⟨by have := (hk v hv).lo; omega, fun e he => ?_, fun q => ?_⟩
  · by_cases e0 : m = 0
    · subst e0; exact al_zero.2 hw e he
    · have hpos : ∃ u, u < n ∧ 1 ≤ gi e u := by
        apply Classical.byContradiction
        intro q
        have : dg e ≤ 0 := by
          rw [dg_n he.len, ← ybr n]
          exact ydc fun u hu => Int.not_lt.1 fun lt => q ⟨u, hu, lt⟩
        have := he.nonneg
        have := he.deg
        omega
      obtain ⟨u, hu, hu1⟩ := hpos
      have h3 := ygN hn (r := m - 1) (by have := h1 u hu; omega) (hk u hu).al (yeX e u (-1)) (by have := he.add hu (k := -1) (by omega); exact this)
      refine ygT (fun i hi => ?_) h3
      rw [yff hi, yff hi, ydL (by rw [hd]; exact hu), ydL (by rw [he.len]; exact hu)]
      split
      · rename_i e; subst e; omega
      · omega
  · refine (hk v hv).no fun e he => ?_
    have h3 := q (yeX e v 1) (by have := he.add hv (k := 1) (by have := he.pos v hv; omega); rwa [show k v + 1 + 1 = m + 1 from by omega] at this)
    refine ygT (fun i hi => ?_) h3
    rw [yff hi, yff hi, ydL (d := e) (by rw [he.len]; exact hv), ydL (d := d) (by rw [hd]; exact hv)]
    split
    · rename_i e; subst e; omega
    · omega
end
end Go.Proofs.YtmeoemmemjipdaaGreat

/- What the finder of ranks comes to. -/
namespace Go.Proofs.YtmeoemmemjipdaaGreat
open Go Go.Proofs.Tryz
set_option linter.unusedVariables false
set_option linter.unusedSimpArgs false
theorem ygc {n : Nat} {d : List Int} {R : Int → Int → Prop} (hn : 1 ≤ n ∧ n ≤ 12) (hd : d.length = n) (hb : ∀ j, j < n → -1000000 ≤ gi d j ∧ gi d j ≤ 1000000) (h : R (dg d) 0) : ybC d R := by
  unfold ybC
  refine yj6 (n := n) (by simp) (by simp) (fun k hk => ?_) ⟨fun _ => ?_, fun q => absurd rfl q⟩
  · have e : k = 0 := by simp at hk; omega
    subst e
    exact ⟨hd, yfP hd hn.1 hn.2 fun j hj => by have := hb j hj; show -1048576 ≤ gi d j ∧ gi d j ≤ 1048576; omega⟩
  refine ⟨fun m s v => Cnt d.length (fun k => s = sm k (gi d)) m v, Cnt.start rfl, ?_⟩
  rintro m _ _ ⟨k, rfl, rfl, hk, rfl⟩
  simp only [Int.toNat_natCast]
  refine ⟨fun hlt => ⟨by omega, ?_, ?_⟩, fun hge => ?_⟩
  · have h1 := yc0 (f := gi d) (B := 1000000) (by omega) (n := k) (fun i hi => hb i (by omega))
    have h2 := hb k (by omega)
    exact i64 (by omega)
  · exact Cnt.next (by omega) (by omega) rfl
  · have e : k = d.length := by omega
    subst e; exact h
def errL (n : Int) : List (List Int) → Int
  | [] => 0
  | d :: t => if yaM d n = 0 then errL n t else yaM d n
theorem yii {d : List Int} {t : List (List Int)} {k : Nat} : gx (d :: t) (k + 1) = gx t k := by simp [gx]
theorem yh4 {d : List Int} {t : List (List Int)} : gx (d :: t) 0 = d := by simp [gx]
theorem errL_zero {n : Int} : ∀ {l : List (List Int)}, (∀ j, j < l.length → yaM (gx l j) n = 0) → errL n l = 0
  | [], _ => rfl
  | d :: t, h => by
    have h0 := h 0 (by simp)
    rw [yh4] at h0
    unfold errL
    rw [if_pos h0]
    exact errL_zero fun j hj => by have := h (j + 1) (by simpa using hj); rwa [yii] at this
theorem errL_at {n : Int} : ∀ {l : List (List Int)} {k : Nat}, k < l.length → (∀ j, j < k → yaM (gx l j) n = 0) → yaM (gx l k) n ≠ 0 → errL n l = yaM (gx l k) n
  | [], k, hk, _, _ => by simp at hk
  | d :: t, 0, hk, h, hn => by
    rw [yh4] at hn ⊢
    unfold errL
    rw [if_neg hn]
  | d :: t, k + 1, hk, h, hn => by
    have h0 := h 0 (by omega)
    rw [yh4] at h0
    rw [yii] at hn ⊢
    unfold errL
    rw [if_pos h0]
    exact errL_at (by simpa using hk) (fun j hj => by have := h (j + 1) (by omega); rwa [yii] at this) hn
def givL (n : Int) (es : List E3) (l : List (List Int)) : Int := if yca n es = 0 then errL n l else yca n es
theorem yjX {n : Int} {es : List E3} {d : List Int} : givL n es [d] = yaH n es 0 d := by
  rw [given0]
  unfold givL errL errL
  by_cases e : yaM d n = 0 <;> simp [e]
theorem yfz {n : Int} {es : List E3} {l : List (List Int)} {R : Int → Prop} (hl : es.length ≤ 1000) (hll : l.length ≤ 1000) (h : R (givL n es l)) : yb6 n es l R := by
  unfold yb6
  refine ⟨by omega, fun hg => ⟨fun hc => ?_, fun hc => ?_⟩, fun hg => ?_⟩
  · have hj : yca n es = 0 := by
      have := of_decide_eq_true hc
      unfold yca; rw [if_pos this.1, if_pos this.2]
    have e : givL n es l = errL n l := by unfold givL; rw [if_pos hj]
    rw [e] at h
    refine ⟨Cnt l.length (fun k => ∀ j, j < k → yaM (gx l j) n = 0), Cnt.start (fun j hj => absurd hj (by omega)), ?_⟩
    rintro m _ ⟨k, rfl, rfl, hk, hinv⟩
    simp only [Int.toNat_natCast]
    refine ⟨fun hlt => ⟨by omega, ygE ⟨fun h0 => Cnt.next (by omega) (by omega) fun j hj => ?_, fun hne => ?_⟩⟩, fun hge => ?_⟩
    · by_cases e : j = k
      · rw [e]; exact h0
      · exact hinv j (by omega)
    · rw [errL_at (by omega) hinv hne] at h; exact h
    · have e : k = l.length := by omega
      rw [errL_zero (by rw [← e]; exact hinv)] at h; exact h
  · have hj : yca n es = 13 := by
      unfold yca; rw [if_pos hg, if_neg]
      intro q; exact hc (decide_eq_true ⟨hg, q⟩)
    have e : givL n es l = 13 := by unfold givL; rw [if_neg (by omega), hj]
    rw [e] at h; exact h
  · have hj : yca n es = yat n es := by unfold yca; rw [if_neg hg]
    have e : givL n es l = yat n es := by unfold givL; rw [if_neg (by omega), hj]
    rw [e] at h; exact h
def keyF (r : List Int) : List Int := cpy (List.replicate 12 (0 : Int)) r
theorem ygg (r : List Int) : (keyF r).length = 12 := by unfold keyF; rw [cpy_length]; simp
theorem gi_keyF {r : List Int} {i : Nat} (hi : i < 12) : gi (keyF r) i = if i < r.length then gi r i else 0 := by
  unfold keyF
  rw [gi_cpy (by simpa using hi), yif hi]
theorem keyF_inj {n : Nat} {r r' : List Int} (hn : n ≤ 12) (h : r.length = n) (h' : r'.length = n) (e : keyF r = keyF r') : r = r' := by
  refine yeT (by omega) fun k hk => ?_
  have h1 := gi_keyF (r := r) (i := k) (by omega)
  have h2 := gi_keyF (r := r') (i := k) (by omega)
  rw [if_pos (by omega)] at h1 h2
  rw [← h1, ← h2, e]
structure MOk (n : Nat) (es : List E3) (m : List (List Int × Int)) : Prop where
  keys : KOk 12 m
  vals : ∀ p ∈ m, ∃ r, p.1 = keyF r ∧ Eff n r (dg r) ∧ dg r ≤ 5 ∧ RkOk n es r p.2
theorem MOk.nil (n : Nat) (es : List E3) : MOk n es [] := ⟨KOk.nil 12, fun p hp => by simp at hp⟩
theorem keyF_ok {n : Nat} {r : List Int} (hr : Eff n r (dg r)) (h5 : dg r ≤ 5) : yit 12 (keyF r) := by
  refine ⟨ygg r, fun x hx => ?_⟩
  obtain ⟨i, hi, rfl⟩ := List.getElem_of_mem hx
  rw [ygg] at hi
  rw [← ybb (by rw [ygg]; exact hi), gi_keyF hi]
  split
  · have hi2 : i < n := by rw [← hr.len]; assumption
    have := hr.pos i hi2
    have := hr.le hi2
    exact i64 (by omega)
  · exact i64 (by omega)
theorem MOk.put {n : Nat} {es : List E3} {m : List (List Int × Int)} (h : MOk n es m) {r : List Int} {v : Int} (hr : Eff n r (dg r)) (h5 : dg r ≤ 5) (hk : RkOk n es r v) : MOk n es (mput m (keyF r) v) := by
  have hK := h.keys.put (keyF_ok hr h5) v
  refine ⟨hK, fun p hp => ?_⟩
  rcases mput_mem hp with e | e
  · obtain ⟨j, hj⟩ := List.mem_iff_getElem?.1 hp
    have h1 := mget_at hK.1 (k := p.1) (v := p.2) hj
    rw [e, mget_put, if_pos rfl] at h1
    cases h1
    exact ⟨r, e, hr, h5, hk⟩
  · exact h.vals p e
theorem MOk.get {n : Nat} {es : List E3} {m : List (List Int × Int)} (h : MOk n es m) (hn : n ≤ 12) {r : List Int} {v : Int} (hr : r.length = n) (hg : mget m (keyF r) = some v) : RkOk n es r v := by
  obtain ⟨r', h1, h2, h3, h4⟩ := h.vals _ (mget_mem hg)
  have e := keyF_inj hn hr h2.len h1
  subst e; exact h4
theorem nodup_le : ∀ {l K : List (List Int)}, l.Nodup → (∀ x ∈ l, x ∈ K) → l.length ≤ K.length
  | [], K, _, _ => Nat.zero_le _
  | a :: t, K, h, hs => by
    have h1 := List.nodup_cons.1 h
    have ha : a ∈ K := hs a (by simp)
    have h2 := nodup_le (l := t) (K := K.erase a) h1.2 fun x hx => (List.mem_erase_of_ne (by rintro rfl; exact h1.1 hx)).2 (hs x (by simp [hx]))
    rw [List.length_erase_of_mem ha] at h2
    have : 0 < K.length := List.length_pos_of_mem ha
    simp only [List.length_cons]
    omega
theorem flat_le {f : Nat → List (List Int)} {B : Nat} : ∀ {l : List Nat}, (∀ a ∈ l, (f a).length ≤ B) → (l.flatMap f).length ≤ l.length * B
  | [], _ => by simp
  | a :: t, h => by
    rw [List.flatMap_cons, List.length_append, List.length_cons, Nat.add_mul, Nat.one_mul]
    have := h a (by simp)
    have := flat_le (f := f) (l := t) fun b hb => h b (by simp [hb])
    omega
theorem yhT {n k : Nat} {e : List Int} (h : Eff (n + 1) e (k : Int)) : e ∈ ybG (n + 1) k := by
  refine (ydW n k e).2 ⟨h.len, fun a ha => ?_, by rw [sum_dg, h.deg]⟩
  obtain ⟨i, hi, rfl⟩ := List.getElem_of_mem ha
  rw [← ybb hi]
  exact h.pos i (by rw [← h.len]; exact hi)
theorem ye3 {n k : Nat} {e : List Int} (h : e ∈ ybG (n + 1) k) : Eff (n + 1) e (k : Int) := by
  obtain ⟨h1, h2, h3⟩ := (ydW n k e).1 h
  exact ⟨h1, fun v hv => (dg_entry h2 (by omega)).1, by rw [← sum_dg, h3]⟩
theorem MOk.len {n : Nat} {es : List E3} {m : List (List Int × Int)} (h : MOk n es m) (h1 : 1 ≤ n) (hn : n ≤ 5) : m.length ≤ 7776 := by
  obtain ⟨n, rfl⟩ : ∃ k, n = k + 1 := ⟨n - 1, by omega⟩
  have hN : (m.map (·.1)).Nodup := by
    have := h.keys.1
    unfold List.Nodup
    rw [List.pairwise_map]
    exact this
  have h2 := nodup_le (K := (List.range 6).flatMap fun k => (ybG (n + 1) k).map keyF) hN fun x hx => by
    obtain ⟨p, hp, rfl⟩ := List.mem_map.1 hx
    obtain ⟨r, e, hr, h5, -⟩ := h.vals p hp
    obtain ⟨k, hk⟩ : ∃ k : Nat, dg r = (k : Int) := ⟨(dg r).toNat, by have := hr.nonneg; omega⟩
    rw [hk] at hr
    rw [List.mem_flatMap]
    exact ⟨k, List.mem_range.2 (by omega), List.mem_map.2 ⟨r, yhT hr, e.symm⟩⟩
  have h3 := flat_le (f := fun k => (ybG (n + 1) k).map keyF) (B := 1296) (l := List.range 6) fun k hk => by
    rw [List.length_map]
    have h1 := yei n k
    have h2 : (k + 1) ^ n ≤ 6 ^ n := Nat.pow_le_pow_left (by have := List.mem_range.1 hk; omega) n
    have h3 : 6 ^ n ≤ 6 ^ 4 := Nat.pow_le_pow_right (by omega) (by omega)
    omega
  simp only [List.length_map, List.length_range] at h2 h3
  omega
structure GOk (n : Nat) (es : List E3) : Prop where
  g : yat n es = 0
  c : ycJ n es = true
  el : es.length ≤ 40
  n1 : 1 ≤ n
  n5 : n ≤ 5
  su : (es.map (·.2.2)).sum ≤ 9
section
variable {n : Nat} {es : List E3}
theorem GOk.E (G : GOk n es) : EOk n es := (yba G.g).1
theorem GOk.C (G : GOk n es) : ∀ q, q < n → Conn n es q := conn_all G.g G.c
theorem GOk.tot (G : GOk n es) : tot n es ≤ 18 := tot_few G.E G.n1 (by have := G.n5; omega) G.su
theorem GOk.giv (G : GOk n es) {d : List Int} (hd : d.length = n) (hb : ∀ v, v < n → -1000000 ≤ gi d v ∧ gi d v ≤ 1000000) : yaH n es 0 d = 0 := by
  have := G.n1
  have := G.n5
  unfold yaH; rw [if_pos G.g, if_pos G.c, if_pos ⟨by omega, by omega⟩]
  exact yfP hd (by omega) (by omega) fun v hv => by have := hb v hv; omega
theorem GOk.small (G : GOk n es) {d : List Int} (hb : ∀ v, v < n → -200 ≤ gi d v ∧ gi d v ≤ 200) : Small (n : Int) es d :=
  ⟨G.el, fun _ => ⟨by have := G.n5; omega, G.su⟩, fun _ v hv => hb v (by omega)⟩
theorem set_back {r : List Int} {k : Nat} (hk : k < r.length) : (r.set k (gi r k - 1)).set k (gi (r.set k (gi r k - 1)) k + 1) = r := by
  refine yeT (by simp) fun i hi => ?_
  rw [ybi (by simpa using hk), ybi hk, ybi hk]
  split
  · rename_i e; subst e; simp
  · rfl
theorem RkOk.few (hn : 1 ≤ n) {d : List Int} (hd : d.length = n) {k : Int} (h : RkOk n es d k) : -1 ≤ k ∧ (k = -1 ∨ k ≤ dg d) := by
  refine ⟨h.lo, ?_⟩
  by_cases hw : Win n es d
  · exact .inr (h.top hn hd hw)
  · exact .inl (h.eq hn (rk_lose hw))
theorem fr_find {Rec : Int → List (Int × Int × Int) → Int → List (List Int × Int) → List Int → (Int → Int → List (List Int × Int) → Prop) → Prop} (G : GOk n es) {d : List Int} {m : List (List Int × Int)} {R : Int → Int → List (List Int × Int) → Prop}
    (hd : d.length = n) (hb : ∀ v, v < n → -200 ≤ gi d v ∧ gi d v ≤ 200) (h5 : dg d ≤ 5) (hm : MOk n es m)
    (hrec : ∀ (d' : List Int) (m' : List (List Int × Int)) (R' : Int → Int → List (List Int × Int) → Prop), d'.length = n → (∀ v, v < n → -200 ≤ gi d' v ∧ gi d' v ≤ 200) → dg d' = dg d - 1 → 0 ≤ dg d → MOk n es m' → (∀ k m'', RkOk n es d' k → MOk n es m'' → R' k 0 m'') → Rec n es (ycE es + 1 - n) m' d' R')
    (h : ∀ k m', RkOk n es d k → MOk n es m' → R k 0 m') : yaW Rec n es (ycE es + 1 - n) m d R := by
  have hn1 := G.n1
  have hn5 := G.n5
  have hpm : 0 ≤ 2 * ycE es ∧ 2 * ycE es ≤ 18 := by
    have h1 := ygF G.E
    have h2 := G.tot
    have h3 : 0 ≤ tot n es := yaX fun v _ => yaX fun u _ => ya4 G.E v u
    omega
  have hdb : -1000 ≤ dg d ∧ dg d ≤ 5 := by
    have := yc0 (f := gi d) (B := 200) (by omega) (n := n) (fun i hi => by have := hb i hi; omega)
    rw [dg_n hd] at h5 ⊢
    omega
  unfold yaW
  refine ygc ⟨hn1, by omega⟩ hd (fun j hj => by have := hb j hj; omega) ⟨fun _ => ⟨fun hneg => h _ _ (rk_lose fun q => by have := win_dg hd q; omega) hm, fun hnn => ⟨i64 (by omega), i64 (by omega), fun hbig => ⟨i64 (by omega), h _ _ (rk_big G.g G.C hn1 (by omega) hd hb (by omega) G.tot (by omega)) hm⟩, fun hsm => ?_⟩⟩, fun q => absurd rfl q⟩
  refine ycI (.inl (G.small hb)) (by omega) (fun q => absurd (G.giv hd fun v hv => by have := hb v hv; omega) q) fun _ r s hr b hbw => ⟨fun _ => ⟨fun hbt => ?_, fun hbf => h _ _ (rk_lose fun q => hbf (hbw.2 (by simpa using q))) hm⟩, fun q => absurd rfl q⟩
  simp only [Int.toNat_natCast] at hr hbw
  have hw := hbw.1 hbt
  have hrl : r.length = n := hr.dl
  have hrq : 0 ≤ gi r 0 := (yj7 G.E (by omega) hr.red hr.lp).1 hw
  have hrd : dg r = dg d := dg_lp hrl hd hr.lp
  have heff : Eff n r (dg r) := ⟨hrl, fun v hv => by
    by_cases e : v = 0
    · subst e; exact hrq
    · exact hr.pos v hv e, rfl⟩
  have hrw : Win n es r := (win_eqv hr.lp).1 hw
  have hre : ∀ v, v < n → 0 ≤ gi r v ∧ gi r v ≤ 5 := fun v hv => by have := heff.pos v hv; have := heff.le hv; omega
  have back : ∀ {k : Int}, RkOk n es r k → RkOk n es d k := fun q => (rk_eqv hr.lp).2 q
  refine ⟨by omega, hm.keys, keyF_ok heff (by omega), fun hsome => ?_, fun hnone => ⟨fun hfull => absurd hfull (by have := hm.len hn1 hn5; omega), fun _ => ?_⟩⟩
  · obtain ⟨v, hv⟩ := Option.isSome_iff_exists.1 hsome
    rw [hv]
    exact h _ _ (back (hm.get (by omega) hrl hv)) hm
  refine ⟨fun c least i m' r' => Cnt n (fun k => MOk n es m' ∧ r' = r ∧ ∃ κ : Nat → Int, (∀ u, u < k → RkOk n es (yeX r u (-1)) (κ u)) ∧ (∀ u, u < k → least ≤ κ u + 1) ∧ (least = dg d ∨ ∃ u, u < k ∧ least = κ u + 1)) c i,
    Cnt.start ⟨hm, rfl, fun _ => 0, fun u hu => absurd hu (by omega), fun u hu => absurd hu (by omega), .inl rfl⟩, ?_⟩
  rintro c least _ m' r' ⟨k, rfl, rfl, hk, hm', rfl, κ, hκ, hle, hat⟩
  simp only [Int.toNat_natCast]
  have hal : ∀ u, (yeX r' u (-1)).length = n := fun u => by rw [yep, hrl]
  have hadg : ∀ u, u < n → dg (yeX r' u (-1)) = dg d - 1 := fun u hu => by rw [dg_addAt (by omega), hrd]; omega
  have hse : ∀ {x : Int}, dg d = x → 0 ≤ x := fun e => by have := heff.nonneg; omega
  refine ⟨fun hlt => ⟨by omega, i64 (by have := hre k (by omega); omega), ?_⟩, fun hge => ⟨hm'.keys, ?_⟩⟩
  · refine hrec (yeX r' k (-1)) m' _ (hal k) (fun v hv => ?_) (hadg k (by omega)) (hse rfl) hm' fun j m'' hj hm'' => ?_
    · rw [ydL (by omega)]
      have := hre v hv
      have := hre k (by omega)
      split <;> omega
    · have hj2 := hj.few hn1 (hal k)
      rw [hadg k (by omega)] at hj2
      have hgk := hre k (by omega)
      refine ⟨by rw [List.length_set]; omega, ?_, fun _ => ⟨i64 (by omega), ?_⟩, fun q => absurd rfl q⟩
      · rw [ybi (by omega), if_pos rfl]
        exact i64 (by omega)
      · refine Cnt.next (by omega) (by omega) ⟨hm'', set_back (by omega), fun u => if u = k then j else κ u, fun u hu => ?_, fun u hu => ?_, ?_⟩
        · show RkOk n es (yeX r' u (-1)) (if u = k then j else κ u)
          by_cases e : u = k
          · subst e; rw [if_pos rfl]; exact hj
          · rw [if_neg e]; exact hκ u (by omega)
        · show mnF least (j + 1) ≤ (if u = k then j else κ u) + 1
          rw [mnF_eq]
          by_cases e : u = k
          · rw [if_pos e]; omega
          · rw [if_neg e]; have := hle u (by omega); omega
        · rw [mnF_eq]
          rcases Int.le_total least (j + 1) with q | q
          · rw [Int.min_eq_left q]
            rcases hat with a | ⟨u, hu, a⟩
            · exact .inl a
            · refine .inr ⟨u, by omega, ?_⟩
              show least = (if u = k then j else κ u) + 1
              rw [if_neg (by omega)]; exact a
          · rw [Int.min_eq_right q]
            refine .inr ⟨k, by omega, ?_⟩
            show j + 1 = (if k = k then j else κ k) + 1
            rw [if_pos rfl]
  · have e : k = n := by omega
    subst e
    have hk0 := hκ 0 (by omega)
    have hst : RkOk k es r' least := rk_step hn1 hrl hrw hκ hle (by
      rcases hat with a | a
      · refine ⟨0, by omega, ?_⟩
        have h1 := hle 0 (by omega)
        have h2 := hk0.few hn1 (hal 0)
        rw [hadg 0 (by omega)] at h2
        have h3 := heff.nonneg
        omega
      · exact a)
    exact h _ _ (back hst) (hm'.put heff (by omega) hst)
theorem p_find2 (G : GOk n es) : ∀ (fu : Nat) {d : List Int} {m : List (List Int × Int)} {R : Int → Int → List (List Int × Int) → Prop}, dg d + 1 < fu → -1 ≤ dg d → d.length = n → (∀ v, v < n → -200 ≤ gi d v ∧ gi d v ≤ 200) → dg d ≤ 5 → MOk n es m →
    (∀ k m', RkOk n es d k → MOk n es m' → R k 0 m') → ya6 fu n es (ycE es + 1 - n) m d R
  | 0, _, _, _, hf, h1, _, _, _, _, _ => by omega
  | fu + 1, d, m, R, hf, h1, hd, hb, h5, hm, h => by
    show yaW (ya6 fu) n es (ycE es + 1 - n) m d R
    exact fr_find G hd hb h5 hm (fun d' m' R' hd' hb' hdg h0 hm' h' => p_find2 G fu (by omega) (by omega) hd' hb' (by omega) hm' h') h
theorem p_find (G : GOk n es) {d : List Int} {m : List (List Int × Int)} {R : Int → Int → List (List Int × Int) → Prop} (hd : d.length = n) (hb : ∀ v, v < n → -200 ≤ gi d v ∧ gi d v ≤ 200) (h5 : dg d ≤ 5) (hm : MOk n es m)
    (h : ∀ k m', RkOk n es d k → MOk n es m' → R k 0 m') : ∃ fu, yb8 fu n es (ycE es + 1 - n) m d R := by
  refine ⟨1, ?_⟩
  show yaW (fun a b c e f R' => ∃ fu, ya6 fu a b c e f R') n es (ycE es + 1 - n) m d R
  exact fr_find G hd hb h5 hm (fun d' m' R' hd' hb' hdg h0 hm' h' => ⟨8, p_find2 G 8 (by omega) (by omega) hd' hb' (by omega) hm' h'⟩) h
end
end Go.Proofs.YtmeoemmemjipdaaGreat

/- What graph.Loopless and graph.Genus come to. -/
namespace Go.Proofs.YtmeoemmemjipdaaGreat
open Go Go.Proofs.Tryz
set_option linter.unusedVariables false
set_option linter.unusedSimpArgs false
def yeL (es : List E3) : List E3 := es.filter fun x => decide (x.1 ≠ x.2.1)
theorem yiy {es : List E3} {k : Nat} (hk : k < es.length) : yeL (es.take (k + 1)) = yeL (es.take k) ++ if (ge es k).1 = (ge es k).2.1 then [] else [ge es k] := by
  have e : es.take (k + 1) = es.take k ++ [ge es k] := by rw [List.take_add_one, List.getElem?_eq_getElem hk, ydR hk]; rfl
  unfold yeL
  rw [e, List.filter_append]
  congr 1
  by_cases q : (ge es k).1 = (ge es k).2.1
  · rw [if_pos q]; simp [q]
  · rw [if_neg q]; simp [q]
theorem yjV : ∀ (es : List E3) (v u : Nat), W (yeL es) v u = W es v u
  | [], v, u => rfl
  | x :: es, v, u => by
    unfold yeL
    rw [List.filter_cons, yeR]
    by_cases q : x.1 = x.2.1
    · have : w1 x v u = 0 := by unfold w1; rw [if_neg (fun h => h.1 q)]
      rw [if_neg (by simpa using q), this]
      have := yjV es v u
      unfold yeL at this
      rw [this]; omega
    · rw [if_pos (by simpa using q), yeR]
      have := yjV es v u
      unfold yeL at this
      rw [this]
theorem pcmp_le {a b c d : Int} : yft a b c d ≤ 0 ↔ a < c ∨ (a = c ∧ b ≤ d) := by
  unfold yft orF cmpF
  (repeat' split) <;> omega
theorem pcmp_trans {a b c d e f : Int} (h1 : yft a b c d ≤ 0) (h2 : yft c d e f < 0) : yft a b e f < 0 := by
  have h1 := pcmp_le.1 h1
  have h2 := (yiv _ _ _ _).1 h2
  exact (yiv _ _ _ _).2 (by omega)
theorem ygn {n : Int} {p : E3 → Bool} : ∀ (es : List E3) (a b a' b' : Int), yft a' b' a b ≤ 0 → gchk n a b es = 0 → gchk n a' b' (es.filter p) = 0
  | [], a, b, a', b', _, _ => rfl
  | x :: t, a, b, a', b', h, hg => by
    unfold gchk at hg
    by_cases c1 : (0 ≤ x.1 ∧ x.1 < n) ∧ (0 ≤ x.2.1 ∧ x.2.1 < n) ∧ 1 ≤ x.2.2 ∧ x.2.2 ≤ 50
    · rw [if_pos c1] at hg
      by_cases c2 : x.1 ≤ x.2.1 ∧ yft a b x.1 x.2.1 < 0
      · rw [if_pos c2] at hg
        have h3 := pcmp_trans h c2.2
        rw [List.filter_cons]
        split
        · unfold gchk
          rw [if_pos c1, if_pos ⟨c2.1, h3⟩]
          exact ygn t _ _ _ _ (pcmp_le.2 (by omega)) hg
        · exact ygn t _ _ _ _ (by omega) hg
      · rw [if_neg c2] at hg; omega
    · rw [if_neg c1] at hg; omega
theorem yjT {n : Int} {es : List E3} (h : yat n es = 0) : yat n (yeL es) = 0 := by
  unfold yat at h ⊢
  split
  · rename_i c
    rw [if_pos c] at h
    exact ygn es _ _ _ _ (by decide) h
  · rename_i c; rw [if_neg c] at h; exact h
theorem yhC {n : Nat} {es : List E3} {R : Int → List E3 → Int → Prop} (hl : es.length ≤ 1000) (hg : yat n es = 0) (h : R n (yeL es) 0) : ybZ n es R := by
  unfold ybZ ycN
  refine ygw (by omega) ⟨fun _ => ?_, fun q => absurd hg q⟩
  refine ⟨fun m v out => Cnt es.length (fun k => out = yeL (es.take k) ∧ out.length ≤ k) m v, Cnt.start ⟨rfl, Nat.le_refl _⟩, ?_⟩
  rintro m _ out ⟨k, rfl, rfl, hk, hout, hol⟩
  simp only [Int.toNat_natCast]
  refine ⟨fun hlt => ⟨by omega, fun q => Cnt.next (by omega) (by omega) ⟨?_, by omega⟩, fun q => ⟨by omega, Cnt.next (by omega) (by omega) ⟨?_, by simpa using hol⟩⟩⟩, fun hge => ?_⟩
  · rw [yiy (by omega), if_pos q, List.append_nil]; exact hout
  · rw [yiy (by omega), if_neg q, hout]
    have hx := (yba hg).1 _ (List.mem_of_getElem? (ydj (show k < es.length by omega)))
    have e : mnF (ge es k).2.2 50 = (ge es k).2.2 := by rw [mnF_eq]; omega
    rw [e]
  · have e : k = es.length := by omega
    rw [e, List.take_length] at hout
    rw [hout]; exact h
def sF : List E3 → List E3
  | [] => []
  | x :: t => List.replicate x.2.2.toNat (x.1, x.2.1, 1) ++ sF t
theorem yiw : ∀ (a b : List E3), sF (a ++ b) = sF a ++ sF b
  | [], b => rfl
  | x :: t, b => by rw [List.cons_append, sF, sF, yiw t b, List.append_assoc]
theorem sF_take {es : List E3} {k : Nat} (hk : k < es.length) : sF (es.take (k + 1)) = sF (es.take k) ++ List.replicate (ge es k).2.2.toNat ((ge es k).1, (ge es k).2.1, 1) := by
  rw [List.take_add_one, List.getElem?_eq_getElem hk, ← ydR hk, yiw]
  simp [sF]
theorem sF_pre {es : List E3} {k : Nat} (hk : k < es.length) {j : Nat} (hj : j ≤ (ge es k).2.2.toNat) : sF (es.take k) ++ List.replicate j ((ge es k).1, (ge es k).2.1, 1) <+: sF es := by
  have h1 : es = es.take (k + 1) ++ es.drop (k + 1) := (List.take_append_drop _ _).symm
  have h2 : sF es = sF (es.take k) ++ List.replicate (ge es k).2.2.toNat ((ge es k).1, (ge es k).2.1, 1) ++ sF (es.drop (k + 1)) := by
    conv => lhs; rw [h1]
    rw [yiw, sF_take hk]
  obtain ⟨i, hi⟩ : ∃ i, (ge es k).2.2.toNat = j + i := ⟨(ge es k).2.2.toNat - j, by omega⟩
  rw [h2, hi, ← List.replicate_append_replicate]
  exact ⟨List.replicate i ((ge es k).1, (ge es k).2.1, 1) ++ sF (es.drop (k + 1)), by simp only [List.append_assoc]⟩
theorem sF_ok {n : Nat} : ∀ {es : List E3}, EOk n es → EOk n (sF es)
  | [], _ => fun x hx => by simp [sF] at hx
  | y :: t, h => fun x hx => by
    rw [sF, List.mem_append] at hx
    rcases hx with q | q
    · have := h y (by simp)
      have e := (List.mem_replicate.1 q).2
      subst e
      simp only
      omega
    · exact sF_ok (fun z hz => h z (by simp [hz])) x q
theorem W_rep (a b : Int) (l : List E3) (v u : Nat) : ∀ k : Nat, W (List.replicate k (a, b, 1) ++ l) v u = (k : Int) * w1 (a, b, 1) v u + W l v u
  | 0 => by simp
  | k + 1 => by
    rw [List.replicate_succ, List.cons_append, yeR, W_rep a b l v u k, Int.natCast_add, Int.add_mul]
    omega
theorem W_sF {n : Nat} (v u : Nat) : ∀ {es : List E3}, EOk n es → W (sF es) v u = W es v u
  | [], _ => rfl
  | x :: t, h => by
    have hx := h x (by simp)
    rw [sF, W_rep, yeR, W_sF v u (fun z hz => h z (by simp [hz]))]
    have : ((x.2.2.toNat : Nat) : Int) * w1 (x.1, x.2.1, 1) v u = w1 x v u := by
      unfold w1
      simp only
      split
      · omega
      · omega
    omega
theorem sF_len {n : Nat} : ∀ {es : List E3}, EOk n es → ((sF es).length : Int) = (es.map (·.2.2)).sum
  | [], _ => rfl
  | x :: t, h => by
    have hx := h x (by simp)
    have := sF_len (es := t) fun z hz => h z (by simp [hz])
    rw [sF, List.length_append, List.length_replicate, List.map_cons, List.sum_cons, ← this]
    omega
theorem yjR : ∀ (es : List E3), ((yeL es).map (·.2.2)).sum = ycE es
  | [] => rfl
  | x :: t => by
    have ih := yjR t
    unfold yeL ycE at *
    rw [List.filter_cons, List.map_cons, List.sum_cons]
    by_cases q : x.1 = x.2.1
    · rw [if_neg (by simpa using q), if_pos q, ih]; omega
    · rw [if_pos (by simpa using q), if_neg q, List.map_cons, List.sum_cons, ih]
theorem sF_few {n : Nat} : ∀ {es : List E3}, EOk n es → (sF es).length ≤ 50 * es.length
  | [], _ => Nat.le_refl _
  | x :: t, h => by
    have hx := h x (by simp)
    have := sF_few (es := t) fun z hz => h z (by simp [hz])
    rw [sF, List.length_append, List.length_replicate, List.length_cons]
    omega
def gmap (y : Int × Int × Int) : E3 := (y.2.1, y.2.2, 1)
theorem yg5 {n : Nat} {es : List E3} (hE : EOk n es) (hl : es.length ≤ 1000) : ybN (n : Int) es (fun l => l.map gmap <+: sF es) (fun l => l.map gmap = sF es) := by
  unfold ybN
  refine ⟨fun m pre e2 v => Cnt es.length (fun k => pre.map gmap = sF (es.take k) ∧ 0 ≤ e2 ∧ e2 ≤ 50 * k) m v, Cnt.start ⟨rfl, by omega, by omega⟩, ?_⟩
  rintro m pre e2 _ ⟨k, rfl, rfl, hk, hpre, he0, he1⟩
  simp only [Int.toNat_natCast]
  refine ⟨fun hlt => ⟨by omega, ?_⟩, fun hge => ?_⟩
  · have hkl : k < es.length := by omega
    have hx := hE _ (List.mem_of_getElem? (ydj hkl))
    refine ⟨fun m pre e3 v => Cnt (ge es k).2.2.toNat (fun j => pre.map gmap = sF (es.take k) ++ List.replicate j ((ge es k).1, (ge es k).2.1, 1) ∧ 0 ≤ e3 ∧ e3 ≤ 50 * k + j) m v, Cnt.start ⟨by simpa using hpre, he0, by omega⟩, ?_⟩
    rintro m3 pre3 e3 _ ⟨j, rfl, rfl, hj, hp3, h30, h31⟩
    have hstep : ∀ e : Int, (pre3 ++ [(e, (ge es k).1, (ge es k).2.1)]).map gmap = sF (es.take k) ++ List.replicate (j + 1) ((ge es k).1, (ge es k).2.1, 1) := fun e => by
      rw [List.map_append, hp3, List.replicate_succ', List.append_assoc]; rfl
    refine ⟨fun h1 => ⟨?_, ⟨i64 (by omega), Cnt.next (by omega) (by omega) ⟨hstep e3, by omega, by omega⟩⟩, trivial⟩, fun h1 => Cnt.next (by omega) (by omega) ⟨?_, by omega, by omega⟩⟩
    · show (pre3 ++ [(e3, (ge es k).1, (ge es k).2.1)]).map gmap <+: sF es
      rw [hstep]; exact sF_pre hkl (by omega)
    · have e : j = (ge es k).2.2.toNat := by omega
      rw [sF_take hkl, hp3, e]
  · have e : k = es.length := by omega
    rw [e, List.take_length] at hpre
    exact hpre
def castF (F : List Nat) : List Int := F.map fun v : Nat => (v : Int)
theorem gi_castF {F : List Nat} {v : Nat} (hv : v < F.length) : gi (castF F) v = (gn F v : Int) := by
  unfold castF
  rw [ybb (by simpa using hv), yfY hv]; simp
theorem ygR {F : List Nat} (hF : ycD F) {v : Nat} (hv : v < 12) {R : Int → Prop} (h : R (root F v)) : ybh (castF F) (v : Int) R := by
  unfold ybh
  refine ⟨fun m x => ∃ u : Nat, x = u ∧ m = u ∧ u < 12 ∧ root F u = root F v, ⟨v, v, rfl, rfl, hv, rfl⟩, ?_⟩
  rintro m _ ⟨u, rfl, hm, hu, hr⟩
  have hg : gi (castF F) u = (gn F u : Int) := gi_castF (by rw [hF.1]; exact hu)
  have hle := hF.2 u hu
  simp only [Int.toNat_natCast, hg]
  refine ⟨by omega, fun e => ?_, fun e => ⟨gn F u, by omega, gn F u, rfl, rfl, by omega, ?_⟩⟩
  · rw [ycn (F := F) (v := u) (by omega)] at hr
    rw [hr]; exact h
  · rw [← yeO hF hu (by omega)]; exact hr
theorem yh2 {F : List Nat} (hF : ycD F) {a b : Nat} (ha : a < 12) (hb : b < 12) (hne : root F a ≠ root F b) : ∀ k, k ≤ 12 → yaE (ycp F a b) k + (if max (root F a) (root F b) < k then 1 else 0) = yaE F k
  | 0, _ => by simp [yaE]
  | k + 1, hk => by
    have ih := yh2 hF ha hb hne k (by omega)
    have hj := yfZ hF ha hb k (by omega)
    have ra := yfA hF ha
    have rb := yfA hF hb
    rw [yaE, yaE]
    have hM : root F (max (root F a) (root F b)) = max (root F a) (root F b) := by
      rcases Nat.le_total (root F a) (root F b) with q | q
      · rw [Nat.max_eq_right q]; exact rb
      · rw [Nat.max_eq_left q]; exact ra
    have hm : root F (min (root F a) (root F b)) = min (root F a) (root F b) := by
      rcases Nat.le_total (root F a) (root F b) with q | q
      · rw [Nat.min_eq_left q]; exact ra
      · rw [Nat.min_eq_right q]; exact rb
    by_cases e1 : k = max (root F a) (root F b)
    · have h1 : root F k = k := by rw [e1]; exact hM
      rw [if_pos (h1.trans e1)] at hj
      rw [if_neg (by omega : ¬ root (ycp F a b) k = k), if_pos h1, if_pos (by omega)]
      rw [if_neg (by omega)] at ih
      omega
    · have h2 : root (ycp F a b) k = k ↔ root F k = k := by
        rw [hj]
        split
        · rename_i e2
          constructor
          · intro e3; rw [← e3] at e2; rw [hm] at e2; omega
          · intro e3; omega
        · exact Iff.rfl
      by_cases e3 : root F k = k
      · rw [if_pos (h2.2 e3), if_pos e3]
        by_cases e4 : max (root F a) (root F b) < k
        · rw [if_pos e4] at ih; rw [if_pos (by omega)]; omega
        · rw [if_neg e4] at ih; rw [if_neg (by omega)]; omega
      · rw [if_neg (fun q => e3 (h2.1 q)), if_neg e3]
        by_cases e4 : max (root F a) (root F b) < k
        · rw [if_pos e4] at ih; rw [if_pos (by omega)]; omega
        · rw [if_neg e4] at ih; rw [if_neg (by omega)]; omega
theorem yik {F : List Nat} (hF : ycD F) {a b : Nat} (ha : a < 12) (hb : b < 12) (he : root F a = root F b) : ∀ k, k ≤ 12 → yaE (ycp F a b) k = yaE F k
  | 0, _ => rfl
  | k + 1, hk => by
    have ih := yik hF ha hb he k (by omega)
    have hj := yfZ hF ha hb k (by omega)
    rw [yaE, yaE, ih, hj, he]
    simp only [Nat.max_self, Nat.min_self]
    congr 2
    split
    · rename_i e; rw [e]
    · rfl
theorem yho : ∀ k, k ≤ 12 → yaE yda k = k
  | 0, _ => rfl
  | k + 1, hk => by
    rw [yaE, yho k (by omega), if_pos]
    exact ycn (by rw [yfY (by simpa [yda] using (by omega : k < 12))]; simp [yda])
theorem joinedF_snoc (l : List E3) (x : E3) : yax (l ++ [x]) = ycp (yax l) x.1.toNat x.2.1.toNat := by
  unfold yax; rw [List.foldl_append]; rfl
theorem castF_join {F : List Nat} {a b : Nat} : (castF F).set (mxF (root F a) (root F b)).toNat (mnF (root F a) (root F b)) = castF (ycp F a b) := by
  unfold castF ycp
  rw [List.map_set, mxF_eq, mnF_eq]
  congr 1
  · omega
  · omega
theorem yjG {n : Nat} {es : List E3} {R : Int → Int → Prop} (hl : es.length ≤ 1000) (hg : yat n es = 0) (hc : ∀ q, q < n → Conn n es q) (h : R ((es.map (·.2.2)).sum + 1 - n) 0) : ycK n es R := by
  obtain ⟨hE, hn1, hn12⟩ := yba hg
  unfold ycK
  refine ygw (by omega) ⟨fun _ => ?_, fun q => absurd hg q⟩
  refine ⟨fun m v f => Cnt 12 (fun k => f.length = 12 ∧ ∀ i, i < k → gi f i = (i : Int)) m v, Cnt.start ⟨by simp, fun i hi => absurd hi (by omega)⟩, ?_⟩
  rintro m _ f ⟨k, rfl, rfl, hk, hfl, hf⟩
  simp only [Int.toNat_natCast]
  refine ⟨fun hlt => ⟨by omega, Cnt.next (by omega) (by omega) ⟨by simpa using hfl, fun i hi => ?_⟩⟩, fun hge => ?_⟩
  · rw [ybi (by omega)]
    split
    · omega
    · exact hf i (by omega)
  have e12 : k = 12 := by omega
  subst e12
  have hf0 : f = castF yda := yeT (by rw [hfl]; rfl) fun i hi => by
    rw [hf i (by omega), gi_castF (by show i < (List.range 12).length; simpa using (by omega : i < 12)), yfY (by simpa [yda] using (by omega : i < 12))]
    simp [yda]
  show ∃ Pr Rr : List (Int × Int × Int) → Prop, _
  refine ⟨_, _, yg5 hE hl, fun pre f2 genus => pre.map gmap <+: sF es ∧ f2 = castF (yax (pre.map gmap)) ∧ genus + n - (yaE (yax (pre.map gmap)) n : Int) = pre.length ∧ 0 ≤ genus ∧ genus ≤ pre.length, ⟨List.nil_prefix, hf0, ?_, by omega, by simp⟩, ?_, ?_⟩
  · show (0 : Int) + n - (yaE yda n : Int) = 0
    rw [yho n hn12]; omega
  · rintro pre e a b f2 genus ⟨hp, rfl, hcount, h0, h1⟩ hPr
    have hPr : (pre ++ [(e, a, b)]).map gmap <+: sF es := hPr
    have hE2 := sF_ok hE
    have hmem : (a, b, 1) ∈ sF es := hPr.subset (by simp [gmap])
    have hx := hE2 _ hmem
    simp only at hx
    obtain ⟨a, rfl⟩ : ∃ k : Nat, a = (k : Int) := ⟨a.toNat, by omega⟩
    obtain ⟨b, rfl⟩ : ∃ k : Nat, b = (k : Int) := ⟨b.toNat, by omega⟩
    have hF : ycD (yax (pre.map gmap)) := ybT _ fun x hx => by
      have := hE2 x (hp.subset hx)
      omega
    have hplen : pre.length ≤ 50 * es.length := by
      have h2 := hp.length_le
      have h3 := sF_few hE
      rw [List.length_map] at h2
      omega
    have hsn : (pre ++ [(e, (a : Int), (b : Int))]).map gmap = pre.map gmap ++ [((a : Int), (b : Int), 1)] := by rw [List.map_append]; rfl
    have hjs : yax ((pre ++ [(e, (a : Int), (b : Int))]).map gmap) = ycp (yax (pre.map gmap)) a b := by rw [hsn, joinedF_snoc]; simp
    have ra := ydg hF a (by omega)
    have rb := ydg hF b (by omega)
    have hrl : ∀ v, v < n → root (yax (pre.map gmap)) v < n := fun v hv => by have := (ydg hF v (by omega)).1; omega
    have hra := hrl a (by omega)
    have hrb := hrl b (by omega)
    refine ygR hF (by omega) (ygR hF (by omega) ?_)
    have hmx : 0 ≤ mxF (root (yax (pre.map gmap)) a : Int) (root (yax (pre.map gmap)) b) ∧ mxF (root (yax (pre.map gmap)) a : Int) (root (yax (pre.map gmap)) b) < 12 := by rw [mxF_eq]; omega
    refine ⟨fun g2 => g2 = genus + if root (yax (pre.map gmap)) a = root (yax (pre.map gmap)) b then 1 else 0, fun g2 hg2 => ⟨hmx, hPr, by rw [hjs]; exact castF_join, ?_, ?_, ?_⟩, fun q => ⟨i64 (by omega), by rw [if_pos (by omega)]⟩, fun q => by rw [if_neg (by omega)]; omega⟩
    · rw [hjs, hg2, List.length_append, List.length_singleton]
      by_cases q : root (yax (pre.map gmap)) a = root (yax (pre.map gmap)) b
      · rw [if_pos q, yik hF (by omega) (by omega) q n hn12]; omega
      · have := yh2 hF (by omega) (by omega) q n hn12
        rw [if_pos (by omega)] at this
        rw [if_neg q]; omega
    · rw [hg2]; split <;> omega
    · rw [hg2, List.length_append, List.length_singleton]; split <;> omega
  · rintro ys f2 genus ⟨hp, rfl, hcount, h0, h1⟩ hR
    have hR : ys.map gmap = sF es := hR
    have hE2 := sF_ok hE
    have hc2 : ycJ n (sF es) = true := (ygK hE2 hn1 hn12 (q := 0) (by omega)).2 fun S h0 h1 => by
      obtain ⟨v, u, a, b, c, d, e⟩ := hc 0 (by omega) S h0 h1
      exact ⟨v, u, a, b, c, d, by rw [W_sF v u hE]; exact e⟩
    unfold ycJ at hc2
    rw [beq_iff_eq, Int.toNat_natCast] at hc2
    rw [hR, hc2] at hcount
    have hlen := sF_len hE
    rw [← hR, List.length_map] at hlen
    have e : genus = (es.map (·.2.2)).sum + 1 - n := by omega
    rw [e]; exact h
theorem p_rank_of {n : Nat} {es : List E3} {R0 : Int → Prop} {R1 : Int → List E3 → Int → List (List Int × Int) → Int → Prop} (G : GOk n es) (h : R1 n es (ycE es + 1 - n) [] 0) : yeP n es R0 R1 := by
  have := G.el
  unfold yeP
  refine yhC (by omega) G.g ⟨fun _ => ?_, fun q => absurd rfl q⟩
  refine yjG (by have := List.length_filter_le (fun x : E3 => decide (x.1 ≠ x.2.1)) es; unfold yeL; omega) (yjT G.g) (fun q hq S h0 h1 => ?_) (by rw [yjR]; exact h)
  obtain ⟨v, u, a, b, c, d, e⟩ := G.C q hq S h0 h1
  exact ⟨v, u, a, b, c, d, by rw [yjV]; exact e⟩
theorem ygh {n : Int} {es : List E3} {d : List Int} {R : Int → Int → Prop} (hl : es.length ≤ 1000) (h0 : yaH n es 0 d ≠ 0 → R 0 (yaH n es 0 d)) (h1 : yaH n es 0 d = 0 → GOk n.toNat es ∧ (∀ v, v < n.toNat → -200 ≤ gi d v ∧ gi d v ≤ 200) ∧ dg d ≤ 5 ∧ ∀ k, RkOk n.toNat es d k → R k 0) : ya5 n es d R := by
  unfold ya5
  refine yfz hl (by simp) ?_
  rw [yjX]
  refine ⟨fun hg => ?_, fun hg => h0 hg⟩
  obtain ⟨n, rfl⟩ : ∃ n' : Nat, n = (n' : Int) := ⟨n.toNat, by have := yb0 hg; omega⟩
  obtain ⟨G, hb, h5, hk⟩ := h1 hg
  simp only [Int.toNat_natCast] at G hb h5 hk
  have hd := (ydV (q := 0) hg).2.2.2.2.2.2.1
  exact p_rank_of G ⟨fun _ => p_find G hd hb h5 (MOk.nil n es) fun k m' hk' _ => hk k hk', fun q => absurd rfl q⟩
end Go.Proofs.YtmeoemmemjipdaaGreat

/- What chips.Next, rank.taken, rank.Witness and rank.AtLeast come to. -/
namespace Go.Proofs.YtmeoemmemjipdaaGreat
open Go Go.Proofs.Tryz
set_option linter.unusedVariables false
set_option linter.unusedSimpArgs false
theorem drop_zero {d : List Int} {k : Nat} (h : ∀ i, k ≤ i → i < d.length → gi d i = 0) : (d.drop k).sum = 0 := by
  rw [sum_dg]
  unfold dg
  rw [yap (g := fun _ => 0) fun i hi => ?_]
  · exact ybr _
  · rw [gi_drop]
    rw [List.length_drop] at hi
    exact h _ (by omega) (by omega)
theorem drop_one {d : List Int} {k : Nat} (hk : k < d.length) (h : ∀ i, k < i → i < d.length → gi d i = 0) : (d.drop k).sum = gi d k := by
  rw [List.drop_eq_getElem_cons hk, List.sum_cons, drop_zero (k := k + 1) fun i h1 h2 => h i (by omega) h2, ybb hk]
  omega
theorem p_chips_step {d : List Int} {R : Bool → List Int → Prop} (hl : d.length ≤ 1000) (h0 : 1 ≤ d.length) (hb : ∀ j, j < d.length → -1000000 ≤ gi d j ∧ gi d j ≤ 1000000) (h1 : ∀ y, yeC d = some y → R true y) (h2 : yeC d = none → R false d) : yc9 d R := by
  unfold yc9
  refine ⟨i64 (by omega), fun m j => ∃ k : Nat, j = (k : Int) ∧ m = k ∧ k < d.length ∧ ∀ i, k < i → i < d.length → gi d i = 0, ⟨d.length - 1, d.length - 1, by omega, rfl, by omega, fun i a b => by omega⟩, ?_⟩
  rintro m _ ⟨k, rfl, hm, hk, hz⟩
  simp only [Int.toNat_natCast]
  refine ⟨fun hpos => ⟨by omega, fun e => ⟨i64 (by omega), k - 1, by omega, k - 1, by omega, rfl, by omega, fun i a b => ?_⟩, fun e => ⟨fun q => by omega, fun _ => ?_⟩⟩, fun hneg => ⟨fun _ => h2 (yg9 d fun v hv => drop_zero fun i a b => hz i (by omega) b), fun q => by omega⟩⟩
  · by_cases q : i = k
    · rw [q]; exact e
    · exact hz i (by omega) b
  · obtain ⟨v, rfl⟩ : ∃ v, k = v + 1 := ⟨k - 1, by omega⟩
    have e1 : (((v + 1 : Nat) : Int) - 1).toNat = v := by omega
    have e2 : ((d.length : Int) - 1).toNat = d.length - 1 := by omega
    have hgk := hb (v + 1) hk
    have hgv := hb v (by omega)
    have hs : gi (d.set (v + 1) 0) v = gi d v := by rw [ybi hk, if_neg (by omega)]
    rw [e1, e2, hs]
    refine ⟨i64 (by omega), i64 (by omega), by rw [List.length_set]; omega, i64 (by omega), by rw [List.length_set, List.length_set]; omega, ?_⟩
    have hnx := nextF_some d v (by omega) (by rw [drop_one hk hz]; exact e) fun w hw hw2 => drop_zero fun i a b => hz i (by omega) b
    rw [drop_one hk hz] at hnx
    have e3 : ((d.set (v + 1) 0).set v (gi d v + 1)).set (d.length - 1) (gi d (v + 1) - 1) = d.take v ++ (gi d v + 1) :: ydB (d.length - v - 1) (gi d (v + 1) - 1) := by
      refine yeT (by rw [List.length_set, List.length_set, List.length_set, next_length (by omega)]) fun i hi => ?_
      rw [List.length_set, List.length_set, List.length_set] at hi
      rw [gi_next (by omega) _ _ hi, ybi (by rw [List.length_set, List.length_set]; omega), ybi (by rw [List.length_set]; omega), ybi hk]
      by_cases c1 : i = d.length - 1
      · rw [if_pos c1, if_neg (by omega), if_neg (by omega), if_pos (by omega)]
      · rw [if_neg c1]
        by_cases c2 : i = v
        · rw [if_pos c2, if_neg (by omega), if_pos c2]
        · rw [if_neg c2]
          by_cases c3 : i < v
          · rw [if_neg (by omega), if_pos c3]
          · rw [if_neg c3, if_neg c2, if_neg (show ¬ i + 1 = d.length by omega)]
            split
            · rfl
            · exact hz i (by omega) hi
    rw [e3]
    exact h1 _ hnx
theorem p_chips_Next {n : Nat} {d : List Int} {R : List Int → Bool → Int → Prop} (hn : 1 ≤ n ∧ n ≤ 12) (hd : d.length = n) (hb : ∀ j, j < n → 0 ≤ gi d j ∧ gi d j ≤ 80000) (h1 : ∀ y, yeC d = some y → R y true 0) (h2 : yeC d = none → R [] false 0) : yc3 d R := by
  have hdg : dg d ≤ 1000000 := by
    have := yc0 (f := gi d) (B := 80000) (by omega) (n := n) fun i hi => by have := hb i hi; omega
    rw [dg_n hd]; omega
  unfold yc3
  refine ygc hn hd (fun j hj => by have := hb j hj; omega) ⟨fun _ => yju (by omega) (by omega) fun m ⟨k, hk, hm⟩ _ => ⟨fun q => by have := hb k (by omega); omega, fun _ => ⟨fun q => by omega, fun _ => ?_⟩⟩, fun q => absurd rfl q⟩
  refine yfo (by omega) (p_chips_step (by omega) (by omega) (fun j hj => by have := hb j (by omega); omega) (fun y hy => ⟨fun _ => h1 y hy, fun q => absurd rfl q⟩) fun hy => ⟨fun q => (by cases q), fun _ => h2 hy⟩)
def takY (n : Nat) (d e : List Int) : List Int × List Int := (e, sb n d e)
theorem yga {N k : Nat} {d : List Int} (hN : N ≤ 11) (hk : k ≤ 1000) (hd : d.length = N + 1) (hb : ∀ v, v < N + 1 → -2000000 ≤ gi d v ∧ gi d v ≤ 2000000) :
    ybX d (k : Int) (fun l => l <+: (ybG (N + 1) k).map (takY (N + 1) d)) (fun l => l = (ybG (N + 1) k).map (takY (N + 1) d)) := by
  unfold ybX
  obtain ⟨⟨B, hB⟩, hs⟩ := ygj N k
  have hmem : ∀ e ∈ ybG (N + 1) k, Eff (N + 1) e (k : Int) := fun e he => ye3 he
  generalize ybG (N + 1) k = L at hB hs hmem
  simp only [Int.toNat_natCast]
  have e1 : ((d.length : Int) - 1).toNat = N := by omega
  have hfirst : (List.replicate d.length (0 : Int)).set N (k : Int) = ydB (N + 1) k := by
    refine yeT (by rw [ygH (by omega)]; simpa using hd) fun i hi => ?_
    rw [List.length_set, List.length_replicate] at hi
    rw [ybi (by simpa using (by omega : N < d.length)), gi_firstF]
    by_cases c : i = N
    · rw [if_pos c, if_pos (by omega)]
    · rw [if_neg c, if_neg (by omega), yif hi]
  rw [e1, hfirst]
  refine ⟨by omega, i64 (by omega), by rw [List.length_replicate]; omega, fun m pre e more => ∃ j, m = L.length - j ∧ j ≤ L.length ∧ pre = (L.take j).map (takY (N + 1) d) ∧ more = decide (j < L.length) ∧ (j < L.length → L[j]? = some e), ⟨L.length, 0, by omega, by omega, rfl, ?_, fun _ => by rw [hB]; rfl⟩, ?_⟩
  · rw [hB]; simp
  rintro m pre e _ ⟨j, rfl, hj, rfl, rfl, he⟩
  refine ⟨fun hmore => ?_, fun hmore => ?_⟩
  · have hjl : j < L.length := of_decide_eq_true hmore
    have he := he hjl
    have heff := hmem e (List.mem_of_getElem? he)
    have hel := heff.len
    have heb : ∀ v, v < N + 1 → 0 ≤ gi e v ∧ gi e v ≤ 1000 := fun v hv => by have := heff.pos v hv; have := heff.le hv; omega
    refine ⟨fun m3 pre3 v left => Cnt (N + 1) (fun i => pre3 = (L.take j).map (takY (N + 1) d) ∧ left = upto (fun i => gi d i - gi e i) i (N + 1)) m3 v, ?_, ?_⟩
    · rw [hd]; exact Cnt.start ⟨rfl, (yiM _ _).symm⟩
    rintro m3 _ _ left ⟨i, rfl, rfl, hi, rfl, rfl⟩
    simp only [Int.toNat_natCast, List.length_replicate, hd]
    refine ⟨fun hlt => ⟨by omega, by omega, i64 (by have := hb i (by omega); have := heb i (by omega); omega), by rw [ybR]; omega, Cnt.next (by omega) (by omega) ⟨by trivial, yjF (fun i => gi d i - gi e i) (by omega)⟩⟩, fun hge => ?_⟩
    have hi2 : i = N + 1 := by omega
    subst hi2
    rw [yjD]
    have hnext : (L.take j).map (takY (N + 1) d) ++ [(e, tab (fun i => gi d i - gi e i) (N + 1))] = (L.take (j + 1)).map (takY (N + 1) d) := by
      rw [List.take_add_one, he, List.map_append]; rfl
    have hsp : L = L.take j ++ e :: L.drop (j + 1) := by
      have := (List.take_append_drop j L).symm
      have h2 : L.drop j = e :: L.drop (j + 1) := by
        rw [List.drop_eq_getElem_cons hjl]
        rw [List.getElem?_eq_getElem hjl] at he
        injection he with he
        rw [he]
      rwa [h2] at this
    have hnx : yeC e = L[j + 1]? := by
      have h3 := yfq.at_ (A := L.take j) (d := e) (B := L.drop (j + 1)) (o := none) (by rw [← hsp]; exact hs)
      rw [h3, List.head?_drop]
      cases L[j + 1]? <;> rfl
    rw [hnext]
    refine ⟨(List.take_prefix _ _).map _, p_chips_Next (n := N + 1) ⟨by omega, by omega⟩ hel (fun v hv => by have := heb v hv; omega) (fun y hy => ?_) (fun hy => ?_), trivial⟩
    · rw [hnx] at hy
      have : j + 1 < L.length := (List.getElem?_eq_some_iff.1 hy).1
      exact ⟨L.length - (j + 1), by omega, j + 1, rfl, by omega, rfl, (decide_eq_true this).symm, fun _ => hy⟩
    · rw [hnx] at hy
      have : ¬ j + 1 < L.length := fun q => by rw [List.getElem?_eq_getElem q] at hy; cases hy
      exact ⟨L.length - (j + 1), by omega, j + 1, rfl, by omega, rfl, (decide_eq_false this).symm, fun q => absurd q this⟩
  · have e : j = L.length := by
      have : ¬ j < L.length := fun q => hmore (decide_eq_true q)
      omega
    rw [e, List.take_length]
structure FailAt (n : Nat) (es : List E3) (d : List Int) (k : Nat) (w : List Int) : Prop where
  at_ : ∃ A B, ybG n k = A ++ w :: B ∧ ∀ e ∈ A, Win n es (sb n d e)
  no : ¬ Win n es (sb n d w)
theorem first_eq {α : Type} {P : α → Prop} : ∀ {A B A' B' : List α} {x x' : α}, A ++ x :: B = A' ++ x' :: B' → (∀ e ∈ A, P e) → (∀ e ∈ A', P e) → ¬ P x → ¬ P x' → x = x'
  | [], B, [], B', x, x', h, _, _, _, _ => by injection h
  | [], B, a :: A', B', x, x', h, _, h', hx, _ => by injection h with e _; exact absurd (e ▸ h' a (by simp)) hx
  | a :: A, B, [], B', x, x', h, h', _, _, hx => by injection h with e _; exact absurd (e ▸ h' a (by simp)) hx
  | a :: A, B, a' :: A', B', x, x', h, h1, h2, hx, hx' => by injection h with _ e; exact first_eq e (fun z hz => h1 z (by simp [hz])) (fun z hz => h2 z (by simp [hz])) hx hx'
theorem FailAt.eq {n k : Nat} {es : List E3} {d w w' : List Int} (h : FailAt n es d k w) (h' : FailAt n es d k w') : w = w' := by
  obtain ⟨A, B, e, hA⟩ := h.at_
  obtain ⟨A', B', e', hA'⟩ := h'.at_
  exact first_eq (P := fun x => Win n es (sb n d x)) (e.symm.trans e') hA hA' h.no h'.no
theorem FailAt.mem {n k : Nat} {es : List E3} {d w : List Int} (h : FailAt (n + 1) es d k w) : Eff (n + 1) w (k : Int) := by
  obtain ⟨A, B, e, -⟩ := h.at_
  exact ye3 (by rw [e]; simp)
def WitOk (n : Nat) (es : List E3) (d w : List Int) : Prop := ∃ k, RkOk n es d k ∧ FailAt n es d (k + 1).toNat w
theorem WitOk.eq {n : Nat} (hn : 1 ≤ n) {es : List E3} {d w w' : List Int} (h : WitOk n es d w) (h' : WitOk n es d w') : w = w' := by
  obtain ⟨k, h1, h2⟩ := h
  obtain ⟨k', h1', h2'⟩ := h'
  have e := h1.eq hn h1'
  subst e
  exact h2.eq h2'
structure DOk (n : Nat) (es : List E3) (d : List Int) : Prop where
  G : GOk n es
  b : ∀ v, v < n → -150 ≤ gi d v ∧ gi d v ≤ 150
  d5 : dg d ≤ 5
theorem yhM {n k : Nat} (hn : n ≤ 4) (hk : k ≤ 6) : (ybG (n + 1) k).length ≤ 2401 := by
  have h1 := yei n k
  have h2 : (k + 1) ^ n ≤ 7 ^ n := Nat.pow_le_pow_left (by omega) n
  have h3 : 7 ^ n ≤ 7 ^ 4 := Nat.pow_le_pow_right (by omega) hn
  omega
theorem RkOk.six {n : Nat} {es : List E3} {d : List Int} (hn : 1 ≤ n) (hd : d.length = n) (h5 : dg d ≤ 5) {k : Int} (h : RkOk n es d k) : -1 ≤ k ∧ k ≤ 5 := by
  have := h.few hn hd
  omega
theorem p_rank_Witness {n : Int} {es : List E3} {d : List Int} {R : List Int → Int → Prop} (hl : es.length ≤ 1000) (h0 : yaH n es 0 d ≠ 0 → R [] (yaH n es 0 d)) (h1 : yaH n es 0 d = 0 → DOk n.toNat es d ∧ ∀ w, WitOk n.toNat es d w → R w 0) : ybA n es d R := by
  unfold ybA
  refine ygh hl (fun hg => ⟨fun q => absurd q hg, fun _ => h0 hg⟩) fun hg => ?_
  obtain ⟨hD, hw⟩ := h1 hg
  refine ⟨hD.G, fun v hv => by have := hD.b v hv; omega, hD.d5, fun k hk => ⟨fun _ => ?_, fun q => absurd rfl q⟩⟩
  obtain ⟨n, rfl⟩ : ∃ n' : Nat, n = (n' : Int) := ⟨n.toNat, by have := yb0 hg; omega⟩
  simp only [Int.toNat_natCast] at hD hw hk
  have hd := (ydV (q := 0) hg).2.2.2.2.2.2.1
  have hn1 := hD.G.n1
  have hn5 := hD.G.n5
  obtain ⟨N, rfl⟩ : ∃ N, n = N + 1 := ⟨n - 1, by omega⟩
  have hk6 := hk.six hn1 hd hD.d5
  obtain ⟨r, hr⟩ : ∃ r : Nat, k + 1 = (r : Int) := ⟨(k + 1).toNat, by omega⟩
  refine ⟨i64 (by omega), ?_⟩
  rw [hr]
  have hlen := yhM (n := N) (k := r) (by omega) (by omega)
  refine ⟨_, _, yga (by omega) (by omega) hd (fun v hv => by have := hD.b v hv; omega), fun pre nn => nn = pre.length ∧ ∃ A B, ybG (N + 1) r = A ++ B ∧ pre = A.map (takY (N + 1) d) ∧ ∀ e ∈ A, Win (N + 1) es (sb (N + 1) d e), ⟨rfl, [], _, rfl, rfl, fun e he => by simp at he⟩, ?_, ?_⟩
  · rintro pre y y2 nn ⟨rfl, A, B, hAB, rfl, hA⟩ hPr
    have hPr : A.map (takY (N + 1) d) ++ [(y, y2)] <+: (ybG (N + 1) r).map (takY (N + 1) d) := hPr
    rw [hAB, List.map_append, List.prefix_append_right_inj] at hPr
    obtain ⟨b, B', rfl, hb⟩ : ∃ b B', B = b :: B' ∧ takY (N + 1) d b = (y, y2) := by
      cases B with
      | nil => simp at hPr
      | cons b B' =>
        refine ⟨b, B', rfl, ?_⟩
        obtain ⟨t, ht⟩ := hPr
        injection ht with e _
        exact e.symm
    injection hb with e1 e2
    subst e1
    subst e2
    have hAl : A.length + 1 ≤ 2401 := by rw [hAB, List.length_append, List.length_cons] at hlen; omega
    have heff : Eff (N + 1) b (r : Int) := ye3 (by rw [hAB]; simp)
    have hbb : ∀ v, v < N + 1 → -200 ≤ gi (sb (N + 1) d b) v ∧ gi (sb (N + 1) d b) v ≤ 200 := fun v hv => by
      rw [yff hv]
      have := hD.b v hv
      have := heff.pos v hv
      have := heff.le hv
      omega
    simp only [List.length_map]
    refine ⟨i64 (by omega), fun q => by omega, fun _ => ?_⟩
    refine ycI (.inl (hD.G.small hbb)) (by rw [ycd]; omega) (fun q => absurd (hD.G.giv (ycd _ _ _) fun v hv => by have := hbb v hv; omega) q) fun _ _ _ _ bb hbw => ⟨fun _ => ⟨fun hbt => ?_, fun hbf => ?_⟩, fun q => absurd rfl q⟩
    · simp only [Int.toNat_natCast] at hbw
      refine ⟨by rw [List.length_append, List.length_map, List.length_singleton]; omega, A ++ [b], B', by rw [hAB]; simp, by rw [List.map_append]; rfl, fun e he => ?_⟩
      rcases List.mem_append.1 he with q | q
      · exact hA e q
      · rw [List.mem_singleton] at q; subst q; exact hbw.1 hbt
    · simp only [Int.toNat_natCast] at hbw
      exact hw b ⟨k, hk, ⟨A, B', by rw [hr]; exact hAB, hA⟩, fun q => hbf (hbw.2 q)⟩
  · rintro ys nn ⟨rfl, A, B, hAB, rfl, hA⟩ hR
    have hR : A.map (takY (N + 1) d) = (ybG (N + 1) r).map (takY (N + 1) d) := hR
    have hB : B = [] := by
      have := congrArg List.length hR
      rw [hAB, List.length_map, List.length_map, List.length_append] at this
      exact List.length_eq_zero_iff.1 (by omega)
    subst hB
    rw [List.append_nil] at hAB
    exact absurd (fun e he => hA e (by rw [← hAB]; exact yhT (by rw [← hr]; exact he))) hk.no
theorem p_rank_AtLeast {n r : Int} {es : List E3} {d : List Int} {R : Bool → Int → Prop} (hl : es.length ≤ 1000) (h0 : yaH n es 0 d ≠ 0 → R false (yaH n es 0 d)) (h1 : yaH n es 0 d = 0 → r < 0 → R true 0) (h2 : yaH n es 0 d = 0 → 0 ≤ r → DOk n.toNat es d ∧ ∀ k, RkOk n.toNat es d k → R (decide (r ≤ k)) 0) : ycs n es d r R := by
  unfold ycs
  refine yfz hl (by simp) ?_
  rw [yjX]
  refine ⟨yaH n es 0 d = 0 ∧ 0 ≤ r, fun ⟨hg, hr⟩ => ?_, fun hg => ⟨fun hr => ?_, fun hr => ⟨hg, by omega⟩⟩, fun hg => ?_⟩
  · obtain ⟨hD, hk⟩ := h2 hg hr
    exact ygh hl (fun q => absurd hg q) fun _ => ⟨hD.G, fun v hv => by have := hD.b v hv; omega, hD.d5, fun k hk' => ⟨fun _ => hk k hk', fun q => absurd rfl q⟩⟩
  · rw [hg, decide_eq_true rfl]; exact h1 hg hr
  · rw [decide_eq_false hg]; exact h0 hg
end Go.Proofs.YtmeoemmemjipdaaGreat

/- What the reference of ranks comes to. -/
namespace Go.Proofs.YtmeoemmemjipdaaGreat
open Go Go.Proofs.Tryz
set_option linter.unusedVariables false
set_option linter.unusedSimpArgs false
theorem flat_mono {f : Nat → List (List Int)} {a b : Nat} (h : a ≤ b) : ((List.range a).flatMap f).length ≤ ((List.range b).flatMap f).length := by
  induction b with
  | zero => rw [show a = 0 by omega]; exact Nat.le_refl _
  | succ b ih =>
    by_cases e : a = b + 1
    · rw [e]; exact Nat.le_refl _
    · have := ih (by omega)
      rw [List.range_succ, List.flatMap_append, List.length_append]; omega
theorem yfD : ∀ (N fu k : Nat) {R : List (List Int) → Prop}, N < fu → (k + 1) ^ N ≤ 1000000 → N ≤ 11 → k ≤ 1000 → R (ybG (N + 1) k) → yb9 fu ((N + 1 : Nat) : Int) (k : Int) R
  | N, 0, k, R, hf, _, _, _, _ => by omega
  | 0, fu + 1, k, R, _, _, _, _, h => by
    show ybS (yb9 fu) ((0 + 1 : Nat) : Int) (k : Int) R
    unfold ybS
    exact ⟨fun q => by omega, fun _ => ⟨fun _ => h, fun q => by omega⟩⟩
  | N + 1, fu + 1, k, R, hf, hp, hN, hk, h => by
    show ybS (yb9 fu) ((N + 1 + 1 : Nat) : Int) (k : Int) R
    unfold ybS
    refine ⟨fun q => by omega, fun _ => ⟨fun q => by omega, fun _ => ?_⟩⟩
    have hlen := yei (N + 1) k
    obtain ⟨f, hfd⟩ : ∃ f : Nat → List (List Int), f = fun i => (ybG (N + 1) (k - i)).map ((i : Int) :: ·) := ⟨_, rfl⟩
    have hL : ybG (N + 1 + 1) k = (List.range (k + 1)).flatMap f := by rw [hfd]; rfl
    rw [hL] at h hlen
    refine ⟨fun m out v => Cnt (k + 1) (fun i => out = (List.range i).flatMap f) m v, Cnt.start rfl, ?_⟩
    rintro m out _ ⟨i, rfl, rfl, hi, rfl⟩
    refine ⟨fun hle => ⟨i64 (by omega), i64 (by omega), ?_⟩, fun hgt => ?_⟩
    · have e1 : ((N + 1 + 1 : Nat) : Int) - 1 = ((N + 1 : Nat) : Int) := by omega
      have e2 : (k : Int) - (i : Int) = ((k - i : Nat) : Int) := by omega
      rw [e1, e2]
      have hpw : (k - i + 1) ^ N ≤ 1000000 := by
        have h1 : (k - i + 1) ^ N ≤ (k + 1) ^ N := Nat.pow_le_pow_left (by omega) N
        have h2 : (k + 1) ^ N ≤ (k + 1) ^ (N + 1) := Nat.pow_le_pow_right (by omega) (by omega)
        omega
      refine yfD N fu (k - i) (by omega) hpw (by omega) (by omega) ?_
      have hsucc : (List.range (i + 1)).flatMap f = (List.range i).flatMap f ++ (ybG (N + 1) (k - i)).map ((i : Int) :: ·) := by
        rw [List.range_succ, List.flatMap_append]
        simp [hfd]
      have htot : ((List.range (i + 1)).flatMap f).length ≤ 1000000 := by
        have := flat_mono (f := f) (a := i + 1) (b := k + 1) (by omega)
        omega
      rw [hsucc, List.length_append, List.length_map] at htot
      have hml : ∀ e ∈ ybG (N + 1) (k - i), e.length = N + 1 := fun e he => ((ydW N (k - i) e).1 he).1
      generalize ybG (N + 1) (k - i) = r at hsucc htot hml
      refine ⟨fun m out v => Cnt r.length (fun j => out = (List.range i).flatMap f ++ (r.take j).map ((i : Int) :: ·)) m v, Cnt.start (by simp), ?_⟩
      rintro m2 _ _ ⟨j, rfl, rfl, hj, rfl⟩
      simp only [Int.toNat_natCast]
      refine ⟨fun hlt => ⟨by omega, ?_, ?_, Cnt.next (by omega) (by omega) ?_⟩, fun hge => Cnt.next (by omega) (by omega) ?_⟩
      · have := hml _ (List.mem_of_getElem? (yd1 (show j < r.length by omega)))
        simp only [List.length_singleton]; omega
      · rw [List.length_append, List.length_map, List.length_take]; omega
      · rw [List.take_add_one, yd1 (show j < r.length by omega), List.map_append, List.append_assoc]; rfl
      · have e : j = r.length := by omega
        rw [hsucc, e, List.take_length]
    · have e : i = k + 1 := by omega
      rw [e]; exact h
theorem plus_sb {n : Nat} {d e : List Int} (hd : d.length = n) : plusF d e (-1) = sb n d e := by
  unfold plusF sb
  rw [hd]
  exact tab_congr fun i _ => by omega
section
variable {N : Nat} {es : List E3} {d : List Int}
theorem p_r38_Fails {k : Nat} {R : List Int → Bool → Prop} (hD : DOk (N + 1) es d) (hd : d.length = N + 1) (hk : k ≤ 6) (h1 : ∀ w, FailAt (N + 1) es d k w → R w true) (h2 : AL (N + 1) es d (k : Int) → R [] false) : ydx ((N + 1 : Nat) : Int) es d (k : Int) R := by
  have hn5 := hD.G.n5
  have hel := hD.G.el
  unfold ydx
  have hpw : (k + 1) ^ N ≤ 2401 := by
    have h2 : (k + 1) ^ N ≤ 7 ^ N := Nat.pow_le_pow_left (by omega) N
    have h3 : 7 ^ N ≤ 7 ^ 4 := Nat.pow_le_pow_right (by omega) (by omega)
    omega
  have hlen := yei N k
  refine ⟨N + 1, yfD N (N + 1) k (by omega) (by omega) (by omega) (by omega) ?_⟩
  have hmem : ∀ e ∈ ybG (N + 1) k, Eff (N + 1) e (k : Int) := fun e he => ye3 he
  have hAL : (∀ e ∈ ybG (N + 1) k, Win (N + 1) es (sb (N + 1) d e)) → AL (N + 1) es d (k : Int) := fun q e he => q e (yhT he)
  have hF : ∀ A w B, ybG (N + 1) k = A ++ w :: B → (∀ e ∈ A, Win (N + 1) es (sb (N + 1) d e)) → ¬ Win (N + 1) es (sb (N + 1) d w) → FailAt (N + 1) es d k w := fun A w B e hA hw => ⟨⟨A, B, e, hA⟩, hw⟩
  generalize ybG (N + 1) k = L at hlen hmem hAL hF
  refine ⟨fun m v => Cnt L.length (fun j => ∀ e ∈ L.take j, Win (N + 1) es (sb (N + 1) d e)) m v, Cnt.start (fun e he => by simp at he), ?_⟩
  rintro m _ ⟨j, rfl, rfl, hj, hinv⟩
  simp only [Int.toNat_natCast]
  refine ⟨fun hlt => ⟨by omega, ?_⟩, fun hge => ?_⟩
  · have hjl : j < L.length := by omega
    have heff := hmem _ (List.mem_of_getElem? (yd1 hjl))
    have hbb : ∀ v, v < N + 1 → 0 ≤ gi (gx L j) v ∧ gi (gx L j) v ≤ 6 := fun v hv => by have := heff.pos v hv; have := heff.le hv; omega
    refine yf1 (by omega) (by rw [heff.len]; omega) (by omega) (fun v hv => by have := hD.b v (by omega); omega) (fun v hv => by have := hbb v (by omega); omega) ?_
    rw [plus_sb hd]
    refine p_r36_Wins (by omega) hD.G.g hD.G.c (ycd _ _ _) (fun v hv => by rw [yff hv]; have := hD.b v hv; have := hbb v hv; omega) (fun hw => ⟨fun _ => Cnt.next (by omega) (by omega) fun e he => ?_, fun q => absurd rfl q⟩) fun hw => ⟨fun q => (by cases q), fun _ => h1 _ ?_⟩
    · rw [List.take_add_one, yd1 hjl] at he
      rcases List.mem_append.1 he with q | q
      · exact hinv e q
      · have : e = gx L j := by simpa using q
        rw [this]; exact hw
    · refine hF (L.take j) _ (L.drop (j + 1)) ?_ hinv hw
      have h3 : L.drop j = gx L j :: L.drop (j + 1) := by rw [List.drop_eq_getElem_cons hjl, yen hjl]
      rw [← h3, List.take_append_drop]
  · have e : j = L.length := by omega
    rw [e, List.take_length] at hinv
    exact h2 (hAL hinv)
theorem p_r38_Of {R : Int → Prop} (hD : DOk (N + 1) es d) (hd : d.length = N + 1) (h : ∀ k, RkOk (N + 1) es d k → R k) : yfQ ((N + 1 : Nat) : Int) es d R := by
  have hn5 := hD.G.n5
  unfold yfQ
  refine ⟨fun m r => ∃ k : Nat, r = (k : Int) - 1 ∧ k ≤ 6 ∧ m = 6 - k ∧ AL (N + 1) es d ((k : Int) - 1), ⟨6, 0, by omega, by omega, rfl, al_neg (by omega)⟩, ?_⟩
  rintro m _ ⟨k, rfl, hk, rfl, hal⟩
  have e1 : (k : Int) - 1 + 1 = (k : Int) := by omega
  have h5 := hD.d5
  refine ycO (by omega) (fun i hi => by have := hD.b i (by omega); omega) ⟨fun hlt => ⟨i64 (by omega), ?_⟩, fun hge => h _ ⟨by omega, hal, fun q => ?_⟩⟩
  · rw [e1]
    refine p_r38_Fails hD hd hk (fun w hw => ⟨fun _ => h _ ⟨by omega, hal, fun q => hw.no ?_⟩, fun q => absurd rfl q⟩) fun q => ⟨fun q => (by cases q), fun _ => ⟨6 - (k + 1), by omega, k + 1, by omega, by omega, rfl, ?_⟩⟩
    · rw [e1] at q; exact q w hw.mem
    · rw [show ((k + 1 : Nat) : Int) - 1 = (k : Int) by omega]; exact q
  · rw [e1] at q
    have he := eff_at (n := N + 1) (by omega) (k := (k : Int)) (by omega)
    have h1 := win_dg (ycd (N + 1) d _) (q _ he)
    rw [dg_sb hd he.len, he.deg] at h1
    omega
end
theorem given_nat {n : Int} {es : List E3} {d : List Int} (hg : yaH n es 0 d = 0) (hD : DOk n.toNat es d) : ∃ N : Nat, n = ((N + 1 : Nat) : Int) ∧ d.length = N + 1 := by
  have h1 := ydV (n := n.toNat) (q := 0) (es := es) (d := d) (by rw [show ((n.toNat : Nat) : Int) = n from by have := yb0 hg; omega]; exact hg)
  have h2 := yb0 hg
  exact ⟨n.toNat - 1, by omega, by have := h1.2.2.2.2.2.2.1; omega⟩
structure FewOk (n : Int) (es : List E3) (d : List Int) (most : Int) : Prop where
  s : yhl n es 5 7 = true
  l : d.length ≤ 100
  g : yaH n es 0 d = 0 → lowF n d = true ∧ dg d ≤ most
theorem FewOk.el {n : Int} {es : List E3} {d : List Int} {most : Int} (h : FewOk n es d most) : es.length ≤ 40 := (of_decide_eq_true h.s).1
theorem gok_of {n : Int} {es : List E3} (hs : yhl n es 5 7 = true) (hg : yat n es = 0) (hc : ycJ n es = true) : GOk n.toNat es := by
  obtain ⟨h1, h2⟩ := of_decide_eq_true hs
  have h3 := h2 hg
  have hn : 1 ≤ n ∧ n ≤ 12 := by unfold yat at hg; split at hg; · assumption
                                 · omega
  have e : ((n.toNat : Nat) : Int) = n := by omega
  exact ⟨by rw [e]; exact hg, by rw [e]; exact hc, h1, by omega, by omega, by omega⟩
theorem FewOk.dok {n : Int} {es : List E3} {d : List Int} {most : Int} (h : FewOk n es d most) (hm : most ≤ 5) (hg : yaH n es 0 d = 0) : DOk n.toNat es d := by
  obtain ⟨h1, h2⟩ := h.g hg
  have h3 := yb0 hg
  have e : ((n.toNat : Nat) : Int) = n := by omega
  have h4 := ydV (n := n.toNat) (q := 0) (es := es) (d := d) (by rw [e]; exact hg)
  have h5 := (ygv.1 h1).2 (by have := h4.2.2.2.2.2.2.2; rwa [e] at this)
  have h6 := h4.2.2.2.2.2.2.1
  exact ⟨gok_of h.s (by have := h4.2.2.2.1; rwa [e] at this) (by have := h4.2.2.2.2.1; rwa [e] at this), fun v hv => by have := h5 v (by omega); omega, by omega⟩
theorem p_r38_Few {n most : Int} {es : List E3} {d : List Int} {R : Bool → Prop} (h1 : FewOk n es d most → R true) (h2 : ¬ FewOk n es d most → R false) : yeF n es d most R := by
  unfold yeF
  refine ⟨yhl n es 5 7 = true ∧ d.length ≤ 100, fun ⟨hs, hl⟩ => ?_, p_r08_small ⟨fun hs => ⟨fun hl => h2 fun q => by have := q.l; omega, fun hl => ⟨hs, by omega⟩⟩, fun hs => h2 fun q => hs q.s⟩⟩
  have hel := (of_decide_eq_true hs).1
  refine yiq (by omega) ⟨fun hg => p_r34_Low ⟨fun hlo => ycO (by omega) (fun i hi => ?_) ?_, fun hlo => h2 fun q => hlo (q.g hg).1⟩, fun hg => h1 ⟨hs, hl, fun q => absurd q hg⟩⟩
  · have h3 := yb0 hg
    have e : ((n.toNat : Nat) : Int) = n := by omega
    have h4 := ydV (n := n.toNat) (q := 0) (es := es) (d := d) (by rw [e]; exact hg)
    have := (ygv.1 hlo).2 (by have := h4.2.2.2.2.2.2.2; rwa [e] at this) i hi
    omega
  · by_cases q : dg d ≤ most
    · rw [decide_eq_true q]; exact h1 ⟨hs, hl, fun _ => ⟨hlo, q⟩⟩
    · rw [decide_eq_false q]; exact h2 fun f => q (f.g hg).2
end Go.Proofs.YtmeoemmemjipdaaGreat

/- What rank.VerifyLess, rank.Verify and rank.Certificate come to, and their references. -/
namespace Go.Proofs.YtmeoemmemjipdaaGreat
open Go Go.Proofs.Tryz
set_option linter.unusedVariables false
set_option linter.unusedSimpArgs false
section
variable {n : Int} {es : List E3} {d e s : List Int} {b : Bool} {R : Int → Prop}
end
section
variable {n : Int} {es : List E3} {d : List Int} {r : Int} {l : List (List Int)} {R : Int → Prop}
end
def yeM (n : Nat) (es : List E3) (d : List Int) : List (List Int) → List (List Int) → Prop
  | [], [] => True
  | e :: A, s :: out => (∃ x, Reduces n es 0 (sb n d e) x s) ∧ yeM n es d A out
  | _, _ => False
section
variable {n : Nat} {es : List E3} {d : List Int}
theorem yeM.snoc : ∀ {A out : List (List Int)} {e s x : List Int}, yeM n es d A out → Reduces n es 0 (sb n d e) x s → yeM n es d (A ++ [e]) (out ++ [s])
  | [], [], e, s, x, _, h => ⟨⟨x, h⟩, trivial⟩
  | [], _ :: _, _, _, _, q, _ => absurd q id
  | _ :: _, [], _, _, _, q, _ => absurd q id
  | a :: A, o :: out, e, s, x, ⟨h1, h2⟩, h => ⟨h1, yeM.snoc h2 h⟩
theorem yeM.len : ∀ {A out : List (List Int)}, yeM n es d A out → out.length = A.length
  | [], [], _ => rfl
  | [], _ :: _, q => absurd q id
  | _ :: _, [], q => absurd q id
  | a :: A, o :: out, ⟨_, h2⟩ => by rw [List.length_cons, List.length_cons, yeM.len h2]
theorem yeM.eq (hE : EOk n es) (hn : 1 ≤ n) : ∀ {A o o' : List (List Int)}, yeM n es d A o → yeM n es d A o' → o = o'
  | [], [], [], _, _ => rfl
  | [], [], _ :: _, _, q => absurd q id
  | [], _ :: _, _, q, _ => absurd q id
  | _ :: _, [], _, q, _ => absurd q id
  | _ :: _, _ :: _, [], _, q => absurd q id
  | a :: A, s :: o, s' :: o', ⟨⟨x, hx⟩, h2⟩, ⟨⟨y, hy⟩, h2'⟩ => by
    rw [yeM.eq hE hn h2 h2', (yhf hE (by omega) hx hy.dl hy.sl hy.lp hy.sq hy.red).2]
theorem yeM.at_ : ∀ {A out : List (List Int)}, yeM n es d A out → ∀ i, i < A.length → ∃ x, Reduces n es 0 (sb n d (gx A i)) x (gx out i)
  | [], [], _, i, hi => by simp at hi
  | [], _ :: _, q, _, _ => absurd q id
  | _ :: _, [], q, _, _ => absurd q id
  | a :: A, o :: out, ⟨h1, _⟩, 0, _ => by rw [yh4, yh4]; exact h1
  | a :: A, o :: out, ⟨_, h2⟩, i + 1, hi => by rw [yii, yii]; exact yeM.at_ h2 i (by simpa using hi)
end
theorem ygO {n r : Int} {es : List E3} {d : List Int} {R : List (List Int) → Int → Prop} (hl : es.length ≤ 1000) (h0 : yaH n es 0 d ≠ 0 → R [] (yaH n es 0 d)) (h1 : yaH n es 0 d = 0 → r < 0 → R [] 2)
    (h2 : yaH n es 0 d = 0 → 0 ≤ r → DOk n.toNat es d ∧ ∀ k, RkOk n.toNat es d k → (k < r → R [] 15) ∧ (r ≤ k → ∀ out, yeM n.toNat es d (ybG n.toNat r.toNat) out → R out 0)) : ybD n es d r R := by
  unfold ybD
  refine yfz hl (by simp) ?_
  rw [yjX]
  refine ⟨fun hg => ⟨fun hr => h1 hg hr, fun hr => ?_⟩, fun hg => h0 hg⟩
  obtain ⟨hD, hk⟩ := h2 hg (by omega)
  refine p_rank_AtLeast hl (fun q => absurd hg q) (fun _ q => by omega) fun _ _ => ⟨hD, fun k hk' => ⟨fun _ => ⟨fun ht => ?_, fun hf => ?_⟩, fun q => absurd rfl q⟩⟩
  · have hrk : r ≤ k := of_decide_eq_true ht
    have hk := (hk k hk').2 hrk
    obtain ⟨n, rfl⟩ : ∃ n' : Nat, n = (n' : Int) := ⟨n.toNat, by have := yb0 hg; omega⟩
    obtain ⟨r, rfl⟩ : ∃ r' : Nat, r = (r' : Int) := ⟨r.toNat, by omega⟩
    simp only [Int.toNat_natCast] at hD hk hk'
    have hd := (ydV (q := 0) hg).2.2.2.2.2.2.1
    have hn1 := hD.G.n1
    have hn5 := hD.G.n5
    obtain ⟨N, rfl⟩ : ∃ N, n = N + 1 := ⟨n - 1, by omega⟩
    have hk6 := hk'.six hn1 hd hD.d5
    have hlen := yhM (n := N) (k := r) (by omega) (by omega)
    refine ⟨_, _, yga (by omega) (by omega) hd (fun v hv => by have := hD.b v hv; omega), fun pre out => ∃ A B, ybG (N + 1) r = A ++ B ∧ pre = A.map (takY (N + 1) d) ∧ yeM (N + 1) es d A out, ⟨[], _, rfl, rfl, trivial⟩, ?_, ?_⟩
    · rintro pre y y2 out ⟨A, B, hAB, rfl, hA⟩ hPr
      have hPr : A.map (takY (N + 1) d) ++ [(y, y2)] <+: (ybG (N + 1) r).map (takY (N + 1) d) := hPr
      rw [hAB, List.map_append, List.prefix_append_right_inj] at hPr
      obtain ⟨b, B', rfl, hb⟩ : ∃ b B', B = b :: B' ∧ takY (N + 1) d b = (y, y2) := by
        cases B with
        | nil => simp at hPr
        | cons b B' =>
          refine ⟨b, B', rfl, ?_⟩
          obtain ⟨t, ht⟩ := hPr
          injection ht with e _
          exact e.symm
      injection hb with e1 e2
      subst e1
      subst e2
      have hAl : A.length + 1 ≤ 2401 := by rw [hAB, List.length_append, List.length_cons] at hlen; omega
      have hol := hA.len
      have heff : Eff (N + 1) b (r : Int) := ye3 (by rw [hAB]; simp)
      have hbb : ∀ v, v < N + 1 → -200 ≤ gi (sb (N + 1) d b) v ∧ gi (sb (N + 1) d b) v ≤ 200 := fun v hv => by
        rw [yff hv]
        have := hD.b v hv
        have := heff.pos v hv
        have := heff.le hv
        omega
      refine ⟨fun q => by omega, fun _ => ?_⟩
      refine ycI (.inl (hD.G.small hbb)) (by rw [ycd]; omega) (fun q => absurd (hD.G.giv (ycd _ _ _) fun v hv => by have := hbb v hv; omega) q) fun _ x s hs bb hbw => ⟨fun _ => ⟨by omega, A ++ [b], B', by rw [hAB]; simp, by rw [List.map_append]; rfl, hA.snoc hs⟩, fun q => absurd rfl q⟩
    · rintro ys out ⟨A, B, hAB, rfl, hA⟩ hR
      have hR : A.map (takY (N + 1) d) = (ybG (N + 1) r).map (takY (N + 1) d) := hR
      have hB : B = [] := by
        have := congrArg List.length hR
        rw [hAB, List.length_map, List.length_map, List.length_append] at this
        exact List.length_eq_zero_iff.1 (by omega)
      subst hB
      rw [List.append_nil] at hAB
      rw [← hAB] at hA
      exact hk out hA
  · have hrk : ¬ r ≤ k := fun q => hf (decide_eq_true q)
    exact (hk k hk').1 (by omega)
end Go.Proofs.YtmeoemmemjipdaaGreat

/- Pure forms of functions, made by program (pf.py), each with the proof that the code does so. -/
namespace Go.Proofs.YtmeoemmemjipdaaGreat
open Go Go.RowKit Go.Shelf Go.Proofs.Tryz
set_option linter.unusedVariables false
set_option maxRecDepth 100000
set_option maxHeartbeats 1000000
def yaQ (s1 : List (List Int)) (s2 : List (List Int)) (Feq : (List Int) → (List Int) → (Bool → Prop) → Prop) (R : Bool → Prop) : Prop :=
((((s1.length : Nat) : Int) = ((s2.length : Nat) : Int) →
(∃ I2 : Nat → Int → Prop, (∃ m0, I2 m0 0) ∧ ∀ m2 v, I2 m2 v → 
((v < ((s1.length : Nat) : Int) →
((0 ≤ v ∧ v < ((s1.length : Nat) : Int)) ∧
((0 ≤ v ∧ v < ((s2.length : Nat) : Int)) ∧
Feq (gx s1 v.toNat) (gx s2 v.toNat) (fun (r : Bool) =>
((r = true →
(In64 (v + 1) ∧
∃ m3, m3 < m2 ∧ I2 m3 (v + 1))) ∧
(¬ (r = true) →
R false)))))) ∧
(¬ (v < ((s1.length : Nat) : Int)) →
R true)))) ∧
(¬ (((s1.length : Nat) : Int) = ((s2.length : Nat) : Int)) →
R false))
theorem ydN {O : Nat → Prop} {w : World} {s1 : List (List Int)} {s2 : List (List Int)} {Feq : (List Int) → (List Int) → (Bool → Prop) → Prop} {As1 : Option Addr} {ls1 : Nat} {cs1 : Nat} {As2 : Option Addr} {ls2 : Nat} {cs2 : Nat} {eq : Value} {R : Bool → Prop} (h : yaQ s1 s2 Feq R) (hO : ∀ k, O k → k < w.heap.size) (hA0 : (FP.sl (cL cI) As1 ls1 cs1 s1).P O w) (hA1 : (FP.sl (cL cI) As2 ls2 cs2 s2).P O w) (hA2 : (FP.st fun w' => ∃ (fid : Nat) (us : Array Value), eq = Value.func (.func fid) #[] us ∧ Enters Tryz.prog fid ∧ ∀ (x0 : List Int) (x1 : List Int) (Ax0 : Option Addr) (lx0 : Nat) (cx0 : Nat) (Ax1 : Option Addr) (lx1 : Nat) (cx1 : Nat) (R : Bool → Prop), Feq x0 x1 R → (FP.sl cI Ax0 lx0 cx0 x0).P no w' → (FP.sl cI Ax1 lx1 cx1 x1).P no w' → Calls Tryz.prog fid (#[(Value.slice Ax0 lx0 cx0), (Value.slice Ax1 lx1 cx1)] ++ us) w' fun e w'' => ∃ r0 : Bool, e = .returned (Value.bool (r0)) ∧ Sep w' no no w'' (rl []) ∧ R r0).P O w) :
    Calls Tryz.prog 11 #[(.slice As1 ls1 cs1), (.slice As2 ls2 cs2), eq] w fun e w' => ∃ r2, e = .returned (.bool (r2)) ∧ Sep w no O w' (rl []) ∧ R r2 := by
  unfold yaQ at h; have hS : Sep w no O w (rl [Res.ro (FP.sl (cL cI) As1 ls1 cs1 s1), Res.ro (FP.sl (cL cI) As2 ls2 cs2 s2), Res.ro (FP.st fun w' => ∃ (fid : Nat) (us : Array Value), eq = Value.func (.func fid) #[] us ∧ Enters Tryz.prog fid ∧ ∀ (x0 : List Int) (x1 : List Int) (Ax0 : Option Addr) (lx0 : Nat) (cx0 : Nat) (Ax1 : Option Addr) (lx1 : Nat) (cx1 : Nat) (R : Bool → Prop), Feq x0 x1 R → (FP.sl cI Ax0 lx0 cx0 x0).P no w' → (FP.sl cI Ax1 lx1 cx1 x1).P no w' → Calls Tryz.prog fid (#[(Value.slice Ax0 lx0 cx0), (Value.slice Ax1 lx1 cx1)] ++ us) w' fun e w'' => ∃ r0 : Bool, e = .returned (Value.bool (r0)) ∧ Sep w' no no w'' (rl []) ∧ R r0)]) := Sep.startl hO [(FP.sl (cL cI) As1 ls1 cs1 s1), (FP.sl (cL cI) As2 ls2 cs2 s2), (FP.st fun w' => ∃ (fid : Nat) (us : Array Value), eq = Value.func (.func fid) #[] us ∧ Enters Tryz.prog fid ∧ ∀ (x0 : List Int) (x1 : List Int) (Ax0 : Option Addr) (lx0 : Nat) (cx0 : Nat) (Ax1 : Option Addr) (lx1 : Nat) (cx1 : Nat) (R : Bool → Prop), Feq x0 x1 R → (FP.sl cI Ax0 lx0 cx0 x0).P no w' → (FP.sl cI Ax1 lx1 cx1 x1).P no w' → Calls Tryz.prog fid (#[(Value.slice Ax0 lx0 cx0), (Value.slice Ax1 lx1 cx1)] ++ us) w' fun e w'' => ∃ r0 : Bool, e = .returned (Value.bool (r0)) ∧ Sep w' no no w'' (rl []) ∧ R r0)] ⟨hA0, hA1, hA2, trivial⟩; refine yar (l := [(Value.slice As1 ls1 cs1), (Value.slice As2 ls2 cs2), eq]) func11 rfl ntmps11 (Nat.le_of_ble_eq_true rfl) ?_; refine yac ?_; refine yaT ya8 ?_; refine rl_q rfl rfl rfl (v_assign (v := (.bool (false))) rfl) ?_; refine yaa ?_; refine yac ?_; refine yac ?_; refine yaT ya8 ?_; refine rl_q rfl rfl rfl (yab (v := (.slice As1 ls1 cs1)) rfl) ?_; refine rl_q rfl rfl rfl (yaO (n := s1.length) rfl underlying29 (yaL (hS.rdr 0 rfl))) ?_; refine rl_q rfl rfl rfl (yab (v := (.slice As2 ls2 cs2)) rfl) ?_; refine rl_q rfl rfl rfl (yaO (n := s2.length) rfl underlying33 (yaL (hS.rdr 1 rfl))) ?_; refine rl_q rfl rfl rfl (ybf rfl rfl) ?_; refine yaa ?_; by_cases hp : ((s1.length : Nat) : Int) = ((s2.length : Nat) : Int)
  · replace h := h.1 hp; refine yay (congrArg Value.bool (congrArg Bool.not (decide_eq_true hp))) ?_; refine yaf ?_; refine yac ?_; refine yac ?_; refine yaT ya8 ?_; refine rl_q rfl rfl rfl (yab (v := (.slice As1 ls1 cs1)) rfl) ?_; refine rl_q rfl rfl rfl (yaO (n := s1.length) rfl underlying29 (yaL (hS.rdr 0 rfl))) ?_; refine rl_q rfl rfl rfl (yab (v := (.int .i64 0)) rfl) ?_; refine yaa ?_; refine yak ?_; obtain ⟨I2, ⟨m0, h0⟩, hr⟩ := h; refine yaw (fun m E ds w' => ∃ v : Int, I2 m v ∧ ds = [] ∧ E 1 = (Value.slice As2 ls2 cs2) ∧ E 2 = eq ∧ E 15 = (Value.slice As1 ls1 cs1) ∧ E 16 = (Value.int .i64 ((s1.length : Nat) : Int)) ∧ E 17 = (Value.int .i64 v) ∧ Sep w no O w' (rl [Res.ro (FP.sl (cL cI) As2 ls2 cs2 s2), Res.ro (FP.st fun w' => ∃ (fid : Nat) (us : Array Value), eq = Value.func (.func fid) #[] us ∧ Enters Tryz.prog fid ∧ ∀ (x0 : List Int) (x1 : List Int) (Ax0 : Option Addr) (lx0 : Nat) (cx0 : Nat) (Ax1 : Option Addr) (lx1 : Nat) (cx1 : Nat) (R : Bool → Prop), Feq x0 x1 R → (FP.sl cI Ax0 lx0 cx0 x0).P no w' → (FP.sl cI Ax1 lx1 cx1 x1).P no w' → Calls Tryz.prog fid (#[(Value.slice Ax0 lx0 cx0), (Value.slice Ax1 lx1 cx1)] ++ us) w' fun e w'' => ∃ r0 : Bool, e = .returned (Value.bool (r0)) ∧ Sep w' no no w'' (rl []) ∧ R r0), Res.ro (FP.sl (cL cI) As1 ls1 cs1 s1)])) m0 ⟨_, h0, rfl, rfl, rfl, rfl, rfl, rfl, (hS.sel [1, 2, 0] (by decide))⟩ ?_; clear h0 hS; rintro m2 E ds w2 ⟨v, h, rfl, hE1, hE2, hE15, hE16, hE17, hS⟩ again; replace h := hr m2 v h; clear hr; refine yac ?_; refine yaT ya8 ?_; refine rl_q rfl rfl rfl (yaJ hE17 hE16) ?_; refine yaa ?_; refine yac ?_; by_cases hp2 : v < ((s1.length : Nat) : Int)
    · replace h := h.1 hp2; refine zc hp2 (yaf (yac (yak (zs (zq (yab hE17) ?_))))); obtain ⟨hx, h⟩ := h; refine zq (yao hE15 hE17 underlying29 yd9 (yaG (hS.rdr 2 rfl) hx)) ?_; obtain ⟨A, l, c, hc, hq⟩ := hS.el 2 rfl hx 3 4 rfl rfl (by decide); replace hS := hq; clear hq; refine zq (yah (v := (.slice A l c)) rfl underlying37 rfl (hS.clr 4 rfl)) (zq (za (ii v)) (zq (za (.slice A l c)) (yaa (zs (zq (yab hE1) (zq (zm (ii v)) ?_)))))); obtain ⟨hx2, h⟩ := h; refine zq (zi underlying33 yaZ (yaG (hS.rdr 0 rfl) hx2)) ?_; obtain ⟨A2, l2, c2, hc2, hq⟩ := hS.el 0 rfl hx2 5 6 rfl rfl (by decide); replace hS := hq; clear hq; refine zq (yah (v := (.slice A2 l2 c2)) rfl underlying25 rfl (hS.clr 6 rfl)) (zq (za (.slice A2 l2 c2)) (yaa (zs (zq (yab hE2) (zq (zm (.slice A l c)) (zq (zm (.slice A2 l2 c2)) ?_)))))); obtain ⟨fid, us, hf, he, hcl⟩ := hS.ro 1 rfl _ (Keeps.refl _ _); replace h := hcl _ _ _ _ _ _ _ _ _ h (hS.rdr 3 rfl) (hS.rdr 5 rfl); clear hcl; refine zn (yhp (hf) (am2 rfl rfl) he (h.mono ?_)); clear hf he; rintro _ w3 ⟨r, rfl, hC, h⟩; replace hS := hS.pur hC.pure; clear hC; refine ⟨_, rfl, ?_⟩; refine zb (zq (ydA rfl) (yaa ?_)); by_cases hp3 : r = true
      · replace h := h.1 hp3; refine yay (congrArg Value.bool (congrArg Bool.not hp3)) (yaf (yai (zr ?_))); obtain ⟨hi, h⟩ := h; refine zq (yaC hE17 rfl hi) (zq (zm (ii (v + 1))) (yaa ?_)); obtain ⟨mq, hlt, h⟩ := h; exact again mq _ _ _ ⟨_, h, rfl, hE1, hE2, hE15, hE16, rfl, (hS.sel [0, 1, 2] (by decide))⟩ hlt
      · replace h := h.2 hp3; exact yau (congrArg Value.bool (congrArg Bool.not (Bool.eq_false_iff.2 hp3))) (zs (zq (za (.bool (false))) (yaa (yal rfl rfl ⟨_, rfl, (hS.sel [] (by decide)), h⟩))))
    · replace h := h.2 hp2; exact zd hp2 (yav rfl (zs (zq (za (.bool (true))) (yaa (yal rfl rfl ⟨_, rfl, (hS.sel [] (by decide)), h⟩)))))
  · replace h := h.2 hp; exact zf hp (zs (zq (za (.bool (false))) (yaa (yal rfl rfl ⟨_, rfl, (hS.sel [] (by decide)), h⟩))))
def yco (R : Bool → Prop) : Prop :=
(∃ I2 : Nat → Int → Prop, (∃ m0, I2 m0 0) ∧ ∀ m2 v, I2 m2 v → 
((v < ((([(3, [(0, 1, 1), (0, 2, 1), (1, 2, 1)], [1, 1, 0], 1), (3, [(0, 1, 1), (0, 2, 1), (1, 2, 1)], [0, 1, 0], 0), (4, [(0, 1, 1), (0, 2, 1), (0, 3, 1), (1, 2, 1), (1, 3, 1), (2, 3, 1)], [1, 1, 0, 0], 0), (4, [(0, 1, 1), (0, 2, 1), (0, 3, 1), (1, 2, 1), (1, 3, 1), (2, 3, 1)], [1, 1, 1, 0], 1), (4, [(0, 1, 1), (0, 2, 1), (0, 3, 1), (1, 2, 1), (1, 3, 1), (2, 3, 1)], [1, 1, 1, 1], 2), (1, [], [3], 3)] : List (Int × (List E3) × (List Int) × Int)).length : Nat) : Int) →
((0 ≤ v ∧ v < ((([(3, [(0, 1, 1), (0, 2, 1), (1, 2, 1)], [1, 1, 0], 1), (3, [(0, 1, 1), (0, 2, 1), (1, 2, 1)], [0, 1, 0], 0), (4, [(0, 1, 1), (0, 2, 1), (0, 3, 1), (1, 2, 1), (1, 3, 1), (2, 3, 1)], [1, 1, 0, 0], 0), (4, [(0, 1, 1), (0, 2, 1), (0, 3, 1), (1, 2, 1), (1, 3, 1), (2, 3, 1)], [1, 1, 1, 0], 1), (4, [(0, 1, 1), (0, 2, 1), (0, 3, 1), (1, 2, 1), (1, 3, 1), (2, 3, 1)], [1, 1, 1, 1], 2), (1, [], [3], 3)] : List (Int × (List E3) × (List Int) × Int)).length : Nat) : Int)) ∧
ya5 ((gx ([(3, [(0, 1, 1), (0, 2, 1), (1, 2, 1)], [1, 1, 0], 1), (3, [(0, 1, 1), (0, 2, 1), (1, 2, 1)], [0, 1, 0], 0), (4, [(0, 1, 1), (0, 2, 1), (0, 3, 1), (1, 2, 1), (1, 3, 1), (2, 3, 1)], [1, 1, 0, 0], 0), (4, [(0, 1, 1), (0, 2, 1), (0, 3, 1), (1, 2, 1), (1, 3, 1), (2, 3, 1)], [1, 1, 1, 0], 1), (4, [(0, 1, 1), (0, 2, 1), (0, 3, 1), (1, 2, 1), (1, 3, 1), (2, 3, 1)], [1, 1, 1, 1], 2), (1, [], [3], 3)] : List (Int × (List E3) × (List Int) × Int)) v.toNat).1) ((gx ([(3, [(0, 1, 1), (0, 2, 1), (1, 2, 1)], [1, 1, 0], 1), (3, [(0, 1, 1), (0, 2, 1), (1, 2, 1)], [0, 1, 0], 0), (4, [(0, 1, 1), (0, 2, 1), (0, 3, 1), (1, 2, 1), (1, 3, 1), (2, 3, 1)], [1, 1, 0, 0], 0), (4, [(0, 1, 1), (0, 2, 1), (0, 3, 1), (1, 2, 1), (1, 3, 1), (2, 3, 1)], [1, 1, 1, 0], 1), (4, [(0, 1, 1), (0, 2, 1), (0, 3, 1), (1, 2, 1), (1, 3, 1), (2, 3, 1)], [1, 1, 1, 1], 2), (1, [], [3], 3)] : List (Int × (List E3) × (List Int) × Int)) v.toNat).2.1) ((gx ([(3, [(0, 1, 1), (0, 2, 1), (1, 2, 1)], [1, 1, 0], 1), (3, [(0, 1, 1), (0, 2, 1), (1, 2, 1)], [0, 1, 0], 0), (4, [(0, 1, 1), (0, 2, 1), (0, 3, 1), (1, 2, 1), (1, 3, 1), (2, 3, 1)], [1, 1, 0, 0], 0), (4, [(0, 1, 1), (0, 2, 1), (0, 3, 1), (1, 2, 1), (1, 3, 1), (2, 3, 1)], [1, 1, 1, 0], 1), (4, [(0, 1, 1), (0, 2, 1), (0, 3, 1), (1, 2, 1), (1, 3, 1), (2, 3, 1)], [1, 1, 1, 1], 2), (1, [], [3], 3)] : List (Int × (List E3) × (List Int) × Int)) v.toNat).2.2.1) (fun r r2 =>
((r2 = 0 →
((r = ((gx ([(3, [(0, 1, 1), (0, 2, 1), (1, 2, 1)], [1, 1, 0], 1), (3, [(0, 1, 1), (0, 2, 1), (1, 2, 1)], [0, 1, 0], 0), (4, [(0, 1, 1), (0, 2, 1), (0, 3, 1), (1, 2, 1), (1, 3, 1), (2, 3, 1)], [1, 1, 0, 0], 0), (4, [(0, 1, 1), (0, 2, 1), (0, 3, 1), (1, 2, 1), (1, 3, 1), (2, 3, 1)], [1, 1, 1, 0], 1), (4, [(0, 1, 1), (0, 2, 1), (0, 3, 1), (1, 2, 1), (1, 3, 1), (2, 3, 1)], [1, 1, 1, 1], 2), (1, [], [3], 3)] : List (Int × (List E3) × (List Int) × Int)) v.toNat).2.2.2) →
(In64 (v + 1) ∧
∃ m3, m3 < m2 ∧ I2 m3 (v + 1))) ∧
(¬ (r = ((gx ([(3, [(0, 1, 1), (0, 2, 1), (1, 2, 1)], [1, 1, 0], 1), (3, [(0, 1, 1), (0, 2, 1), (1, 2, 1)], [0, 1, 0], 0), (4, [(0, 1, 1), (0, 2, 1), (0, 3, 1), (1, 2, 1), (1, 3, 1), (2, 3, 1)], [1, 1, 0, 0], 0), (4, [(0, 1, 1), (0, 2, 1), (0, 3, 1), (1, 2, 1), (1, 3, 1), (2, 3, 1)], [1, 1, 1, 0], 1), (4, [(0, 1, 1), (0, 2, 1), (0, 3, 1), (1, 2, 1), (1, 3, 1), (2, 3, 1)], [1, 1, 1, 1], 2), (1, [], [3], 3)] : List (Int × (List E3) × (List Int) × Int)) v.toNat).2.2.2)) →
R false))) ∧
(¬ (r2 = 0) →
R false))))) ∧
(¬ (v < ((([(3, [(0, 1, 1), (0, 2, 1), (1, 2, 1)], [1, 1, 0], 1), (3, [(0, 1, 1), (0, 2, 1), (1, 2, 1)], [0, 1, 0], 0), (4, [(0, 1, 1), (0, 2, 1), (0, 3, 1), (1, 2, 1), (1, 3, 1), (2, 3, 1)], [1, 1, 0, 0], 0), (4, [(0, 1, 1), (0, 2, 1), (0, 3, 1), (1, 2, 1), (1, 3, 1), (2, 3, 1)], [1, 1, 1, 0], 1), (4, [(0, 1, 1), (0, 2, 1), (0, 3, 1), (1, 2, 1), (1, 3, 1), (2, 3, 1)], [1, 1, 1, 1], 2), (1, [], [3], 3)] : List (Int × (List E3) × (List Int) × Int)).length : Nat) : Int)) →
ybA 3 ([(0, 1, 1), (0, 2, 1), (1, 2, 1)]) ([1, 1, 0]) (fun r3 r4 =>
ybA 3 ([(0, 1, 1), (0, 2, 1), (1, 2, 1)]) ([0, 1, 0]) (fun r5 r6 =>
((r4 = 0 →
((r6 = 0 →
ya0 r3 ([0, 1, 1]) (fun r7 =>
((r7 = true →
ya0 r5 ([0, 0, 1]) (fun r8 =>
R r8)) ∧
(¬ (r7 = true) →
R false)))) ∧
(¬ (r6 = 0) →
R false))) ∧
(¬ (r4 = 0) →
R false)))))))
theorem ygy {O : Nat → Prop} {w : World} {R : Bool → Prop} (h : yco R) (hO : ∀ k, O k → k < w.heap.size) :
    Calls Tryz.prog 8 #[] w fun e w' => ∃ r9, e = .returned (.bool (r9)) ∧ Sep w no O w' (rl []) ∧ R r9 := by
  unfold yco at h; have hS : Sep w no O w (rl []) := Sep.start w hO; refine yar (l := []) func8 rfl ntmps8 (Nat.le_of_ble_eq_true rfl) (zs (zq (za (.bool (false))) (yaa (zs (zn (ybw (l := [(0, (ii 0)), (1, (ii 1)), (2, (ii 1))]) (cells := [(ii 0), (ii 1), (ii 1)]) (places := [(0, 1), (1, 1), (2, 1)]) (bp3 rfl rfl rfl) underlying76 yaP (by kernel_rfl) rfl ?_)))))); refine zb (zn (ybw (l := [(0, (ii 0)), (1, (ii 2)), (2, (ii 1))]) (cells := [(ii 0), (ii 2), (ii 1)]) (places := [(0, 1), (1, 1), (2, 1)]) (bp3 rfl rfl rfl) underlying76 yaP (by kernel_rfl) rfl ?_)); refine zb (zn (ybw (l := [(0, (ii 1)), (1, (ii 2)), (2, (ii 1))]) (cells := [(ii 1), (ii 2), (ii 1)]) (places := [(0, 1), (1, 1), (2, 1)]) (bp3 rfl rfl rfl) underlying76 yaP (by kernel_rfl) rfl ?_)); refine zb (zn (yaD (l := [(0, (.agg #[(ii 0), (ii 1), (ii 1)])), (1, (.agg #[(ii 0), (ii 2), (ii 1)])), (2, (.agg #[(ii 1), (ii 2), (ii 1)]))]) (cells := [(ii 0), (ii 1), (ii 1), (ii 0), (ii 2), (ii 1), (ii 1), (ii 2), (ii 1)]) (bp3 rfl rfl rfl) underlying22 yaP rfl rfl ?_)); intro g w2 hN; replace hS := hS.litf (n := 3) 0 rfl (fP (fI .i64) (fP (fI .i64) (fI .i64))) hN ([(0, 1, 1), (0, 2, 1), (1, 2, 1)] : List E3) rfl (by decide) rfl; clear hN; refine zb (zn (ybw (l := [(0, (ii 3)), (1, (.slice (some ⟨g, 0, none⟩) 3 3))]) (cells := [(ii 3), (.slice (some ⟨g, 0, none⟩) 3 3)]) (places := [(0, 1), (1, 1)]) (bp2 rfl rfl) underlying24 yaq (by kernel_rfl) rfl ?_)); refine zb (zn (ya7 yaq ?_)); intro g2 w3 hN; replace hS : Sep w no O w3 (stl _ 1 (Res.box 24 g2 [(ii 0), (.slice none 0 0)])) := hS.new 1 rfl hN; clear hN; refine zb (zo (ybF (b := g2) (o := 0) (cells := #[(ii 3), (.slice (some ⟨g, 0, none⟩) 3 3)]) rfl rfl yaq rfl rfl (ybc (hS.bx 1 rfl) (Nat.le_of_ble_eq_true rfl)) ?_)); intro w4 e1; replace hS := hS.bstn 1 rfl 0 [(ii 3), (.slice (some ⟨g, 0, none⟩) 3 3)] e1; clear e1; refine zb (yaa (zs (zn (ybw (l := [(0, (ii 0)), (1, (ii 1)), (2, (ii 1))]) (cells := [(ii 0), (ii 1), (ii 1)]) (places := [(0, 1), (1, 1), (2, 1)]) (bp3 rfl rfl rfl) underlying76 yaP (by kernel_rfl) rfl ?_)))); refine zb (zn (ybw (l := [(0, (ii 0)), (1, (ii 2)), (2, (ii 1))]) (cells := [(ii 0), (ii 2), (ii 1)]) (places := [(0, 1), (1, 1), (2, 1)]) (bp3 rfl rfl rfl) underlying76 yaP (by kernel_rfl) rfl ?_)); refine zb (zn (ybw (l := [(0, (ii 0)), (1, (ii 3)), (2, (ii 1))]) (cells := [(ii 0), (ii 3), (ii 1)]) (places := [(0, 1), (1, 1), (2, 1)]) (bp3 rfl rfl rfl) underlying76 yaP (by kernel_rfl) rfl ?_)); refine zb (zn (ybw (l := [(0, (ii 1)), (1, (ii 2)), (2, (ii 1))]) (cells := [(ii 1), (ii 2), (ii 1)]) (places := [(0, 1), (1, 1), (2, 1)]) (bp3 rfl rfl rfl) underlying76 yaP (by kernel_rfl) rfl ?_)); refine zb (zn (ybw (l := [(0, (ii 1)), (1, (ii 3)), (2, (ii 1))]) (cells := [(ii 1), (ii 3), (ii 1)]) (places := [(0, 1), (1, 1), (2, 1)]) (bp3 rfl rfl rfl) underlying76 yaP (by kernel_rfl) rfl ?_)); refine zb (zn (ybw (l := [(0, (ii 2)), (1, (ii 3)), (2, (ii 1))]) (cells := [(ii 2), (ii 3), (ii 1)]) (places := [(0, 1), (1, 1), (2, 1)]) (bp3 rfl rfl rfl) underlying76 yaP (by kernel_rfl) rfl ?_)); refine zb (zn (yaD (l := [(0, (.agg #[(ii 0), (ii 1), (ii 1)])), (1, (.agg #[(ii 0), (ii 2), (ii 1)])), (2, (.agg #[(ii 0), (ii 3), (ii 1)])), (3, (.agg #[(ii 1), (ii 2), (ii 1)])), (4, (.agg #[(ii 1), (ii 3), (ii 1)])), (5, (.agg #[(ii 2), (ii 3), (ii 1)]))]) (cells := [(ii 0), (ii 1), (ii 1), (ii 0), (ii 2), (ii 1), (ii 0), (ii 3), (ii 1), (ii 1), (ii 2), (ii 1), (ii 1), (ii 3), (ii 1), (ii 2), (ii 3), (ii 1)]) (bp6 rfl rfl rfl rfl rfl rfl) underlying22 yaP rfl rfl ?_)); intro g3 w5 hN; replace hS := hS.litf (n := 6) 2 rfl (fP (fI .i64) (fP (fI .i64) (fI .i64))) hN ([(0, 1, 1), (0, 2, 1), (0, 3, 1), (1, 2, 1), (1, 3, 1), (2, 3, 1)] : List E3) rfl (by decide) rfl; clear hN; refine zb (zn (ybw (l := [(0, (ii 4)), (1, (.slice (some ⟨g3, 0, none⟩) 6 6))]) (cells := [(ii 4), (.slice (some ⟨g3, 0, none⟩) 6 6)]) (places := [(0, 1), (1, 1)]) (bp2 rfl rfl) underlying24 yaq (by kernel_rfl) rfl ?_)); refine zb (zn (ya7 yaq ?_)); intro g4 w6 hN; replace hS : Sep w no O w6 (stl _ 3 (Res.box 24 g4 [(ii 0), (.slice none 0 0)])) := hS.new 3 rfl hN; clear hN; refine zb (zo (ybF (b := g4) (o := 0) (cells := #[(ii 4), (.slice (some ⟨g3, 0, none⟩) 6 6)]) rfl rfl yaq rfl rfl (ybc (hS.bx 3 rfl) (Nat.le_of_ble_eq_true rfl)) ?_)); intro w7 e1; replace hS := hS.bstn 3 rfl 0 [(ii 4), (.slice (some ⟨g3, 0, none⟩) 6 6)] e1; clear e1; refine zb (yaa (yac (zs (zq (yas (vs := [(ii 3), (.slice (some ⟨g, 0, none⟩) 3 3)]) rfl underlying24 rfl yaq ⟨Row.cell (hS.bx 1 rfl) (i := 0) rfl, Row.cell (hS.bx 1 rfl) (i := 1) rfl, trivial⟩) (zn (yaD (l := [(0, (ii 1)), (1, (ii 1)), (2, (ii 0))]) (cells := [(ii 1), (ii 1), (ii 0)]) (bp3 rfl rfl rfl) underlying26 yag rfl rfl ?_)))))); intro g5 w8 hN; replace hS := hS.litf (n := 3) 4 rfl (fI .i64) hN ([1, 1, 0] : List Int) rfl (by decide) rfl; clear hN; refine zb (zn (ybw (l := [(0, (.agg #[(ii 3), (.slice (some ⟨g, 0, none⟩) 3 3)])), (1, (.slice (some ⟨g5, 0, none⟩) 3 3)), (2, (ii 1))]) (cells := [(ii 3), (.slice (some ⟨g, 0, none⟩) 3 3), (.slice (some ⟨g5, 0, none⟩) 3 3), (ii 1)]) (places := [(0, 2), (2, 1), (3, 1)]) (bp3 rfl rfl rfl) underlying77 ydZ (by kernel_rfl) rfl ?_)); refine zb (zq (yas (vs := [(ii 3), (.slice (some ⟨g, 0, none⟩) 3 3)]) rfl underlying24 rfl yaq ⟨Row.cell (hS.bx 1 rfl) (i := 0) rfl, Row.cell (hS.bx 1 rfl) (i := 1) rfl, trivial⟩) (zn (yaD (l := [(0, (ii 0)), (1, (ii 1)), (2, (ii 0))]) (cells := [(ii 0), (ii 1), (ii 0)]) (bp3 rfl rfl rfl) underlying26 yag rfl rfl ?_))); intro g6 w9 hN; replace hS := hS.litf (n := 3) 5 rfl (fI .i64) hN ([0, 1, 0] : List Int) rfl (by decide) rfl; clear hN; refine zb (zn (ybw (l := [(0, (.agg #[(ii 3), (.slice (some ⟨g, 0, none⟩) 3 3)])), (1, (.slice (some ⟨g6, 0, none⟩) 3 3)), (2, (ii 0))]) (cells := [(ii 3), (.slice (some ⟨g, 0, none⟩) 3 3), (.slice (some ⟨g6, 0, none⟩) 3 3), (ii 0)]) (places := [(0, 2), (2, 1), (3, 1)]) (bp3 rfl rfl rfl) underlying77 ydZ (by kernel_rfl) rfl ?_)); refine zb (zq (yas (vs := [(ii 4), (.slice (some ⟨g3, 0, none⟩) 6 6)]) rfl underlying24 rfl yaq ⟨Row.cell (hS.bx 3 rfl) (i := 0) rfl, Row.cell (hS.bx 3 rfl) (i := 1) rfl, trivial⟩) (zn (yaD (l := [(0, (ii 1)), (1, (ii 1)), (2, (ii 0)), (3, (ii 0))]) (cells := [(ii 1), (ii 1), (ii 0), (ii 0)]) (bp4 rfl rfl rfl rfl) underlying26 yag rfl rfl ?_))); intro g7 w10 hN
  replace hS := hS.litf (n := 4) 6 rfl (fI .i64) hN ([1, 1, 0, 0] : List Int) rfl (by decide) rfl; clear hN; refine zb (zn (ybw (l := [(0, (.agg #[(ii 4), (.slice (some ⟨g3, 0, none⟩) 6 6)])), (1, (.slice (some ⟨g7, 0, none⟩) 4 4)), (2, (ii 0))]) (cells := [(ii 4), (.slice (some ⟨g3, 0, none⟩) 6 6), (.slice (some ⟨g7, 0, none⟩) 4 4), (ii 0)]) (places := [(0, 2), (2, 1), (3, 1)]) (bp3 rfl rfl rfl) underlying77 ydZ (by kernel_rfl) rfl ?_)); refine zb (zq (yas (vs := [(ii 4), (.slice (some ⟨g3, 0, none⟩) 6 6)]) rfl underlying24 rfl yaq ⟨Row.cell (hS.bx 3 rfl) (i := 0) rfl, Row.cell (hS.bx 3 rfl) (i := 1) rfl, trivial⟩) (zn (yaD (l := [(0, (ii 1)), (1, (ii 1)), (2, (ii 1)), (3, (ii 0))]) (cells := [(ii 1), (ii 1), (ii 1), (ii 0)]) (bp4 rfl rfl rfl rfl) underlying26 yag rfl rfl ?_))); intro g8 w11 hN; replace hS := hS.litf (n := 4) 7 rfl (fI .i64) hN ([1, 1, 1, 0] : List Int) rfl (by decide) rfl; clear hN; refine zb (zn (ybw (l := [(0, (.agg #[(ii 4), (.slice (some ⟨g3, 0, none⟩) 6 6)])), (1, (.slice (some ⟨g8, 0, none⟩) 4 4)), (2, (ii 1))]) (cells := [(ii 4), (.slice (some ⟨g3, 0, none⟩) 6 6), (.slice (some ⟨g8, 0, none⟩) 4 4), (ii 1)]) (places := [(0, 2), (2, 1), (3, 1)]) (bp3 rfl rfl rfl) underlying77 ydZ (by kernel_rfl) rfl ?_)); refine zb (zq (yas (vs := [(ii 4), (.slice (some ⟨g3, 0, none⟩) 6 6)]) rfl underlying24 rfl yaq ⟨Row.cell (hS.bx 3 rfl) (i := 0) rfl, Row.cell (hS.bx 3 rfl) (i := 1) rfl, trivial⟩) (zn (yaD (l := [(0, (ii 1)), (1, (ii 1)), (2, (ii 1)), (3, (ii 1))]) (cells := [(ii 1), (ii 1), (ii 1), (ii 1)]) (bp4 rfl rfl rfl rfl) underlying26 yag rfl rfl ?_))); intro g9 w12 hN; replace hS := hS.litf (n := 4) 8 rfl (fI .i64) hN ([1, 1, 1, 1] : List Int) rfl (by decide) rfl; clear hN; refine zb (zn (ybw (l := [(0, (.agg #[(ii 4), (.slice (some ⟨g3, 0, none⟩) 6 6)])), (1, (.slice (some ⟨g9, 0, none⟩) 4 4)), (2, (ii 2))]) (cells := [(ii 4), (.slice (some ⟨g3, 0, none⟩) 6 6), (.slice (some ⟨g9, 0, none⟩) 4 4), (ii 2)]) (places := [(0, 2), (2, 1), (3, 1)]) (bp3 rfl rfl rfl) underlying77 ydZ (by kernel_rfl) rfl ?_)); refine zb (zn (ybw (l := [(0, (ii 1))]) (cells := [(ii 1), (.slice none 0 0)]) (places := [(0, 1), (1, 1)]) (bp1 rfl) underlying24 yaq (by kernel_rfl) rfl ?_)); refine zb (zn (yaD (l := [(0, (ii 3))]) (cells := [(ii 3)]) (bp1 rfl) underlying26 yag rfl rfl ?_)); intro g10 w13 hN; replace hS := hS.litf (n := 1) 9 rfl (fI .i64) hN ([3] : List Int) rfl (by decide) rfl; clear hN; refine zb (zn (ybw (l := [(0, (.agg #[(ii 1), (.slice none 0 0)])), (1, (.slice (some ⟨g10, 0, none⟩) 1 1)), (2, (ii 3))]) (cells := [(ii 1), (.slice none 0 0), (.slice (some ⟨g10, 0, none⟩) 1 1), (ii 3)]) (places := [(0, 2), (2, 1), (3, 1)]) (bp3 rfl rfl rfl) underlying77 ydZ (by kernel_rfl) rfl ?_)); refine zb ?_; replace hS := hS.frz 0 rfl; replace hS := hS.frz 4 rfl; replace hS := hS.frz 5 rfl; replace hS := hS.frz 2 rfl; replace hS := hS.frz 6 rfl; replace hS := hS.frz 7 rfl; replace hS := hS.frz 8 rfl; replace hS := hS.frz 9 rfl; refine zn (yaD (l := [(0, (.agg #[(ii 3), (.slice (some ⟨g, 0, none⟩) 3 3), (.slice (some ⟨g5, 0, none⟩) 3 3), (ii 1)])), (1, (.agg #[(ii 3), (.slice (some ⟨g, 0, none⟩) 3 3), (.slice (some ⟨g6, 0, none⟩) 3 3), (ii 0)])), (2, (.agg #[(ii 4), (.slice (some ⟨g3, 0, none⟩) 6 6), (.slice (some ⟨g7, 0, none⟩) 4 4), (ii 0)])), (3, (.agg #[(ii 4), (.slice (some ⟨g3, 0, none⟩) 6 6), (.slice (some ⟨g8, 0, none⟩) 4 4), (ii 1)])), (4, (.agg #[(ii 4), (.slice (some ⟨g3, 0, none⟩) 6 6), (.slice (some ⟨g9, 0, none⟩) 4 4), (ii 2)])), (5, (.agg #[(ii 1), (.slice none 0 0), (.slice (some ⟨g10, 0, none⟩) 1 1), (ii 3)]))]) (cells := [(ii 3), (.slice (some ⟨g, 0, none⟩) 3 3), (.slice (some ⟨g5, 0, none⟩) 3 3), (ii 1), (ii 3), (.slice (some ⟨g, 0, none⟩) 3 3), (.slice (some ⟨g6, 0, none⟩) 3 3), (ii 0), (ii 4), (.slice (some ⟨g3, 0, none⟩) 6 6), (.slice (some ⟨g7, 0, none⟩) 4 4), (ii 0), (ii 4), (.slice (some ⟨g3, 0, none⟩) 6 6), (.slice (some ⟨g8, 0, none⟩) 4 4), (ii 1), (ii 4), (.slice (some ⟨g3, 0, none⟩) 6 6), (.slice (some ⟨g9, 0, none⟩) 4 4), (ii 2), (ii 1), (.slice none 0 0), (.slice (some ⟨g10, 0, none⟩) 1 1), (ii 3)]) (bp6 rfl rfl rfl rfl rfl rfl) underlying78 ydZ rfl (by kernel_rfl) ?_); intro g11 w14 hN; replace hS := hS.lit (n := 6) (c := (cPr cI (cPr (cL c3) (cPr (cL cI) cI)))) 10 rfl hN (([(3, [(0, 1, 1), (0, 2, 1), (1, 2, 1)], [1, 1, 0], 1), (3, [(0, 1, 1), (0, 2, 1), (1, 2, 1)], [0, 1, 0], 0), (4, [(0, 1, 1), (0, 2, 1), (0, 3, 1), (1, 2, 1), (1, 3, 1), (2, 3, 1)], [1, 1, 0, 0], 0), (4, [(0, 1, 1), (0, 2, 1), (0, 3, 1), (1, 2, 1), (1, 3, 1), (2, 3, 1)], [1, 1, 1, 0], 1), (4, [(0, 1, 1), (0, 2, 1), (0, 3, 1), (1, 2, 1), (1, 3, 1), (2, 3, 1)], [1, 1, 1, 1], 2), (1, [], [3], 3)] : List (Int × (List E3) × (List Int) × Int)) : List (Int × (List E3) × (List Int) × Int)) rfl (by decide) ⟨[(ii 3), (.slice (some ⟨g, 0, none⟩) 3 3), (.slice (some ⟨g5, 0, none⟩) 3 3), (ii 1)], _, rfl, ⟨[(ii 3)], [(.slice (some ⟨g, 0, none⟩) 3 3), (.slice (some ⟨g5, 0, none⟩) 3 3), (ii 1)], rfl, rfl, ⟨[(.slice (some ⟨g, 0, none⟩) 3 3)], [(.slice (some ⟨g5, 0, none⟩) 3 3), (ii 1)], rfl, (ro_R (hS.ro 0 rfl)), ⟨[(.slice (some ⟨g5, 0, none⟩) 3 3)], [(ii 1)], rfl, (ro_R (hS.ro 4 rfl)), rfl⟩⟩⟩, ⟨[(ii 3), (.slice (some ⟨g, 0, none⟩) 3 3), (.slice (some ⟨g6, 0, none⟩) 3 3), (ii 0)], _, rfl, ⟨[(ii 3)], [(.slice (some ⟨g, 0, none⟩) 3 3), (.slice (some ⟨g6, 0, none⟩) 3 3), (ii 0)], rfl, rfl, ⟨[(.slice (some ⟨g, 0, none⟩) 3 3)], [(.slice (some ⟨g6, 0, none⟩) 3 3), (ii 0)], rfl, (ro_R (hS.ro 0 rfl)), ⟨[(.slice (some ⟨g6, 0, none⟩) 3 3)], [(ii 0)], rfl, (ro_R (hS.ro 5 rfl)), rfl⟩⟩⟩, ⟨[(ii 4), (.slice (some ⟨g3, 0, none⟩) 6 6), (.slice (some ⟨g7, 0, none⟩) 4 4), (ii 0)], _, rfl, ⟨[(ii 4)], [(.slice (some ⟨g3, 0, none⟩) 6 6), (.slice (some ⟨g7, 0, none⟩) 4 4), (ii 0)], rfl, rfl, ⟨[(.slice (some ⟨g3, 0, none⟩) 6 6)], [(.slice (some ⟨g7, 0, none⟩) 4 4), (ii 0)], rfl, (ro_R (hS.ro 2 rfl)), ⟨[(.slice (some ⟨g7, 0, none⟩) 4 4)], [(ii 0)], rfl, (ro_R (hS.ro 6 rfl)), rfl⟩⟩⟩, ⟨[(ii 4), (.slice (some ⟨g3, 0, none⟩) 6 6), (.slice (some ⟨g8, 0, none⟩) 4 4), (ii 1)], _, rfl, ⟨[(ii 4)], [(.slice (some ⟨g3, 0, none⟩) 6 6), (.slice (some ⟨g8, 0, none⟩) 4 4), (ii 1)], rfl, rfl, ⟨[(.slice (some ⟨g3, 0, none⟩) 6 6)], [(.slice (some ⟨g8, 0, none⟩) 4 4), (ii 1)], rfl, (ro_R (hS.ro 2 rfl)), ⟨[(.slice (some ⟨g8, 0, none⟩) 4 4)], [(ii 1)], rfl, (ro_R (hS.ro 7 rfl)), rfl⟩⟩⟩, ⟨[(ii 4), (.slice (some ⟨g3, 0, none⟩) 6 6), (.slice (some ⟨g9, 0, none⟩) 4 4), (ii 2)], _, rfl, ⟨[(ii 4)], [(.slice (some ⟨g3, 0, none⟩) 6 6), (.slice (some ⟨g9, 0, none⟩) 4 4), (ii 2)], rfl, rfl, ⟨[(.slice (some ⟨g3, 0, none⟩) 6 6)], [(.slice (some ⟨g9, 0, none⟩) 4 4), (ii 2)], rfl, (ro_R (hS.ro 2 rfl)), ⟨[(.slice (some ⟨g9, 0, none⟩) 4 4)], [(ii 2)], rfl, (ro_R (hS.ro 8 rfl)), rfl⟩⟩⟩, ⟨[(ii 1), (.slice none 0 0), (.slice (some ⟨g10, 0, none⟩) 1 1), (ii 3)], _, rfl, ⟨[(ii 1)], [(.slice none 0 0), (.slice (some ⟨g10, 0, none⟩) 1 1), (ii 3)], rfl, rfl, ⟨[(.slice none 0 0)], [(.slice (some ⟨g10, 0, none⟩) 1 1), (ii 3)], rfl, ⟨_, _, _, rfl, rfl, Nat.le_refl _, Sl.nil _ _ _ _⟩, ⟨[(.slice (some ⟨g10, 0, none⟩) 1 1)], [(ii 3)], rfl, (ro_R (hS.ro 9 rfl)), rfl⟩⟩⟩, rfl⟩⟩⟩⟩⟩⟩; clear hN; refine zb ?_
  refine zq (yaO (n := ([(3, [(0, 1, 1), (0, 2, 1), (1, 2, 1)], [1, 1, 0], 1), (3, [(0, 1, 1), (0, 2, 1), (1, 2, 1)], [0, 1, 0], 0), (4, [(0, 1, 1), (0, 2, 1), (0, 3, 1), (1, 2, 1), (1, 3, 1), (2, 3, 1)], [1, 1, 0, 0], 0), (4, [(0, 1, 1), (0, 2, 1), (0, 3, 1), (1, 2, 1), (1, 3, 1), (2, 3, 1)], [1, 1, 1, 0], 1), (4, [(0, 1, 1), (0, 2, 1), (0, 3, 1), (1, 2, 1), (1, 3, 1), (2, 3, 1)], [1, 1, 1, 1], 2), (1, [], [3], 3)] : List (Int × (List E3) × (List Int) × Int)).length) rfl underlying78 (yaL (hS.rdo 10 rfl))) (zq (zm (ii 0)) (yaa (yak ?_))); replace hS := hS.frz 10 rfl; obtain ⟨I2, ⟨m0, h0⟩, hr⟩ := h; refine yaw (fun m E ds w' => ∃ v, I2 m v ∧ ds = [] ∧ E 1 = (Value.pointer (some (⟨g2, 0, none⟩ : Addr))) ∧ E 42 = (Value.slice (some ⟨g11, 0, none⟩) 6 6) ∧ E 43 = (ii ((([(3, [(0, 1, 1), (0, 2, 1), (1, 2, 1)], [1, 1, 0], 1), (3, [(0, 1, 1), (0, 2, 1), (1, 2, 1)], [0, 1, 0], 0), (4, [(0, 1, 1), (0, 2, 1), (0, 3, 1), (1, 2, 1), (1, 3, 1), (2, 3, 1)], [1, 1, 0, 0], 0), (4, [(0, 1, 1), (0, 2, 1), (0, 3, 1), (1, 2, 1), (1, 3, 1), (2, 3, 1)], [1, 1, 1, 0], 1), (4, [(0, 1, 1), (0, 2, 1), (0, 3, 1), (1, 2, 1), (1, 3, 1), (2, 3, 1)], [1, 1, 1, 1], 2), (1, [], [3], 3)] : List (Int × (List E3) × (List Int) × Int)).length : Nat) : Int)) ∧ E 44 = (ii v) ∧ Sep w no O w' (rl [Res.box 24 g2 [(ii 3), (.slice (some ⟨g, 0, none⟩) 3 3)], Res.ro (FP.sl c3 (some ⟨g, 0, none⟩) 3 3 ([(0, 1, 1), (0, 2, 1), (1, 2, 1)])), Res.ro (FP.sl (cPr cI (cPr (cL c3) (cPr (cL cI) cI))) (some ⟨g11, 0, none⟩) 6 6 ([(3, [(0, 1, 1), (0, 2, 1), (1, 2, 1)], [1, 1, 0], 1), (3, [(0, 1, 1), (0, 2, 1), (1, 2, 1)], [0, 1, 0], 0), (4, [(0, 1, 1), (0, 2, 1), (0, 3, 1), (1, 2, 1), (1, 3, 1), (2, 3, 1)], [1, 1, 0, 0], 0), (4, [(0, 1, 1), (0, 2, 1), (0, 3, 1), (1, 2, 1), (1, 3, 1), (2, 3, 1)], [1, 1, 1, 0], 1), (4, [(0, 1, 1), (0, 2, 1), (0, 3, 1), (1, 2, 1), (1, 3, 1), (2, 3, 1)], [1, 1, 1, 1], 2), (1, [], [3], 3)] : List (Int × (List E3) × (List Int) × Int)))])) m0 ⟨_, h0, rfl, rfl, rfl, rfl, rfl, (hS.sel [1, 0, 10] (by decide))⟩ ?_; clear h0 hS; rintro m2 E ds w15 ⟨v, h, rfl, hE1, hE42, hE43, hE44, hS⟩ again; replace h := hr m2 v h; clear hr; refine zs (zq (yaJ hE44 hE43) (yaa (yac ?_))); by_cases hp : v < ((([(3, [(0, 1, 1), (0, 2, 1), (1, 2, 1)], [1, 1, 0], 1), (3, [(0, 1, 1), (0, 2, 1), (1, 2, 1)], [0, 1, 0], 0), (4, [(0, 1, 1), (0, 2, 1), (0, 3, 1), (1, 2, 1), (1, 3, 1), (2, 3, 1)], [1, 1, 0, 0], 0), (4, [(0, 1, 1), (0, 2, 1), (0, 3, 1), (1, 2, 1), (1, 3, 1), (2, 3, 1)], [1, 1, 1, 0], 1), (4, [(0, 1, 1), (0, 2, 1), (0, 3, 1), (1, 2, 1), (1, 3, 1), (2, 3, 1)], [1, 1, 1, 1], 2), (1, [], [3], 3)] : List (Int × (List E3) × (List Int) × Int)).length : Nat) : Int)
  · replace h := h.1 hp; refine zc hp (yaf (yac (yak (zs ?_)))); obtain ⟨hx, h⟩ := h; refine zq (yao hE42 hE44 underlying78 ydZ (yaG (hS.rdr 2 rfl) hx)) ?_; obtain ⟨vs_, hR, _, hc⟩ := rd_cell (hS.ro 2 rfl) hx (fun q => yd1 q); obtain ⟨u_, v_, rfl, hq2, hR⟩ := hR; replace hq2 : u_ = [(ii ((gx ([(3, [(0, 1, 1), (0, 2, 1), (1, 2, 1)], [1, 1, 0], 1), (3, [(0, 1, 1), (0, 2, 1), (1, 2, 1)], [0, 1, 0], 0), (4, [(0, 1, 1), (0, 2, 1), (0, 3, 1), (1, 2, 1), (1, 3, 1), (2, 3, 1)], [1, 1, 0, 0], 0), (4, [(0, 1, 1), (0, 2, 1), (0, 3, 1), (1, 2, 1), (1, 3, 1), (2, 3, 1)], [1, 1, 1, 0], 1), (4, [(0, 1, 1), (0, 2, 1), (0, 3, 1), (1, 2, 1), (1, 3, 1), (2, 3, 1)], [1, 1, 1, 1], 2), (1, [], [3], 3)] : List (Int × (List E3) × (List Int) × Int)) v.toNat).1))] := hq2; subst hq2; obtain ⟨u_, v_, rfl, hq3, hR⟩ := hR; obtain ⟨A, l, c, rfl, hp2⟩ := R_ro hq3; clear hq3; obtain ⟨u_, v_, rfl, hq4, hR⟩ := hR; obtain ⟨A2, l2, c2, rfl, hp3⟩ := R_ro hq4; clear hq4; have hq5 := hR; replace hq5 : v_ = [(ii ((gx ([(3, [(0, 1, 1), (0, 2, 1), (1, 2, 1)], [1, 1, 0], 1), (3, [(0, 1, 1), (0, 2, 1), (1, 2, 1)], [0, 1, 0], 0), (4, [(0, 1, 1), (0, 2, 1), (0, 3, 1), (1, 2, 1), (1, 3, 1), (2, 3, 1)], [1, 1, 0, 0], 0), (4, [(0, 1, 1), (0, 2, 1), (0, 3, 1), (1, 2, 1), (1, 3, 1), (2, 3, 1)], [1, 1, 1, 0], 1), (4, [(0, 1, 1), (0, 2, 1), (0, 3, 1), (1, 2, 1), (1, 3, 1), (2, 3, 1)], [1, 1, 1, 1], 2), (1, [], [3], 3)] : List (Int × (List E3) × (List Int) × Int)) v.toNat).2.2.2))] := hq5; subst hq5; have hc_ : Cells _ _ 0 [(ii ((gx ([(3, [(0, 1, 1), (0, 2, 1), (1, 2, 1)], [1, 1, 0], 1), (3, [(0, 1, 1), (0, 2, 1), (1, 2, 1)], [0, 1, 0], 0), (4, [(0, 1, 1), (0, 2, 1), (0, 3, 1), (1, 2, 1), (1, 3, 1), (2, 3, 1)], [1, 1, 0, 0], 0), (4, [(0, 1, 1), (0, 2, 1), (0, 3, 1), (1, 2, 1), (1, 3, 1), (2, 3, 1)], [1, 1, 1, 0], 1), (4, [(0, 1, 1), (0, 2, 1), (0, 3, 1), (1, 2, 1), (1, 3, 1), (2, 3, 1)], [1, 1, 1, 1], 2), (1, [], [3], 3)] : List (Int × (List E3) × (List Int) × Int)) v.toNat).1)), (.slice A l c), (.slice A2 l2 c2), (ii ((gx ([(3, [(0, 1, 1), (0, 2, 1), (1, 2, 1)], [1, 1, 0], 1), (3, [(0, 1, 1), (0, 2, 1), (1, 2, 1)], [0, 1, 0], 0), (4, [(0, 1, 1), (0, 2, 1), (0, 3, 1), (1, 2, 1), (1, 3, 1), (2, 3, 1)], [1, 1, 0, 0], 0), (4, [(0, 1, 1), (0, 2, 1), (0, 3, 1), (1, 2, 1), (1, 3, 1), (2, 3, 1)], [1, 1, 1, 0], 1), (4, [(0, 1, 1), (0, 2, 1), (0, 3, 1), (1, 2, 1), (1, 3, 1), (2, 3, 1)], [1, 1, 1, 1], 2), (1, [], [3], 3)] : List (Int × (List E3) × (List Int) × Int)) v.toNat).2.2.2))] := ⟨hc 0 _ rfl, hc 1 _ rfl, hc 2 _ rfl, hc 3 _ rfl, trivial⟩; have hq_0 := hS.addro 3 rfl _ hp2; replace hp3 := fpl_ro (Φ := (FP.sl c3 A l c ((gx ([(3, [(0, 1, 1), (0, 2, 1), (1, 2, 1)], [1, 1, 0], 1), (3, [(0, 1, 1), (0, 2, 1), (1, 2, 1)], [0, 1, 0], 0), (4, [(0, 1, 1), (0, 2, 1), (0, 3, 1), (1, 2, 1), (1, 3, 1), (2, 3, 1)], [1, 1, 0, 0], 0), (4, [(0, 1, 1), (0, 2, 1), (0, 3, 1), (1, 2, 1), (1, 3, 1), (2, 3, 1)], [1, 1, 1, 0], 1), (4, [(0, 1, 1), (0, 2, 1), (0, 3, 1), (1, 2, 1), (1, 3, 1), (2, 3, 1)], [1, 1, 1, 1], 2), (1, [], [3], 3)] : List (Int × (List E3) × (List Int) × Int)) v.toNat).2.1))) hp3 (i := 3) rfl; replace hS := hq_0; clear hq_0; have hq_1 := hS.addro 4 rfl _ hp3; replace hS := hq_1; clear hq_1; refine zq (yas (vs := [(ii ((gx ([(3, [(0, 1, 1), (0, 2, 1), (1, 2, 1)], [1, 1, 0], 1), (3, [(0, 1, 1), (0, 2, 1), (1, 2, 1)], [0, 1, 0], 0), (4, [(0, 1, 1), (0, 2, 1), (0, 3, 1), (1, 2, 1), (1, 3, 1), (2, 3, 1)], [1, 1, 0, 0], 0), (4, [(0, 1, 1), (0, 2, 1), (0, 3, 1), (1, 2, 1), (1, 3, 1), (2, 3, 1)], [1, 1, 1, 0], 1), (4, [(0, 1, 1), (0, 2, 1), (0, 3, 1), (1, 2, 1), (1, 3, 1), (2, 3, 1)], [1, 1, 1, 1], 2), (1, [], [3], 3)] : List (Int × (List E3) × (List Int) × Int)) v.toNat).1)), (.slice A l c), (.slice A2 l2 c2), (ii ((gx ([(3, [(0, 1, 1), (0, 2, 1), (1, 2, 1)], [1, 1, 0], 1), (3, [(0, 1, 1), (0, 2, 1), (1, 2, 1)], [0, 1, 0], 0), (4, [(0, 1, 1), (0, 2, 1), (0, 3, 1), (1, 2, 1), (1, 3, 1), (2, 3, 1)], [1, 1, 0, 0], 0), (4, [(0, 1, 1), (0, 2, 1), (0, 3, 1), (1, 2, 1), (1, 3, 1), (2, 3, 1)], [1, 1, 1, 0], 1), (4, [(0, 1, 1), (0, 2, 1), (0, 3, 1), (1, 2, 1), (1, 3, 1), (2, 3, 1)], [1, 1, 1, 1], 2), (1, [], [3], 3)] : List (Int × (List E3) × (List Int) × Int)) v.toNat).2.2.2))]) rfl underlying77 rfl ydZ hc_) (zn (ya7 ydZ ?_)); intro g12 w16 hN; replace hS : Sep w no O w16 (stl _ 5 (Res.box 77 g12 [(ii 0), (.slice none 0 0), (.slice none 0 0), (ii 0)])) := hS.new 5 rfl hN; clear hN; refine zb (zo (ybF (b := g12) (o := 0) (cells := #[(ii ((gx ([(3, [(0, 1, 1), (0, 2, 1), (1, 2, 1)], [1, 1, 0], 1), (3, [(0, 1, 1), (0, 2, 1), (1, 2, 1)], [0, 1, 0], 0), (4, [(0, 1, 1), (0, 2, 1), (0, 3, 1), (1, 2, 1), (1, 3, 1), (2, 3, 1)], [1, 1, 0, 0], 0), (4, [(0, 1, 1), (0, 2, 1), (0, 3, 1), (1, 2, 1), (1, 3, 1), (2, 3, 1)], [1, 1, 1, 0], 1), (4, [(0, 1, 1), (0, 2, 1), (0, 3, 1), (1, 2, 1), (1, 3, 1), (2, 3, 1)], [1, 1, 1, 1], 2), (1, [], [3], 3)] : List (Int × (List E3) × (List Int) × Int)) v.toNat).1)), (.slice A l c), (.slice A2 l2 c2), (ii ((gx ([(3, [(0, 1, 1), (0, 2, 1), (1, 2, 1)], [1, 1, 0], 1), (3, [(0, 1, 1), (0, 2, 1), (1, 2, 1)], [0, 1, 0], 0), (4, [(0, 1, 1), (0, 2, 1), (0, 3, 1), (1, 2, 1), (1, 3, 1), (2, 3, 1)], [1, 1, 0, 0], 0), (4, [(0, 1, 1), (0, 2, 1), (0, 3, 1), (1, 2, 1), (1, 3, 1), (2, 3, 1)], [1, 1, 1, 0], 1), (4, [(0, 1, 1), (0, 2, 1), (0, 3, 1), (1, 2, 1), (1, 3, 1), (2, 3, 1)], [1, 1, 1, 1], 2), (1, [], [3], 3)] : List (Int × (List E3) × (List Int) × Int)) v.toNat).2.2.2))]) rfl rfl ydZ rfl rfl (ybc (hS.bx 5 rfl) (Nat.le_of_ble_eq_true rfl)) ?_)); intro w17 e1; replace hS := hS.bstn 5 rfl 0 [(ii ((gx ([(3, [(0, 1, 1), (0, 2, 1), (1, 2, 1)], [1, 1, 0], 1), (3, [(0, 1, 1), (0, 2, 1), (1, 2, 1)], [0, 1, 0], 0), (4, [(0, 1, 1), (0, 2, 1), (0, 3, 1), (1, 2, 1), (1, 3, 1), (2, 3, 1)], [1, 1, 0, 0], 0), (4, [(0, 1, 1), (0, 2, 1), (0, 3, 1), (1, 2, 1), (1, 3, 1), (2, 3, 1)], [1, 1, 1, 0], 1), (4, [(0, 1, 1), (0, 2, 1), (0, 3, 1), (1, 2, 1), (1, 3, 1), (2, 3, 1)], [1, 1, 1, 1], 2), (1, [], [3], 3)] : List (Int × (List E3) × (List Int) × Int)) v.toNat).1)), (.slice A l c), (.slice A2 l2 c2), (ii ((gx ([(3, [(0, 1, 1), (0, 2, 1), (1, 2, 1)], [1, 1, 0], 1), (3, [(0, 1, 1), (0, 2, 1), (1, 2, 1)], [0, 1, 0], 0), (4, [(0, 1, 1), (0, 2, 1), (0, 3, 1), (1, 2, 1), (1, 3, 1), (2, 3, 1)], [1, 1, 0, 0], 0), (4, [(0, 1, 1), (0, 2, 1), (0, 3, 1), (1, 2, 1), (1, 3, 1), (2, 3, 1)], [1, 1, 1, 0], 1), (4, [(0, 1, 1), (0, 2, 1), (0, 3, 1), (1, 2, 1), (1, 3, 1), (2, 3, 1)], [1, 1, 1, 1], 2), (1, [], [3], 3)] : List (Int × (List E3) × (List Int) × Int)) v.toNat).2.2.2))] e1; clear e1; refine zb (yaa (zs (zq (yam rfl underlying77 rfl yaq) (zq (yas (vs := [(ii ((gx ([(3, [(0, 1, 1), (0, 2, 1), (1, 2, 1)], [1, 1, 0], 1), (3, [(0, 1, 1), (0, 2, 1), (1, 2, 1)], [0, 1, 0], 0), (4, [(0, 1, 1), (0, 2, 1), (0, 3, 1), (1, 2, 1), (1, 3, 1), (2, 3, 1)], [1, 1, 0, 0], 0), (4, [(0, 1, 1), (0, 2, 1), (0, 3, 1), (1, 2, 1), (1, 3, 1), (2, 3, 1)], [1, 1, 1, 0], 1), (4, [(0, 1, 1), (0, 2, 1), (0, 3, 1), (1, 2, 1), (1, 3, 1), (2, 3, 1)], [1, 1, 1, 1], 2), (1, [], [3], 3)] : List (Int × (List E3) × (List Int) × Int)) v.toNat).1)), (.slice A l c)]) rfl underlying24 rfl yaq ⟨Row.cell (hS.bx 5 rfl) (i := 0) rfl, Row.cell (hS.bx 5 rfl) (i := 1) rfl, trivial⟩) (zq (yam rfl underlying77 rfl ybu) (zq (zl underlying26 (Row.cell (hS.bx 5 rfl) (i := 2) rfl)) (zn (yan rfl (am2 rfl rfl) yjw ((ye1 h (yaF _) (hS.rdr 3 rfl) (hS.rdr 4 rfl)).mono ?_))))))))); rintro _ w18 ⟨r, r2, rfl, hC, h⟩; replace hS := hS.pur hC.pure; clear hC; refine ⟨_, rfl, ?_⟩; refine zb (zq (zm (.tuple #[(ii r), (ii r2)])) (zq (zx (ii r)) (zq (zx (ii r2)) (zq (za (ii r)) (zq (za (ii r2)) (yaa (zs (zq (zm (ii r2)) (zq zN (zq (zm (.bool (!(decide (r2 = 0))))) ?_)))))))))); by_cases hp4 : r2 = 0
    · replace h := h.1 hp4; refine rl_q (yae rfl (yaj rfl (congrArg Value.bool (congrArg Bool.not (decide_eq_true hp4))))) rfl rfl (zm (ii r)) (rl_q (yae rfl (yaj rfl (congrArg Value.bool (congrArg Bool.not (decide_eq_true hp4))))) rfl rfl (yam rfl underlying77 rfl yag) (rl_q (yae rfl (yaj rfl (congrArg Value.bool (congrArg Bool.not (decide_eq_true hp4))))) rfl rfl (zl underlying3 (Row.cell (hS.bx 5 rfl) (i := 3) rfl)) (rl_q (yae rfl (yaj rfl (congrArg Value.bool (congrArg Bool.not (decide_eq_true hp4))))) rfl rfl zN (zq (yaz (v := (.bool (!(decide (r = ((gx ([(3, [(0, 1, 1), (0, 2, 1), (1, 2, 1)], [1, 1, 0], 1), (3, [(0, 1, 1), (0, 2, 1), (1, 2, 1)], [0, 1, 0], 0), (4, [(0, 1, 1), (0, 2, 1), (0, 3, 1), (1, 2, 1), (1, 3, 1), (2, 3, 1)], [1, 1, 0, 0], 0), (4, [(0, 1, 1), (0, 2, 1), (0, 3, 1), (1, 2, 1), (1, 3, 1), (2, 3, 1)], [1, 1, 1, 0], 1), (4, [(0, 1, 1), (0, 2, 1), (0, 3, 1), (1, 2, 1), (1, 3, 1), (2, 3, 1)], [1, 1, 1, 1], 2), (1, [], [3], 3)] : List (Int × (List E3) × (List Int) × Int)) v.toNat).2.2.2)))))) (congrArg Value.bool (congrArg Bool.not (decide_eq_true hp4))) rfl) (yaa ?_))))); by_cases hp5 : r = ((gx ([(3, [(0, 1, 1), (0, 2, 1), (1, 2, 1)], [1, 1, 0], 1), (3, [(0, 1, 1), (0, 2, 1), (1, 2, 1)], [0, 1, 0], 0), (4, [(0, 1, 1), (0, 2, 1), (0, 3, 1), (1, 2, 1), (1, 3, 1), (2, 3, 1)], [1, 1, 0, 0], 0), (4, [(0, 1, 1), (0, 2, 1), (0, 3, 1), (1, 2, 1), (1, 3, 1), (2, 3, 1)], [1, 1, 1, 0], 1), (4, [(0, 1, 1), (0, 2, 1), (0, 3, 1), (1, 2, 1), (1, 3, 1), (2, 3, 1)], [1, 1, 1, 1], 2), (1, [], [3], 3)] : List (Int × (List E3) × (List Int) × Int)) v.toNat).2.2.2)
      · replace h := h.1 hp5; refine ze hp5 (yaf (yai (zr ?_))); obtain ⟨hi, h⟩ := h; refine zq (yaC hE44 rfl hi) (zq (zm (ii (v + 1))) (yaa ?_)); obtain ⟨mq, hlt, h⟩ := h; exact again mq _ _ _ ⟨_, h, rfl, hE1, hE42, hE43, rfl, (hS.sel [0, 1, 2] (by decide))⟩ hlt
      · replace h := h.2 hp5; exact zf hp5 (zs (zq (za (.bool (false))) (yaa (yal rfl rfl ⟨_, rfl, (hS.sel [] (by decide)), h⟩))))
    · replace h := h.2 hp4; exact rl_p (yad rfl (yaj rfl (congrArg Value.bool (congrArg Bool.not (decide_eq_false hp4)))) rfl) rfl (rl_p (yad rfl (yaj rfl (congrArg Value.bool (congrArg Bool.not (decide_eq_false hp4)))) rfl) rfl (rl_p (yad rfl (yaj rfl (congrArg Value.bool (congrArg Bool.not (decide_eq_false hp4)))) rfl) rfl (rl_p (yad rfl (yaj rfl (congrArg Value.bool (congrArg Bool.not (decide_eq_false hp4)))) rfl) rfl (zq (yaB (v := (.bool (true))) (congrArg Value.bool (congrArg Bool.not (decide_eq_false hp4))) rfl) (yaa (yau rfl (zs (zq (za (.bool (false))) (yaa (yal rfl rfl ⟨_, rfl, (hS.sel [] (by decide)), h⟩))))))))))
  · replace h := h.2 hp; refine zd hp (yav rfl (zs (zq (yas (vs := [(ii 3), (.slice (some ⟨g, 0, none⟩) 3 3)]) hE1 underlying24 rfl yaq ⟨Row.cell (hS.bx 0 rfl) (i := 0) rfl, Row.cell (hS.bx 0 rfl) (i := 1) rfl, trivial⟩) (zn (yaD (l := [(0, (ii 1)), (1, (ii 1)), (2, (ii 0))]) (cells := [(ii 1), (ii 1), (ii 0)]) (bp3 rfl rfl rfl) underlying26 yag rfl rfl ?_))))); intro g13 w19 hN; replace hS := hS.litf (n := 3) 3 rfl (fI .i64) hN ([1, 1, 0] : List Int) rfl (by decide) rfl; clear hN; refine zb ?_; replace hS := hS.frz 3 rfl; refine zn (yan rfl (am2 rfl rfl) enter_36 ((yfk h hS.blt (hS.ro 1 rfl) (hS.ro 3 rfl)).mono ?_)); rintro _ w20 ⟨r3, r4, Ar, lr, cr, rfl, hC, h⟩; replace hS := hS.call1 hC 4 0 rfl; clear hC; refine ⟨_, rfl, ?_⟩; refine zb (zq (zm (.tuple #[(.slice Ar lr cr), (ii r4)])) (zq (zx (.slice Ar lr cr)) (zq (zx (ii r4)) (zq (za (.slice Ar lr cr)) (zq (za (ii r4)) (yaa (zs (zq (yas (vs := [(ii 3), (.slice (some ⟨g, 0, none⟩) 3 3)]) hE1 underlying24 rfl yaq ⟨Row.cell (hS.bx 0 rfl) (i := 0) rfl, Row.cell (hS.bx 0 rfl) (i := 1) rfl, trivial⟩) (zn (yaD (l := [(0, (ii 0)), (1, (ii 1)), (2, (ii 0))]) (cells := [(ii 0), (ii 1), (ii 0)]) (bp3 rfl rfl rfl) underlying26 yag rfl rfl ?_)))))))))); intro g14 w21 hN; replace hS := hS.litf (n := 3) 5 rfl (fI .i64) hN ([0, 1, 0] : List Int) rfl (by decide) rfl; clear hN; refine zb ?_; replace hS := hS.frz 5 rfl; refine zn (yan rfl (am2 rfl rfl) enter_36 ((yfk h hS.blt (hS.ro 1 rfl) (hS.ro 5 rfl)).mono ?_)); rintro _ w22 ⟨r5, r6, Ar2, lr2, cr2, rfl, hC, h⟩; replace hS := hS.call1 hC 6 0 rfl; clear hC; refine ⟨_, rfl, ?_⟩; refine zb (zq (zm (.tuple #[(.slice Ar2 lr2 cr2), (ii r6)])) (zq (zx (.slice Ar2 lr2 cr2)) (zq (zx (ii r6)) (zq (za (.slice Ar2 lr2 cr2)) (zq (za (ii r6)) (yaa (zs (zq (zm (ii r4)) (zq zE (zq (zm (.bool (decide (r4 = 0)))) ?_)))))))))); by_cases hp6 : r4 = 0
    · replace h := h.1 hp6; refine rl_q (yae rfl (yaj rfl (congrArg Value.bool (decide_eq_true hp6)))) rfl rfl (zm (ii r6)) (rl_q (yae rfl (yaj rfl (congrArg Value.bool (decide_eq_true hp6)))) rfl rfl zE (zq (yaB (v := (.bool (decide (r6 = 0)))) (congrArg Value.bool (decide_eq_true hp6)) rfl) (zq (zm (.bool (decide (r6 = 0)))) ?_))); by_cases hp7 : r6 = 0
      · replace h := h.1 hp7; refine rl_q (yae rfl (yaj rfl (congrArg Value.bool (decide_eq_true hp7)))) rfl rfl (zm (.slice Ar lr cr)) (rl_n (yae rfl (yaj rfl (congrArg Value.bool (decide_eq_true hp7)))) rfl rfl rfl (yaD (l := [(0, (ii 0)), (1, (ii 1)), (2, (ii 1))]) (cells := [(ii 0), (ii 1), (ii 1)]) (bp3 rfl rfl rfl) underlying26 yag rfl rfl ?_)); intro g15 w23 hN; replace hS := hS.litf (n := 3) 7 rfl (fI .i64) hN ([0, 1, 1] : List Int) rfl (by decide) rfl; clear hN; refine zb (rl_n (yae rfl (yaj rfl (congrArg Value.bool (decide_eq_true hp7)))) rfl rfl rfl (yan rfl (am2 rfl rfl) enter_42 ((ycU h (yaF _) (hS.rdr 4 rfl) (hS.rdo 7 rfl)).mono ?_))); rintro _ w24 ⟨r7, rfl, hC, h⟩; replace hS := hS.pur hC.pure; clear hC; refine ⟨_, rfl, ?_⟩; refine zb (zq (yaB (v := (.bool (r7))) (congrArg Value.bool (decide_eq_true hp7)) rfl) (zq (zm (.bool (r7))) ?_)); by_cases hp8 : r7 = true
        · replace h := h.1 hp8; refine rl_q (yae rfl (yaj rfl (congrArg Value.bool hp8))) rfl rfl (zm (.slice Ar2 lr2 cr2)) (rl_n (yae rfl (yaj rfl (congrArg Value.bool hp8))) rfl rfl rfl (yaD (l := [(0, (ii 0)), (1, (ii 0)), (2, (ii 1))]) (cells := [(ii 0), (ii 0), (ii 1)]) (bp3 rfl rfl rfl) underlying26 yag rfl rfl ?_)); intro g16 w25 hN; replace hS := hS.litf (n := 3) 8 rfl (fI .i64) hN ([0, 0, 1] : List Int) rfl (by decide) rfl; clear hN; refine zb (rl_n (yae rfl (yaj rfl (congrArg Value.bool hp8))) rfl rfl rfl (yan rfl (am2 rfl rfl) enter_42 ((ycU h (yaF _) (hS.rdr 6 rfl) (hS.rdo 8 rfl)).mono ?_))); rintro _ w26 ⟨r8, rfl, hC, h⟩; replace hS := hS.pur hC.pure; clear hC; refine ⟨_, rfl, ?_⟩; exact zb (zq (yaB (v := (.bool (r8))) (congrArg Value.bool hp8) rfl) (zq (za (.bool (r8))) (yaa (yal rfl rfl ⟨_, rfl, (hS.sel [] (by decide)), h⟩))))
        · replace h := h.2 hp8; exact rl_p (yad rfl (yaj rfl (congrArg Value.bool (Bool.eq_false_iff.2 hp8))) rfl) rfl (rl_p (yad rfl (yaj rfl (congrArg Value.bool (Bool.eq_false_iff.2 hp8))) rfl) rfl (rl_p (yad rfl (yaj rfl (congrArg Value.bool (Bool.eq_false_iff.2 hp8))) rfl) rfl (zq (yaz (v := (.bool (false))) (congrArg Value.bool (Bool.eq_false_iff.2 hp8)) rfl) (zq (za (.bool (false))) (yaa (yal rfl rfl ⟨_, rfl, (hS.sel [] (by decide)), h⟩))))))
      · replace h := h.2 hp7; exact rl_p (yad rfl (yaj rfl (congrArg Value.bool (decide_eq_false hp7))) rfl) rfl (rl_p (yad rfl (yaj rfl (congrArg Value.bool (decide_eq_false hp7))) rfl) rfl (rl_p (yad rfl (yaj rfl (congrArg Value.bool (decide_eq_false hp7))) rfl) rfl (zq (yaz (v := (.bool (false))) (congrArg Value.bool (decide_eq_false hp7)) rfl) (zq (zm (.bool (false))) (rl_p (yad rfl (yaj rfl rfl) rfl) rfl (rl_p (yad rfl (yaj rfl rfl) rfl) rfl (rl_p (yad rfl (yaj rfl rfl) rfl) rfl (zq (yaz (v := (.bool (false))) rfl rfl) (zq (za (.bool (false))) (yaa (yal rfl rfl ⟨_, rfl, (hS.sel [] (by decide)), h⟩)))))))))))
    · replace h := h.2 hp6; exact rl_p (yad rfl (yaj rfl (congrArg Value.bool (decide_eq_false hp6))) rfl) rfl (rl_p (yad rfl (yaj rfl (congrArg Value.bool (decide_eq_false hp6))) rfl) rfl (zq (yaz (v := (.bool (false))) (congrArg Value.bool (decide_eq_false hp6)) rfl) (zq (zm (.bool (false))) (rl_p (yad rfl (yaj rfl rfl) rfl) rfl (rl_p (yad rfl (yaj rfl rfl) rfl) rfl (rl_p (yad rfl (yaj rfl rfl) rfl) rfl (zq (yaz (v := (.bool (false))) rfl rfl) (zq (zm (.bool (false))) (rl_p (yad rfl (yaj rfl rfl) rfl) rfl (rl_p (yad rfl (yaj rfl rfl) rfl) rfl (rl_p (yad rfl (yaj rfl rfl) rfl) rfl (zq (yaz (v := (.bool (false))) rfl rfl) (zq (za (.bool (false))) (yaa (yal rfl rfl ⟨_, rfl, (hS.sel [] (by decide)), h⟩)))))))))))))))
def ybz (x : List Int) (y : List Int) (R : Bool → Prop) : Prop :=
ybm x y (fun r =>
R r)
theorem yf7 {O : Nat → Prop} {w : World} {x y Ax lx cx Ay ly cy} {R : Bool → Prop} (h : ybz x y R) (hO : ∀ k, O k → k < w.heap.size) (hA0 : (FP.sl cI Ax lx cx x).P O w) (hA1 : (FP.sl cI Ay ly cy y).P O w) :
    Calls Tryz.prog 12 #[(.slice Ax lx cx), (.slice Ay ly cy)] w fun e w' => ∃ r2, e = .returned (.bool (r2)) ∧ Sep w no O w' (rl []) ∧ R r2 := by
  unfold ybz at h; have hS : Sep w no O w (rl [Res.ro (FP.sl cI Ax lx cx x), Res.ro (FP.sl cI Ay ly cy y)]) := Sep.startl hO [(FP.sl cI Ax lx cx x), (FP.sl cI Ay ly cy y)] ⟨hA0, hA1, trivial⟩; refine yar (l := [(.slice Ax lx cx), (.slice Ay ly cy)]) func12 rfl ntmps12 (Nat.le_of_ble_eq_true rfl) (zs (zq (za (.bool (false))) (yaa (zs (zq (zm (.slice Ax lx cx)) (zq (zm (.slice Ay ly cy)) (zn (yan rfl (am2 rfl rfl) enter_13 ((ye5 h (yaF _) (hS.rdr 0 rfl) (hS.rdr 1 rfl)).mono ?_))))))))); rintro _ w2 ⟨r, rfl, hC, h⟩; replace hS := hS.pur hC.pure; clear hC; refine ⟨_, rfl, ?_⟩; exact zb (zq (za (.bool (r))) (yaa (yal rfl rfl ⟨_, rfl, (hS.sel [] (by decide)), h⟩)))
def ycz (g : Int) (g2 : List E3) (d : List Int) (r : Int) (R : Bool → Prop) : Prop :=
yeF g g2 d 4 (fun r2 =>
((r2 = true →
ybD g g2 d r (fun r3 r4 =>
ybL g g2 d r (fun r5 r6 =>
yaQ r3 r5 (fun x x2 R => ybz x x2 R) (fun r7 =>
((r7 = true →
((r4 = r6 →
yco (fun r8 =>
R r8)) ∧
(¬ (r4 = r6) →
R false))) ∧
(¬ (r7 = true) →
R false)))))) ∧
(¬ (r2 = true) →
yco (fun r9 =>
R r9))))
theorem pok_l38_RankProves {O : Nat → Prop} {w : World} {g g2 d r Ag lg cg Ad ld cd} {R : Bool → Prop} (h : ycz g g2 d r R) (hO : ∀ k, O k → k < w.heap.size) (hA0 : (FP.sl c3 Ag lg cg g2).P O w) (hA1 : (FP.sl cI Ad ld cd d).P O w) :
    Calls Tryz.prog 3 #[(.agg #[(ii g), (.slice Ag lg cg)]), (.slice Ad ld cd), (ii r)] w fun e w' => ∃ r10, e = .returned (.bool (r10)) ∧ Sep w no O w' (rl []) ∧ R r10 := by
  unfold ycz at h; have hS : Sep w no O w (rl [Res.ro (FP.sl c3 Ag lg cg g2), Res.ro (FP.sl cI Ad ld cd d)]) := Sep.startl hO [(FP.sl c3 Ag lg cg g2), (FP.sl cI Ad ld cd d)] ⟨hA0, hA1, trivial⟩; refine yar (l := [(.agg #[(ii g), (.slice Ag lg cg)]), (.slice Ad ld cd), (ii r)]) func3 rfl ntmps3 (Nat.le_of_ble_eq_true rfl) (zs (zn (ybq (v := (.agg #[(ii g), (.slice Ag lg cg)])) rfl ?_))); intro g3 w2 hN; replace hS : Sep w no O w2 (stl _ 2 (Res.box 24 g3 [(ii g), (.slice Ag lg cg)])) := hS.new 2 rfl hN; clear hN; refine zb (zq (za (.bool (false))) (yaa (yac (zs (zq (yas (vs := [(ii g), (.slice Ag lg cg)]) rfl underlying24 rfl yaq ⟨Row.cell (hS.bx 2 rfl) (i := 0) rfl, Row.cell (hS.bx 2 rfl) (i := 1) rfl, trivial⟩) (zq (zm (.slice Ad ld cd)) (zn (yan rfl (am3 rfl rfl rfl) enter_7 ((yj8 h (yaF _) (hS.rdr 0 rfl) (hS.rdr 1 rfl)).mono ?_))))))))); rintro _ w3 ⟨r2, rfl, hC, h⟩; replace hS := hS.pur hC.pure; clear hC; refine ⟨_, rfl, ?_⟩; refine zb (zq (ydA rfl) (yaa ?_)); by_cases hp : r2 = true
  · replace h := h.1 hp; refine yay (congrArg Value.bool (congrArg Bool.not hp)) (yaf (zs (zq (yas (vs := [(ii g), (.slice Ag lg cg)]) rfl underlying24 rfl yaq ⟨Row.cell (hS.bx 2 rfl) (i := 0) rfl, Row.cell (hS.bx 2 rfl) (i := 1) rfl, trivial⟩) (zq (zm (.slice Ad ld cd)) (zq (zm (ii r)) (zn (yan rfl (am3 rfl rfl rfl) enter_9 ((yf6 h hS.blt (hS.ro 0 rfl) (hS.ro 1 rfl)).mono ?_)))))))); rintro _ w4 ⟨r3, r4, Ar, lr, cr, rfl, hC, h⟩; replace hS := hS.call1 hC 3 0 rfl; clear hC; refine ⟨_, rfl, ?_⟩; refine zb (zq (zm (.tuple #[(.slice Ar lr cr), (ii r4)])) (zq (zx (.slice Ar lr cr)) (zq (zx (ii r4)) (zq (za (.slice Ar lr cr)) (zq (za (ii r4)) (yaa (zs (zq (yas (vs := [(ii g), (.slice Ag lg cg)]) rfl underlying24 rfl yaq ⟨Row.cell (hS.bx 2 rfl) (i := 0) rfl, Row.cell (hS.bx 2 rfl) (i := 1) rfl, trivial⟩) (zq (zm (.slice Ad ld cd)) (zq (zm (ii r)) (zn (yan rfl (am3 rfl rfl rfl) enter_10 ((ygi h hS.blt (hS.ro 0 rfl) (hS.ro 1 rfl)).mono ?_))))))))))))); rintro _ w5 ⟨r5, r6, Ar2, lr2, cr2, rfl, hC, h⟩; replace hS := hS.call1 hC 4 0 rfl; clear hC; refine ⟨_, rfl, ?_⟩; refine zb (zq (zm (.tuple #[(.slice Ar2 lr2 cr2), (ii r6)])) (zq (zx (.slice Ar2 lr2 cr2)) (zq (zx (ii r6)) (zq (za (.slice Ar2 lr2 cr2)) (zq (za (ii r6)) (yaa (zs (zq (zm (.slice Ar lr cr)) (zq (zm (.slice Ar2 lr2 cr2)) (zn (yan rfl (am3 rfl rfl rfl) enter_11 ((ydN h (yaF _) (hS.rdo 3 rfl) (hS.rdo 4 rfl) (fun w' hk => ⟨12, #[], rfl, enter_12, fun x x2 Ax lx cx Ax2 lx2 cx2 R hF hz0 hz1 => ydk (by simp) (yf7 hF (yaF _) hz0 hz1)⟩)).mono ?_)))))))))))); rintro _ w6 ⟨r7, rfl, hC, h⟩; replace hS := hS.pur hC.pure; clear hC; refine ⟨_, rfl, ?_⟩; refine zb (zq (zm (.bool (r7))) ?_); by_cases hp2 : r7 = true
    · replace h := h.1 hp2; refine rl_q (yae rfl (yaj rfl (congrArg Value.bool hp2))) rfl rfl (zm (ii r4)) (rl_q (yae rfl (yaj rfl (congrArg Value.bool hp2))) rfl rfl (zm (ii r6)) (rl_q (yae rfl (yaj rfl (congrArg Value.bool hp2))) rfl rfl zE (zq (yaB (v := (.bool (decide (r4 = r6)))) (congrArg Value.bool hp2) rfl) (zq (zm (.bool (decide (r4 = r6)))) ?_)))); by_cases hp3 : r4 = r6
      · replace h := h.1 hp3; refine rl_n (yae rfl (yaj rfl (congrArg Value.bool (decide_eq_true hp3)))) rfl rfl rfl (yan rfl (am0) enter_8 ((ygy h (yaF _)).mono ?_)); rintro _ w7 ⟨r8, rfl, hC, h⟩; replace hS := hS.pur hC.pure; clear hC; refine ⟨_, rfl, ?_⟩; exact zb (zq (yaB (v := (.bool (r8))) (congrArg Value.bool (decide_eq_true hp3)) rfl) (zq (za (.bool (r8))) (yaa (yal rfl rfl ⟨_, rfl, (hS.sel [] (by decide)), h⟩))))
      · replace h := h.2 hp3; exact rl_p (yad rfl (yaj rfl (congrArg Value.bool (decide_eq_false hp3))) rfl) rfl (zq (yaz (v := (.bool (false))) (congrArg Value.bool (decide_eq_false hp3)) rfl) (zq (za (.bool (false))) (yaa (yal rfl rfl ⟨_, rfl, (hS.sel [] (by decide)), h⟩))))
    · replace h := h.2 hp2; exact rl_p (yad rfl (yaj rfl (congrArg Value.bool (Bool.eq_false_iff.2 hp2))) rfl) rfl (rl_p (yad rfl (yaj rfl (congrArg Value.bool (Bool.eq_false_iff.2 hp2))) rfl) rfl (rl_p (yad rfl (yaj rfl (congrArg Value.bool (Bool.eq_false_iff.2 hp2))) rfl) rfl (zq (yaz (v := (.bool (false))) (congrArg Value.bool (Bool.eq_false_iff.2 hp2)) rfl) (zq (zm (.bool (false))) (rl_p (yad rfl (yaj rfl rfl) rfl) rfl (zq (yaz (v := (.bool (false))) rfl rfl) (zq (za (.bool (false))) (yaa (yal rfl rfl ⟨_, rfl, (hS.sel [] (by decide)), h⟩)))))))))
  · replace h := h.2 hp; refine yau (congrArg Value.bool (congrArg Bool.not (Bool.eq_false_iff.2 hp))) (zs (zn (yan rfl (am0) enter_8 ((ygy h (yaF _)).mono ?_)))); rintro _ w8 ⟨r9, rfl, hC, h⟩; replace hS := hS.pur hC.pure; clear hC; refine ⟨_, rfl, ?_⟩; exact zb (zq (za (.bool (r9))) (yaa (yal rfl rfl ⟨_, rfl, (hS.sel [] (by decide)), h⟩)))
end Go.Proofs.YtmeoemmemjipdaaGreat

/- The examples of the chapter on ranks come out right; what the law's small functions come to. -/
namespace Go.Proofs.YtmeoemmemjipdaaGreat
open Go Go.Proofs.Tryz
set_option linter.unusedVariables false
set_option linter.unusedSimpArgs false
def tri : List E3 := [(0, 1, 1), (0, 2, 1), (1, 2, 1)]
def k4 : List E3 := [(0, 1, 1), (0, 2, 1), (0, 3, 1), (1, 2, 1), (1, 3, 1), (2, 3, 1)]
theorem yhs : GOk 3 tri := ⟨by decide, by decide, by decide, by decide, by decide, by decide⟩
theorem k4_ok : GOk 4 k4 := ⟨by decide, by decide, by decide, by decide, by decide, by decide⟩
theorem one_ok : GOk 1 [] := ⟨by decide, by decide, by decide, by decide, by decide, by decide⟩
theorem al_dec {N k : Nat} {es : List E3} {d : List Int} (S : List (List Int)) (h : ∀ e ∈ ybG (N + 1) k, ∃ s ∈ S, ∀ v, v < N + 1 → 0 ≤ gi (sb (N + 1) d e) v - Lp (N + 1) es (gi s) v) : AL (N + 1) es d (k : Int) := fun e he => by
  obtain ⟨s, -, hs⟩ := h e (yhT he)
  exact ⟨gi s, hs⟩
theorem yer {n : Nat} {es : List E3} {d : List Int} (G : GOk n es) (q : Nat) (hq : q < n) (h1 : ∀ v, v < n → v ≠ q → 0 ≤ gi d v) (h2 : ∀ m, m < 2 ^ n → 1 ≤ m → m.testBit q = false → ¬ (∀ v, v < n → m.testBit v = true → outS n es m.testBit v ≤ gi d v)) (hneg : gi d q < 0) : ¬ Win n es d := fun hw => by
  have := (yj7 (d := d) (r := d) (s := fun _ => 0) G.E hq (red_of_dec hq h1 h2) fun v hv => by rw [yeh]; omega).1 hw
  omega
theorem no_dec {N k : Nat} {es : List E3} {d : List Int} (e : List Int) (he : e ∈ ybG (N + 1) k) (h : ¬ Win (N + 1) es (sb (N + 1) d e)) : ¬ AL (N + 1) es d (k : Int) := fun q => h (q e (ye3 he))
theorem ex1 : RkOk 3 tri [1, 1, 0] 1 := ⟨by omega, al_dec (N := 2) (k := 1) [[0, 0, 0], [1, 1, 0]] (by decide), no_dec (N := 2) (k := 2) [0, 1, 1] (by decide) (yer yhs 2 (by decide) (by decide) (by decide) (by decide))⟩
theorem ex2 : RkOk 3 tri [0, 1, 0] 0 := ⟨by omega, al_dec (N := 2) (k := 0) [[0, 0, 0]] (by decide), no_dec (N := 2) (k := 1) [0, 0, 1] (by decide) (yer yhs 2 (by decide) (by decide) (by decide) (by decide))⟩
theorem ex3 : RkOk 4 k4 [1, 1, 0, 0] 0 := ⟨by omega, al_dec (N := 3) (k := 0) [[0, 0, 0, 0]] (by decide), no_dec (N := 3) (k := 1) [0, 0, 1, 0] (by decide) (yer k4_ok 2 (by decide) (by decide) (by decide) (by decide))⟩
theorem ex4 : RkOk 4 k4 [1, 1, 1, 0] 1 := ⟨by omega, al_dec (N := 3) (k := 1) [[0, 0, 0, 0], [1, 1, 1, 0]] (by decide), no_dec (N := 3) (k := 2) [2, 0, 0, 0] (by decide) (yer k4_ok 0 (by decide) (by decide) (by decide) (by decide))⟩
theorem ex5 : RkOk 4 k4 [1, 1, 1, 1] 2 := ⟨by omega, al_dec (N := 3) (k := 2) [[0, 0, 0, 0], [0, 1, 1, 1], [1, 0, 1, 1], [1, 1, 0, 1], [1, 1, 1, 0]] (by decide), no_dec (N := 3) (k := 3) [2, 1, 0, 0] (by decide) (yer k4_ok 0 (by decide) (by decide) (by decide) (by decide))⟩
theorem ex6 : RkOk 1 [] [3] 3 := ⟨by omega, al_dec (N := 0) (k := 3) [[0]] (by decide), no_dec (N := 0) (k := 4) [4] (by decide) (yer one_ok 0 (by decide) (by decide) (by decide) (by decide))⟩
theorem wx1 : WitOk 3 tri [1, 1, 0] [0, 1, 1] := ⟨1, ex1, ⟨[[0, 0, 2]], [[0, 2, 0], [1, 0, 1], [1, 1, 0], [2, 0, 0]], by decide, fun e he => by
  rw [List.mem_singleton] at he
  subst he
  exact ⟨gi [1, 1, 0], by decide⟩⟩, yer yhs 2 (by decide) (by decide) (by decide) (by decide)⟩
theorem wx2 : WitOk 3 tri [0, 1, 0] [0, 0, 1] := ⟨0, ex2, ⟨[], [[0, 1, 0], [1, 0, 0]], by decide, fun e he => by simp at he⟩, yer yhs 2 (by decide) (by decide) (by decide) (by decide)⟩
theorem yhb {n : Nat} {es : List E3} {d : List Int} {r : Int} {R : Int → Int → Prop} (hr : RkOk n es d r) (G : GOk n es) (hd : d.length = n) (hb : ∀ v, v < n → -200 ≤ gi d v ∧ gi d v ≤ 200) (h5 : dg d ≤ 5) (h : R r 0) : ya5 (n : Int) es d R := by
  have := G.el
  refine ygh (by omega) (fun q => absurd (G.giv hd fun v hv => by have := hb v hv; omega) q) fun _ => ?_
  simp only [Int.toNat_natCast]
  exact ⟨G, hb, h5, fun k hk => by rw [hk.eq G.n1 hr]; exact h⟩
theorem ex_wit {n : Nat} {es : List E3} {d w : List Int} {R : List Int → Int → Prop} (hr : WitOk n es d w) (G : GOk n es) (hd : d.length = n) (hb : ∀ v, v < n → -150 ≤ gi d v ∧ gi d v ≤ 150) (h5 : dg d ≤ 5) (h : R w 0) : ybA (n : Int) es d R := by
  have := G.el
  refine p_rank_Witness (by omega) (fun q => absurd (G.giv hd fun v hv => by have := hb v hv; omega) q) fun _ => ?_
  simp only [Int.toNat_natCast]
  exact ⟨⟨G, hb, h5⟩, fun k hk => by rw [hk.eq G.n1 hr]; exact h⟩
theorem yh8 {R : Bool → Prop} (h : R true) : yco R := by
  unfold yco
  generalize hL : ([(3, [(0, 1, 1), (0, 2, 1), (1, 2, 1)], [1, 1, 0], 1), (3, [(0, 1, 1), (0, 2, 1), (1, 2, 1)], [0, 1, 0], 0), (4, [(0, 1, 1), (0, 2, 1), (0, 3, 1), (1, 2, 1), (1, 3, 1), (2, 3, 1)], [1, 1, 0, 0], 0), (4, [(0, 1, 1), (0, 2, 1), (0, 3, 1), (1, 2, 1), (1, 3, 1), (2, 3, 1)], [1, 1, 1, 0], 1), (4, [(0, 1, 1), (0, 2, 1), (0, 3, 1), (1, 2, 1), (1, 3, 1), (2, 3, 1)], [1, 1, 1, 1], 2), (1, [], [3], 3)] : List (Int × (List (Int × Int × Int)) × (List Int) × Int)) = L
  have hlen : L.length = 6 := by rw [← hL]; rfl
  have e0 : gx L 0 = (3, tri, [1, 1, 0], 1) := by rw [← hL]; rfl
  have e1 : gx L 1 = (3, tri, [0, 1, 0], 0) := by rw [← hL]; rfl
  have e2 : gx L 2 = (4, k4, [1, 1, 0, 0], 0) := by rw [← hL]; rfl
  have e3 : gx L 3 = (4, k4, [1, 1, 1, 0], 1) := by rw [← hL]; rfl
  have e4 : gx L 4 = (4, k4, [1, 1, 1, 1], 2) := by rw [← hL]; rfl
  have e5 : gx L 5 = (1, [], [3], 3) := by rw [← hL]; rfl
  clear hL
  rw [hlen]
  refine ⟨fun m v => ∃ k : Nat, v = (k : Int) ∧ k ≤ 6 ∧ m = 6 - k, ⟨6, 0, rfl, by omega, rfl⟩, ?_⟩
  rintro m _ ⟨k, rfl, hk, rfl⟩
  simp only [Int.toNat_natCast]
  refine ⟨fun hlt => ?_, fun _ => ?_⟩
  · have hk6 : k < 6 := by omega
    have nx : In64 ((k : Int) + 1) ∧ ∃ m3, m3 < 6 - k ∧ ∃ k' : Nat, (k : Int) + 1 = (k' : Int) ∧ k' ≤ 6 ∧ m3 = 6 - k' := ⟨i64 (by omega), 6 - (k + 1), by omega, k + 1, by omega, by omega, rfl⟩
    refine ⟨⟨by omega, by omega⟩, ?_⟩
    rcases (by omega : k = 0 ∨ k = 1 ∨ k = 2 ∨ k = 3 ∨ k = 4 ∨ k = 5) with rfl | rfl | rfl | rfl | rfl | rfl
    · rw [e0]
      show ya5 ((3 : Nat) : Int) tri [1, 1, 0] _
      exact yhb ex1 yhs (by decide) (by decide) (by decide) ⟨fun _ => ⟨fun _ => nx, fun q => absurd rfl q⟩, fun q => absurd rfl q⟩
    · rw [e1]
      show ya5 ((3 : Nat) : Int) tri [0, 1, 0] _
      exact yhb ex2 yhs (by decide) (by decide) (by decide) ⟨fun _ => ⟨fun _ => nx, fun q => absurd rfl q⟩, fun q => absurd rfl q⟩
    · rw [e2]
      show ya5 ((4 : Nat) : Int) k4 [1, 1, 0, 0] _
      exact yhb ex3 k4_ok (by decide) (by decide) (by decide) ⟨fun _ => ⟨fun _ => nx, fun q => absurd rfl q⟩, fun q => absurd rfl q⟩
    · rw [e3]
      show ya5 ((4 : Nat) : Int) k4 [1, 1, 1, 0] _
      exact yhb ex4 k4_ok (by decide) (by decide) (by decide) ⟨fun _ => ⟨fun _ => nx, fun q => absurd rfl q⟩, fun q => absurd rfl q⟩
    · rw [e4]
      show ya5 ((4 : Nat) : Int) k4 [1, 1, 1, 1] _
      exact yhb ex5 k4_ok (by decide) (by decide) (by decide) ⟨fun _ => ⟨fun _ => nx, fun q => absurd rfl q⟩, fun q => absurd rfl q⟩
    · rw [e5]
      show ya5 ((1 : Nat) : Int) [] [3] _
      exact yhb ex6 one_ok (by decide) (by decide) (by decide) ⟨fun _ => ⟨fun _ => nx, fun q => absurd rfl q⟩, fun q => absurd rfl q⟩
  · refine ex_wit wx1 yhs (by decide) (by decide) (by decide) (ex_wit wx2 yhs (by decide) (by decide) (by decide) ⟨fun _ => ⟨fun _ => ?_, fun q => absurd rfl q⟩, fun q => absurd rfl q⟩)
    exact ydd (by decide) ⟨fun _ => ydd (by decide) h, fun q => absurd (by decide) q⟩
end Go.Proofs.YtmeoemmemjipdaaGreat

/- The reference's form and way; certificates of the reference. -/
namespace Go.Proofs.YtmeoemmemjipdaaGreat
open Go Go.Proofs.Tryz
set_option linter.unusedVariables false
set_option linter.unusedSimpArgs false
section
variable {m q : Nat} {es : List E3} {d x s : List Int}
theorem p_r34_FormWay {R : List Int → Prop} (hl : es.length ≤ 1000) (hm : m ≤ 5) (hq : q ≤ m) (ht : ∀ v, v < m + 1 → topF (m + 1) es q v ≤ 8) (hd : ∀ j, j < m + 1 → -120 ≤ gi d j ∧ gi d j ≤ 120)
    (hG : yaH ((m + 1 : Nat) : Int) es (q : Int) d = 0) (hx : Reduces (m + 1) es q d x s) (h : R s) : ydY ((m + 1 : Nat) : Int) es (q : Int) d fun r => yeS ((m + 1 : Nat) : Int) es (q : Int) d r R := by
  obtain ⟨hg, hc, -, -, hck⟩ := yb0 hG
  obtain ⟨hE, -, -⟩ := yba hg
  have hE : EOk (m + 1) es := hE
  have hdl : d.length = m + 1 := (ygQ hck).1
  unfold ydY yeS
  have hdd := ygG (d := d) (B := 120) (by omega) (fun j hj => hd j (by omega))
  rw [hdl] at hdd
  have hm2 : ((m + 1 : Nat) : Int) * 120 ≤ 720 := by omega
  refine p_r25_Settled hl hg hc hm hq ht hdl (fun j hj => by have := hd j hj; omega) ⟨x.set q 0, ?_, ?_, gi s, fun v hv hvq => ?_⟩ fun y hy hyC ⟨f, hf⟩ => ?_
  · refine ⟨by rw [List.length_set, hx.dl], fun j hj => ?_⟩
    rw [ybi (by have := hx.dl; omega)]
    unfold topF
    by_cases e : j = q
    · rw [if_pos e, if_pos e]; omega
    · rw [if_neg e, if_neg e]; exact ⟨hx.pos j hj e, red_top hx.red hj e⟩
  · refine ⟨fun v hv => ?_, by rw [ybi (by have := hx.dl; omega), if_pos rfl], red_set1 hx.dl (by omega) hx.red 0⟩
    rw [ybi (by have := hx.dl; omega)]
    by_cases e : v = q
    · rw [if_pos e]; omega
    · rw [if_neg e]; exact hx.pos v hv e
  · rw [ybi (by have := hx.dl; omega), if_neg hvq, hx.lp v hv]; omega
  · have hyl := hy.1
    have hyB : ∀ j, j < y.length → -8 ≤ gi y j ∧ gi y j ≤ 8 := fun j hj => by have := hy.2 j (by omega); have := ht j (by omega); omega
    have hyd := ygG (by omega) hyB
    rw [hyl] at hyd
    have hm1 : ((m + 1 : Nat) : Int) * 8 ≤ 48 := by omega
    simp only [List.nil_append, Int.toNat_natCast]
    have hblen : (y.set q (dg d - dg y)).length = m + 1 := by rw [List.length_set, hyl]
    -- the form is the one that is reduced
    have hby : x = y.set q (dg d - dg y) := by
      have hbt : dg (y.set q (dg d - dg y)) = dg d := by rw [dg_set (by omega), hyC.sq]; omega
      have hlp := lp_at (es := es) (by omega : q < m + 1) (f := f) (a := fun v => gi d v - gi (y.set q (dg d - dg y)) v) (by
        rw [yeD]
        have e1 := dg_eq hblen
        have e2 := dg_eq hdl
        omega) fun v hv hvq => by
          show _ = gi d v - gi (y.set q (dg d - dg y)) v
          rw [ybi (by omega), if_neg hvq, hf v hv hvq]
      refine (yhf hE (by omega) hx (a' := y.set q (dg d - dg y)) (s' := tab (fun v => f v + - f q) (m + 1)) hblen (ya2 _ _) (fun v hv => ?_) (by rw [yde _ (by omega)]; omega) (red_set1 hyl (by omega) hyC.red _)).1
      have e : Lp (m + 1) es (gi (tab (fun v => f v + - f q) (m + 1))) v = Lp (m + 1) es f v := by
        rw [yf2 (b := fun v => f v + - f q) (fun i hi => yde _ hi) hv, yfC, yeh]; omega
      have := hlp v hv
      show gi (y.set q (dg d - dg y)) v = _
      rw [e, this]; omega
    have hxB : ∀ j, j < m + 1 → -800 ≤ gi x j ∧ gi x j ≤ 800 := fun j hj => by
      rw [hby, ybi (by omega)]
      have := hyB j (by omega)
      split <;> omega
    have hpl : ∀ j, j < m + 1 → gi (plusF d x (-1)) j = gi d j - gi x j := fun j hj => by unfold plusF; rw [yde _ (by omega)]; omega
    refine ⟨by omega, ycO (by omega) (fun j hj => by have := hd j (by omega); omega) (ycO (by omega) (fun j hj => by have := hyB j (by omega); omega) ⟨i64 (by omega), by omega, ?_⟩)⟩
    rw [← hby]
    refine yf1 (by omega) (by have := hx.dl; omega) (by omega) (fun j hj => by have := hd j (by omega); omega) (fun j hj => by have := hxB j (by omega); omega) ?_
    refine yiN (by omega) hg hc hm hq (by unfold plusF; rw [ya2, hdl]) (fun j hj => by rw [hpl j hj]; have := hxB j hj; have := hd j hj; omega) (fun t htl ht0 htL => ?_) (fun hno => absurd ⟨gi s, fun v hv => by rw [hpl v hv, hx.lp v hv]; omega⟩ hno)
    have := (yhf hE (by omega) hx (a' := x) (s' := t) hx.dl htl (fun v hv => by rw [htL v hv, hpl v hv]; omega) ht0 hx.red).2
    rw [← this]; exact h
end
theorem ycA {n r : Int} {es : List E3} {d : List Int} {R : List (List Int) → Int → Prop} (hl : es.length ≤ 1000) (ht : yat n es = 0 → n ≤ 6 ∧ (es.map (·.2.2)).sum ≤ 9) (hb : yaH n es 0 d = 0 → ∀ v, v < d.length → -100 ≤ gi d v ∧ gi d v ≤ 100) (h0 : yaH n es 0 d ≠ 0 → R [] (yaH n es 0 d)) (h1 : yaH n es 0 d = 0 → r < 0 → R [] 2)
    (h2 : yaH n es 0 d = 0 → 0 ≤ r → DOk n.toNat es d ∧ ∀ k, RkOk n.toNat es d k → (k < r → R [] 15) ∧ (r ≤ k → ∃ out, yeM n.toNat es d (ybG n.toNat r.toNat) out ∧ R out 0)) : ybL n es d r R := by
  unfold ybL
  refine yiq (by omega) ⟨fun hg => ⟨fun hr => h1 hg hr, fun hr => ?_⟩, fun hg => h0 hg⟩
  obtain ⟨hD, hk⟩ := h2 hg (by omega)
  obtain ⟨N, rfl, hd⟩ := given_nat hg hD
  have hb := hb hg
  simp only [Int.toNat_natCast] at hD hk
  refine p_r38_Of hD hd fun k hk' => ⟨fun hlt => (hk k hk').1 hlt, fun hge => ?_⟩
  have hk := (hk k hk').2 (by omega)
  have hn1 := hD.G.n1
  have hn5 := hD.G.n5
  have hG := hD.G.g
  obtain ⟨hn6, hs9⟩ := ht hG
  obtain ⟨r, rfl⟩ : ∃ r' : Nat, r = (r' : Int) := ⟨r.toNat, by omega⟩
  simp only [Int.toNat_natCast] at hk
  have hk6 := hk'.six hn1 hd hD.d5
  have hlen := yhM (n := N) (k := r) (by omega) (by omega)
  have hpw : (r + 1) ^ N ≤ 1000000 := by
    have h2 : (r + 1) ^ N ≤ 7 ^ N := Nat.pow_le_pow_left (by omega) N
    have h3 : 7 ^ N ≤ 7 ^ 4 := Nat.pow_le_pow_right (by omega) (by omega)
    omega
  have hmem : ∀ e ∈ ybG (N + 1) r, Eff (N + 1) e (r : Int) := fun e he => ye3 he
  obtain ⟨o0, ho0, hR0⟩ := hk
  refine ⟨N + 1, yfD N (N + 1) r (by omega) hpw (by omega) (by omega) ?_⟩
  generalize ybG (N + 1) r = L at hlen hmem ho0
  refine ⟨fun m out v => Cnt L.length (fun j => yeM (N + 1) es d (L.take j) out) m v, Cnt.start (by simp [yeM]), ?_⟩
  rintro m out _ ⟨j, rfl, rfl, hj, hinv⟩
  simp only [Int.toNat_natCast]
  have hol := hinv.len
  rw [List.length_take] at hol
  refine ⟨fun hlt => ⟨by omega, ?_⟩, fun hge => ?_⟩
  · have hjl : j < L.length := by omega
    have hm : gx L j ∈ L := List.mem_of_getElem? (yd1 hjl)
    have heff := hmem _ hm
    have hel := heff.len
    have heb : ∀ v, v < N + 1 → 0 ≤ gi (gx L j) v ∧ gi (gx L j) v ≤ 6 := fun v hv => by have := heff.pos v hv; have := heff.le hv; omega
    obtain ⟨x, hs⟩ := ho0.at_ j hjl
    generalize gx o0 j = s at hs
    refine yf1 (by omega) (by omega) (by omega) (fun v hv => by have := hD.b v (by omega); omega) (fun v hv => by have := heb v (by omega); omega) ?_
    rw [plus_sb hd]
    have hdb : ∀ v, v < N + 1 → -120 ≤ gi (sb (N + 1) d (gx L j)) v ∧ gi (sb (N + 1) d (gx L j)) v ≤ 120 := fun v hv => by
      rw [yff hv]
      have := hb v (by omega)
      have := heb v hv
      omega
    refine p_r34_FormWay (q := 0) hl (by omega) (by omega) (fun v hv => ?_) hdb (hD.G.giv (ycd _ _ _) fun v hv => by have := hdb v hv; omega) hs ?_
    · have hE := hD.G.E
      have := deg_le_sum (es := es) (fun y hy => by have := hE y hy; omega) (N + 1) v
      unfold topF
      split <;> omega
    · refine ⟨by omega, Cnt.next hjl (by omega) ?_⟩
      rw [List.take_add_one, yd1 hjl]
      exact hinv.snoc hs
  · have e : j = L.length := by omega
    rw [e, List.take_length] at hinv
    rw [hinv.eq hD.G.E hn1 ho0]; exact hR0
theorem yef {a b : List (List Int)} {F : List Int → List Int → (Bool → Prop) → Prop} {R : Bool → Prop} (hl : a.length ≤ 1000000000) (e : a = b) (hF : ∀ x, x ∈ a → ∀ R' : Bool → Prop, R' true → F x x R') (h : R true) : yaQ a b F R := by
  subst e
  unfold yaQ
  refine ⟨fun _ => ?_, fun q => absurd rfl q⟩
  refine ⟨Cnt a.length (fun _ => True), Cnt.start trivial, ?_⟩
  rintro m _ ⟨k, rfl, rfl, hk, -⟩
  simp only [Int.toNat_natCast]
  refine ⟨fun hlt => ⟨by omega, by omega, hF _ (List.mem_of_getElem? (yd1 (show k < a.length by omega))) _ ⟨fun _ => Cnt.next (by omega) (by omega) trivial, fun q => absurd rfl q⟩⟩, fun _ => h⟩
theorem p_rankproves {n r : Int} {es : List E3} {d : List Int} : ycz n es d r (fun b => b = true) := by
  unfold ycz
  refine p_r38_Few (fun hF => ⟨fun _ => ?_, fun q => absurd rfl q⟩) fun _ => ⟨fun q => (by cases q), fun _ => yh8 rfl⟩
  have hel := hF.el
  have hs := of_decide_eq_true hF.s
  have fin : ∀ (a : List (List Int)) (e : Int), a.length ≤ 1000000 → (∀ x ∈ a, x.length ≤ 1000) → yaQ a a (fun x x2 R => ybz x x2 R) fun r7 => ((r7 = true → ((e = e → yco fun r8 => r8 = true) ∧ (¬ e = e → false = true))) ∧ (¬ r7 = true → false = true)) := fun a e ha hx =>
    yef (by omega) rfl (fun x hxa R' hR' => by
      unfold ybz
      have := hx x hxa
      exact yfr (by omega) (by rw [decide_eq_true rfl]; exact hR')) ⟨fun _ => ⟨fun _ => yh8 rfl, fun q => absurd rfl q⟩, fun q => absurd rfl q⟩
  have hb : yaH n es 0 d = 0 → ∀ v, v < d.length → -100 ≤ gi d v ∧ gi d v ≤ 100 := fun hg => (ygv.1 (hF.g hg).1).2 (yb0 hg).2.2.2.2
  have ht : yat n es = 0 → n ≤ 6 ∧ (es.map (·.2.2)).sum ≤ 9 := fun q => by have := hs.2 q; omega
  refine ygO (by omega) (fun hg => ?_) (fun hg hr => ?_) fun hg hr => ?_
  · exact ycA (by omega) ht hb (fun _ => fin _ _ (by simp) (by simp)) (fun q => absurd q hg) fun q => absurd q hg
  · exact ycA (by omega) ht hb (fun q => absurd hg q) (fun _ _ => fin _ _ (by simp) (by simp)) fun _ q => by omega
  · have hD := hF.dok (by omega) hg
    have hn1 := hD.G.n1
    have hn5 := hD.G.n5
    refine ⟨hD, fun k hk => ⟨fun hlt => ?_, fun hge out hout => ?_⟩⟩
    · refine ycA (by omega) ht hb (fun q => absurd hg q) (fun _ q => by omega) fun _ _ => ⟨hD, fun k2 hk2 => ?_⟩
      have e := hk2.eq hn1 hk
      subst e
      exact ⟨fun _ => fin _ _ (by simp) (by simp), fun q => by omega⟩
    · refine ycA (by omega) ht hb (fun q => absurd hg q) (fun _ q => by omega) fun _ _ => ⟨hD, fun k2 hk2 => ?_⟩
      have e := hk2.eq hn1 hk
      subst e
      refine ⟨fun q => by omega, fun _ => ⟨out, hout, fin _ _ ?_ fun x hx => ?_⟩⟩
      · obtain ⟨N, hN⟩ : ∃ N, n.toNat = N + 1 := ⟨n.toNat - 1, by omega⟩
        have hd : d.length = n.toNat := by
          have h6 := given_nat hg hD
          obtain ⟨N', e1, e2⟩ := h6
          omega
        have h6 := hk.six hn1 hd hD.d5
        have := yhM (n := N) (k := r.toNat) (by omega) (by omega)
        rw [hout.len, hN]; omega
      · obtain ⟨i, hi⟩ := List.getElem?_of_mem hx
        have hil := (List.getElem?_eq_some_iff.1 hi).1
        rw [yd1 hil] at hi
        cases hi
        obtain ⟨y, hy⟩ := hout.at_ i (by rw [← hout.len]; exact hil)
        rw [hy.sl]; omega
end Go.Proofs.YtmeoemmemjipdaaGreat
