/- Texts laid together: RkF, RkG, RkW, Rr, Val, Dol, RkR, L38, DolS. -/
import Derived.Test.YtncilechkclmbaaK5
/- What the finder of ranks comes to. -/
namespace Go.Proofs.Ytncilechkclmbaa
open Go Go.Proofs.Try
set_option linter.unusedVariables false
set_option linter.unusedSimpArgs false
theorem p_chips_Degree {n : Nat} {d : List Int} {R : Int → Int → Prop} (hn : 1 ≤ n ∧ n ≤ 12) (hd : d.length = n) (hb : ∀ j, j < n → -1000000 ≤ gi d j ∧ gi d j ≤ 1000000) (h : R (dg d) 0) : ybT d R := by
  unfold ybT
  refine p_chips_own (n := n) (by simp) (by simp) (fun k hk => ?_) ⟨fun _ => ?_, fun q => absurd rfl q⟩
  · have e : k = 0 := by simp at hk; omega
    subst e
    exact ⟨hd, ye0 hd hn.1 hn.2 fun j hj => by have := hb j hj; show -1048576 ≤ gi d j ∧ gi d j ≤ 1048576; omega⟩
  refine ⟨fun m s v => Cnt d.length (fun k => s = sm k (gi d)) m v, Cnt.start rfl, ?_⟩
  rintro m _ _ ⟨k, rfl, rfl, hk, rfl⟩
  simp only [Int.toNat_natCast]
  refine ⟨fun hlt => ⟨by omega, ?_, ?_⟩, fun hge => ?_⟩
  · have h1 := yfO (f := gi d) (B := 1000000) (by omega) (n := k) (fun i hi => hb i (by omega))
    have h2 := hb k (by omega)
    exact i64 (by omega)
  · exact Cnt.next (by omega) (by omega) rfl
  · have e : k = d.length := by omega
    subst e; exact h
def errL (n : Int) : List (List Int) → Int
  | [] => 0
  | d :: t => if yaT d n = 0 then errL n t else yaT d n
theorem gx_succ {d : List Int} {t : List (List Int)} {k : Nat} : gx (d :: t) (k + 1) = gx t k := by simp [gx]
theorem gx_zero {d : List Int} {t : List (List Int)} : gx (d :: t) 0 = d := by simp [gx]
theorem errL_zero {n : Int} : ∀ {l : List (List Int)}, (∀ j, j < l.length → yaT (gx l j) n = 0) → errL n l = 0
  | [], _ => rfl
  | d :: t, h => by
    have h0 := h 0 (by simp)
    rw [gx_zero] at h0
    unfold errL
    rw [if_pos h0]
    exact errL_zero fun j hj => by have := h (j + 1) (by simpa using hj); rwa [gx_succ] at this
theorem errL_at {n : Int} : ∀ {l : List (List Int)} {k : Nat}, k < l.length → (∀ j, j < k → yaT (gx l j) n = 0) → yaT (gx l k) n ≠ 0 → errL n l = yaT (gx l k) n
  | [], k, hk, _, _ => by simp at hk
  | d :: t, 0, hk, h, hn => by
    rw [gx_zero] at hn ⊢
    unfold errL
    rw [if_neg hn]
  | d :: t, k + 1, hk, h, hn => by
    have h0 := h 0 (by omega)
    rw [gx_zero] at h0
    rw [gx_succ] at hn ⊢
    unfold errL
    rw [if_pos h0]
    exact errL_at (by simpa using hk) (fun j hj => by have := h (j + 1) (by omega); rwa [gx_succ] at this) hn
def givL (n : Int) (es : List E3) (l : List (List Int)) : Int := if ycZ n es = 0 then errL n l else ycZ n es
theorem givL_one {n : Int} {es : List E3} {d : List Int} : givL n es [d] = yaP n es 0 d := by
  rw [given0]
  unfold givL errL errL
  by_cases e : yaT d n = 0 <;> simp [e]
theorem p_rank_given {n : Int} {es : List E3} {l : List (List Int)} {R : Int → Prop} (hl : es.length ≤ 1000) (hll : l.length ≤ 1000) (h : R (givL n es l)) : ydb n es l R := by
  unfold ydb
  refine ⟨by omega, fun hg => ⟨fun hc => ?_, fun hc => ?_⟩, fun hg => ?_⟩
  · have hj : ycZ n es = 0 := by
      have := of_decide_eq_true hc
      unfold ycZ; rw [if_pos this.1, if_pos this.2]
    have e : givL n es l = errL n l := by unfold givL; rw [if_pos hj]
    rw [e] at h
    refine ⟨Cnt l.length (fun k => ∀ j, j < k → yaT (gx l j) n = 0), Cnt.start (fun j hj => absurd hj (by omega)), ?_⟩
    rintro m _ ⟨k, rfl, rfl, hk, hinv⟩
    simp only [Int.toNat_natCast]
    refine ⟨fun hlt => ⟨by omega, yeG ⟨fun h0 => Cnt.next (by omega) (by omega) fun j hj => ?_, fun hne => ?_⟩⟩, fun hge => ?_⟩
    · by_cases e : j = k
      · rw [e]; exact h0
      · exact hinv j (by omega)
    · rw [errL_at (by omega) hinv hne] at h; exact h
    · have e : k = l.length := by omega
      rw [errL_zero (by rw [← e]; exact hinv)] at h; exact h
  · have hj : ycZ n es = 13 := by
      unfold ycZ; rw [if_pos hg, if_neg]
      intro q; exact hc (decide_eq_true ⟨hg, q⟩)
    have e : givL n es l = 13 := by unfold givL; rw [if_neg (by omega), hj]
    rw [e] at h; exact h
  · have hj : ycZ n es = yas n es := by unfold ycZ; rw [if_neg hg]
    have e : givL n es l = yas n es := by unfold givL; rw [if_neg (by omega), hj]
    rw [e] at h; exact h
def keyF (r : List Int) : List Int := cpy (List.replicate 12 (0 : Int)) r
theorem ycY (r : List Int) : (keyF r).length = 12 := by unfold keyF; rw [cpy_length]; simp
theorem gi_keyF {r : List Int} {i : Nat} (hi : i < 12) : gi (keyF r) i = if i < r.length then gi r i else 0 := by
  unfold keyF
  rw [gi_cpy (by simpa using hi), gi_zero hi]
theorem keyF_inj {n : Nat} {r r' : List Int} (hn : n ≤ 12) (h : r.length = n) (h' : r'.length = n) (e : keyF r = keyF r') : r = r' := by
  refine yfq (by omega) fun k hk => ?_
  have h1 := gi_keyF (r := r) (i := k) (by omega)
  have h2 := gi_keyF (r := r') (i := k) (by omega)
  rw [if_pos (by omega)] at h1 h2
  rw [← h1, ← h2, e]
structure MOk (n : Nat) (es : List E3) (m : List (List Int × Int)) : Prop where
  keys : KOk 12 m
  vals : ∀ p ∈ m, ∃ r, p.1 = keyF r ∧ Eff n r (dg r) ∧ dg r ≤ 5 ∧ RkOk n es r p.2
theorem MOk.nil (n : Nat) (es : List E3) : MOk n es [] := ⟨KOk.nil 12, fun p hp => by simp at hp⟩
theorem keyF_ok {n : Nat} {r : List Int} (hr : Eff n r (dg r)) (h5 : dg r ≤ 5) : yeW 12 (keyF r) := by
  refine ⟨ycY r, fun x hx => ?_⟩
  obtain ⟨i, hi, rfl⟩ := List.getElem_of_mem hx
  rw [ycY] at hi
  rw [← ya8 (by rw [ycY]; exact hi), gi_keyF hi]
  split
  · have hi2 : i < n := by rw [← hr.len]; assumption
    have := hr.pos i hi2
    have := hr.le hi2
    exact i64 (by omega)
  · exact i64 (by omega)
theorem MOk.put {n : Nat} {es : List E3} {m : List (List Int × Int)} (h : MOk n es m) {r : List Int} {v : Int} (hr : Eff n r (dg r)) (h5 : dg r ≤ 5) (hk : RkOk n es r v) : MOk n es (mput m (keyF r) v) := by
  have hK := h.keys.put (keyF_ok hr h5) v
  refine ⟨hK, fun p hp => ?_⟩
  rcases mput_mem hp with e | e
  · obtain ⟨j, hj⟩ := List.mem_iff_getElem?.1 hp
    have h1 := mget_at hK.1 (k := p.1) (v := p.2) hj
    rw [e, mget_put, if_pos rfl] at h1
    cases h1
    exact ⟨r, e, hr, h5, hk⟩
  · exact h.vals p e
theorem MOk.get {n : Nat} {es : List E3} {m : List (List Int × Int)} (h : MOk n es m) (hn : n ≤ 12) {r : List Int} {v : Int} (hr : r.length = n) (hg : mget m (keyF r) = some v) : RkOk n es r v := by
  obtain ⟨r', h1, h2, h3, h4⟩ := h.vals _ (mget_mem hg)
  have e := keyF_inj hn hr h2.len h1
  subst e; exact h4
theorem nodup_le : ∀ {l K : List (List Int)}, l.Nodup → (∀ x ∈ l, x ∈ K) → l.length ≤ K.length
  | [], K, _, _ => Nat.zero_le _
  | a :: t, K, h, hs => by
    have h1 := List.nodup_cons.1 h
    have ha : a ∈ K := hs a (by simp)
    have h2 := nodup_le (l := t) (K := K.erase a) h1.2 fun x hx => (List.mem_erase_of_ne (by rintro rfl; exact h1.1 hx)).2 (hs x (by simp [hx]))
    rw [List.length_erase_of_mem ha] at h2
    have : 0 < K.length := List.length_pos_of_mem ha
    simp only [List.length_cons]
    omega
theorem flat_le {f : Nat → List (List Int)} {B : Nat} : ∀ {l : List Nat}, (∀ a ∈ l, (f a).length ≤ B) → (l.flatMap f).length ≤ l.length * B
  | [], _ => by simp
  | a :: t, h => by
    rw [List.flatMap_cons, List.length_append, List.length_cons, Nat.add_mul, Nat.one_mul]
    have := h a (by simp)
    have := flat_le (f := f) (l := t) fun b hb => h b (by simp [hb])
    omega
theorem eff_list {n k : Nat} {e : List Int} (h : Eff (n + 1) e (k : Int)) : e ∈ yfR (n + 1) k := by
  refine (yfW n k e).2 ⟨h.len, fun a ha => ?_, by rw [sum_dg, h.deg]⟩
  obtain ⟨i, hi, rfl⟩ := List.getElem_of_mem ha
  rw [← ya8 hi]
  exact h.pos i (by rw [← h.len]; exact hi)
theorem list_eff {n k : Nat} {e : List Int} (h : e ∈ yfR (n + 1) k) : Eff (n + 1) e (k : Int) := by
  obtain ⟨h1, h2, h3⟩ := (yfW n k e).1 h
  exact ⟨h1, fun v hv => (dg_entry h2 (by omega)).1, by rw [← sum_dg, h3]⟩
theorem MOk.len {n : Nat} {es : List E3} {m : List (List Int × Int)} (h : MOk n es m) (h1 : 1 ≤ n) (hn : n ≤ 5) : m.length ≤ 7776 := by
  obtain ⟨n, rfl⟩ : ∃ k, n = k + 1 := ⟨n - 1, by omega⟩
  have hN : (m.map (·.1)).Nodup := by
    have := h.keys.1
    unfold List.Nodup
    rw [List.pairwise_map]
    exact this
  have h2 := nodup_le (K := (List.range 6).flatMap fun k => (yfR (n + 1) k).map keyF) hN fun x hx => by
    obtain ⟨p, hp, rfl⟩ := List.mem_map.1 hx
    obtain ⟨r, e, hr, h5, -⟩ := h.vals p hp
    obtain ⟨k, hk⟩ : ∃ k : Nat, dg r = (k : Int) := ⟨(dg r).toNat, by have := hr.nonneg; omega⟩
    rw [hk] at hr
    rw [List.mem_flatMap]
    exact ⟨k, List.mem_range.2 (by omega), List.mem_map.2 ⟨r, eff_list hr, e.symm⟩⟩
  have h3 := flat_le (f := fun k => (yfR (n + 1) k).map keyF) (B := 1296) (l := List.range 6) fun k hk => by
    rw [List.length_map]
    have h1 := listF_length n k
    have h2 : (k + 1) ^ n ≤ 6 ^ n := Nat.pow_le_pow_left (by have := List.mem_range.1 hk; omega) n
    have h3 : 6 ^ n ≤ 6 ^ 4 := Nat.pow_le_pow_right (by omega) (by omega)
    omega
  simp only [List.length_map, List.length_range] at h2 h3
  omega
structure GOk (n : Nat) (es : List E3) : Prop where
  g : yas n es = 0
  c : ydO n es = true
  el : es.length ≤ 40
  n1 : 1 ≤ n
  n5 : n ≤ 5
  su : (es.map (·.2.2)).sum ≤ 9
section
variable {n : Nat} {es : List E3}
theorem GOk.E (G : GOk n es) : EOk n es := (ya3 G.g).1
theorem GOk.C (G : GOk n es) : ∀ q, q < n → Conn n es q := conn_all G.g G.c
theorem GOk.tot (G : GOk n es) : tot n es ≤ 18 := tot_few G.E G.n1 (by have := G.n5; omega) G.su
theorem GOk.giv (G : GOk n es) {d : List Int} (hd : d.length = n) (hb : ∀ v, v < n → -1000000 ≤ gi d v ∧ gi d v ≤ 1000000) : yaP n es 0 d = 0 := by
  have := G.n1
  have := G.n5
  unfold yaP; rw [if_pos G.g, if_pos G.c, if_pos ⟨by omega, by omega⟩]
  exact ye0 hd (by omega) (by omega) fun v hv => by have := hb v hv; omega
theorem GOk.small (G : GOk n es) {d : List Int} (hb : ∀ v, v < n → -200 ≤ gi d v ∧ gi d v ≤ 200) : Small (n : Int) es d :=
  ⟨G.el, fun _ => ⟨by have := G.n5; omega, G.su⟩, fun _ v hv => hb v (by omega)⟩
theorem set_back {r : List Int} {k : Nat} (hk : k < r.length) : (r.set k (gi r k - 1)).set k (gi (r.set k (gi r k - 1)) k + 1) = r := by
  refine yfq (by simp) fun i hi => ?_
  rw [ybo (by simpa using hk), ybo hk, ybo hk]
  split
  · rename_i e; subst e; simp
  · rfl
theorem RkOk.few (hn : 1 ≤ n) {d : List Int} (hd : d.length = n) {k : Int} (h : RkOk n es d k) : -1 ≤ k ∧ (k = -1 ∨ k ≤ dg d) := by
  refine ⟨h.lo, ?_⟩
  by_cases hw : Win n es d
  · exact .inr (h.top hn hd hw)
  · exact .inl (h.eq hn (rk_lose hw))
theorem fr_find {Rec : Int → List (Int × Int × Int) → Int → List (List Int × Int) → List Int → (Int → Int → List (List Int × Int) → Prop) → Prop} (G : GOk n es) {d : List Int} {m : List (List Int × Int)} {R : Int → Int → List (List Int × Int) → Prop}
    (hd : d.length = n) (hb : ∀ v, v < n → -200 ≤ gi d v ∧ gi d v ≤ 200) (h5 : dg d ≤ 5) (hm : MOk n es m)
    (hrec : ∀ (d' : List Int) (m' : List (List Int × Int)) (R' : Int → Int → List (List Int × Int) → Prop), d'.length = n → (∀ v, v < n → -200 ≤ gi d' v ∧ gi d' v ≤ 200) → dg d' = dg d - 1 → 0 ≤ dg d → MOk n es m' → (∀ k m'', RkOk n es d' k → MOk n es m'' → R' k 0 m'') → Rec n es (ycG es + 1 - n) m' d' R')
    (h : ∀ k m', RkOk n es d k → MOk n es m' → R k 0 m') : yaO Rec n es (ycG es + 1 - n) m d R := by
  have hn1 := G.n1
  have hn5 := G.n5
  have hpm : 0 ≤ 2 * ycG es ∧ 2 * ycG es ≤ 18 := by
    have h1 := yfL G.E
    have h2 := G.tot
    have h3 : 0 ≤ tot n es := yaI fun v _ => yaI fun u _ => yaJ G.E v u
    omega
  have hdb : -1000 ≤ dg d ∧ dg d ≤ 5 := by
    have := yfO (f := gi d) (B := 200) (by omega) (n := n) (fun i hi => by have := hb i hi; omega)
    rw [dg_n hd] at h5 ⊢
    omega
  unfold yaO
  refine p_chips_Degree ⟨hn1, by omega⟩ hd (fun j hj => by have := hb j hj; omega) ⟨fun _ => ⟨fun hneg => h _ _ (rk_lose fun q => by have := win_dg hd q; omega) hm, fun hnn => ⟨i64 (by omega), i64 (by omega), fun hbig => ⟨i64 (by omega), h _ _ (rk_big G.g G.C hn1 (by omega) hd hb (by omega) G.tot (by omega)) hm⟩, fun hsm => ?_⟩⟩, fun q => absurd rfl q⟩
  refine ydL (.inl (G.small hb)) (by omega) (fun q => absurd (G.giv hd fun v hv => by have := hb v hv; omega) q) fun _ r s hr b hbw => ⟨fun _ => ⟨fun hbt => ?_, fun hbf => h _ _ (rk_lose fun q => hbf (hbw.2 (by simpa using q))) hm⟩, fun q => absurd rfl q⟩
  simp only [Int.toNat_natCast] at hr hbw
  have hw := hbw.1 hbt
  have hrl : r.length = n := hr.dl
  have hrq : 0 ≤ gi r 0 := (win_red G.E (by omega) hr.red hr.lp).1 hw
  have hrd : dg r = dg d := dg_lp hrl hd hr.lp
  have heff : Eff n r (dg r) := ⟨hrl, fun v hv => by
    by_cases e : v = 0
    · subst e; exact hrq
    · exact hr.pos v hv e, rfl⟩
  have hrw : Win n es r := (win_eqv hr.lp).1 hw
  have hre : ∀ v, v < n → 0 ≤ gi r v ∧ gi r v ≤ 5 := fun v hv => by have := heff.pos v hv; have := heff.le hv; omega
  have back : ∀ {k : Int}, RkOk n es r k → RkOk n es d k := fun q => (rk_eqv hr.lp).2 q
  refine ⟨by omega, hm.keys, keyF_ok heff (by omega), fun hsome => ?_, fun hnone => ⟨fun hfull => absurd hfull (by have := hm.len hn1 hn5; omega), fun _ => ?_⟩⟩
  · obtain ⟨v, hv⟩ := Option.isSome_iff_exists.1 hsome
    rw [hv]
    exact h _ _ (back (hm.get (by omega) hrl hv)) hm
  refine ⟨fun c least i m' r' => Cnt n (fun k => MOk n es m' ∧ r' = r ∧ ∃ κ : Nat → Int, (∀ u, u < k → RkOk n es (yc4 r u (-1)) (κ u)) ∧ (∀ u, u < k → least ≤ κ u + 1) ∧ (least = dg d ∨ ∃ u, u < k ∧ least = κ u + 1)) c i,
    Cnt.start ⟨hm, rfl, fun _ => 0, fun u hu => absurd hu (by omega), fun u hu => absurd hu (by omega), .inl rfl⟩, ?_⟩
  rintro c least _ m' r' ⟨k, rfl, rfl, hk, hm', rfl, κ, hκ, hle, hat⟩
  simp only [Int.toNat_natCast]
  have hal : ∀ u, (yc4 r' u (-1)).length = n := fun u => by rw [yd3, hrl]
  have hadg : ∀ u, u < n → dg (yc4 r' u (-1)) = dg d - 1 := fun u hu => by rw [dg_addAt (by omega), hrd]; omega
  have hse : ∀ {x : Int}, dg d = x → 0 ≤ x := fun e => by have := heff.nonneg; omega
  refine ⟨fun hlt => ⟨by omega, i64 (by have := hre k (by omega); omega), ?_⟩, fun hge => ⟨hm'.keys, ?_⟩⟩
  · refine hrec (yc4 r' k (-1)) m' _ (hal k) (fun v hv => ?_) (hadg k (by omega)) (hse rfl) hm' fun j m'' hj hm'' => ?_
    · rw [yb5 (by omega)]
      have := hre v hv
      have := hre k (by omega)
      split <;> omega
    · have hj2 := hj.few hn1 (hal k)
      rw [hadg k (by omega)] at hj2
      have hgk := hre k (by omega)
      refine ⟨by rw [List.length_set]; omega, ?_, fun _ => ⟨i64 (by omega), ?_⟩, fun q => absurd rfl q⟩
      · rw [ybo (by omega), if_pos rfl]
        exact i64 (by omega)
      · refine Cnt.next (by omega) (by omega) ⟨hm'', set_back (by omega), fun u => if u = k then j else κ u, fun u hu => ?_, fun u hu => ?_, ?_⟩
        · show RkOk n es (yc4 r' u (-1)) (if u = k then j else κ u)
          by_cases e : u = k
          · subst e; rw [if_pos rfl]; exact hj
          · rw [if_neg e]; exact hκ u (by omega)
        · show mnF least (j + 1) ≤ (if u = k then j else κ u) + 1
          rw [ydZ]
          by_cases e : u = k
          · rw [if_pos e]; omega
          · rw [if_neg e]; have := hle u (by omega); omega
        · rw [ydZ]
          rcases Int.le_total least (j + 1) with q | q
          · rw [Int.min_eq_left q]
            rcases hat with a | ⟨u, hu, a⟩
            · exact .inl a
            · refine .inr ⟨u, by omega, ?_⟩
              show least = (if u = k then j else κ u) + 1
              rw [if_neg (by omega)]; exact a
          · rw [Int.min_eq_right q]
            refine .inr ⟨k, by omega, ?_⟩
            show j + 1 = (if k = k then j else κ k) + 1
            rw [if_pos rfl]
  · have e : k = n := by omega
    subst e
    have hk0 := hκ 0 (by omega)
    have hst : RkOk k es r' least := rk_step hn1 hrl hrw hκ hle (by
      rcases hat with a | a
      · refine ⟨0, by omega, ?_⟩
        have h1 := hle 0 (by omega)
        have h2 := hk0.few hn1 (hal 0)
        rw [hadg 0 (by omega)] at h2
        have h3 := heff.nonneg
        omega
      · exact a)
    exact h _ _ (back hst) (hm'.put heff (by omega) hst)
theorem p_find2 (G : GOk n es) : ∀ (fu : Nat) {d : List Int} {m : List (List Int × Int)} {R : Int → Int → List (List Int × Int) → Prop}, dg d + 1 < fu → -1 ≤ dg d → d.length = n → (∀ v, v < n → -200 ≤ gi d v ∧ gi d v ≤ 200) → dg d ≤ 5 → MOk n es m →
    (∀ k m', RkOk n es d k → MOk n es m' → R k 0 m') → ya1 fu n es (ycG es + 1 - n) m d R
  | 0, _, _, _, hf, h1, _, _, _, _, _ => by omega
  | fu + 1, d, m, R, hf, h1, hd, hb, h5, hm, h => by
    show yaO (ya1 fu) n es (ycG es + 1 - n) m d R
    exact fr_find G hd hb h5 hm (fun d' m' R' hd' hb' hdg h0 hm' h' => p_find2 G fu (by omega) (by omega) hd' hb' (by omega) hm' h') h
theorem p_find (G : GOk n es) {d : List Int} {m : List (List Int × Int)} {R : Int → Int → List (List Int × Int) → Prop} (hd : d.length = n) (hb : ∀ v, v < n → -200 ≤ gi d v ∧ gi d v ≤ 200) (h5 : dg d ≤ 5) (hm : MOk n es m)
    (h : ∀ k m', RkOk n es d k → MOk n es m' → R k 0 m') : ∃ fu, yb3 fu n es (ycG es + 1 - n) m d R := by
  refine ⟨1, ?_⟩
  show yaO (fun a b c e f R' => ∃ fu, ya1 fu a b c e f R') n es (ycG es + 1 - n) m d R
  exact fr_find G hd hb h5 hm (fun d' m' R' hd' hb' hdg h0 hm' h' => ⟨8, p_find2 G 8 (by omega) (by omega) hd' hb' (by omega) hm' h'⟩) h
end
end Go.Proofs.Ytncilechkclmbaa

/- What graph.Loopless and graph.Genus come to. -/
namespace Go.Proofs.Ytncilechkclmbaa
open Go Go.Proofs.Try
set_option linter.unusedVariables false
set_option linter.unusedSimpArgs false
def yem (es : List E3) : List E3 := es.filter fun x => decide (x.1 ≠ x.2.1)
theorem yho {es : List E3} {k : Nat} (hk : k < es.length) : yem (es.take (k + 1)) = yem (es.take k) ++ if (ge es k).1 = (ge es k).2.1 then [] else [ge es k] := by
  have e : es.take (k + 1) = es.take k ++ [ge es k] := by rw [List.take_add_one, List.getElem?_eq_getElem hk, ycy hk]; rfl
  unfold yem
  rw [e, List.filter_append]
  congr 1
  by_cases q : (ge es k).1 = (ge es k).2.1
  · rw [if_pos q]; simp [q]
  · rw [if_neg q]; simp [q]
theorem W_plainL : ∀ (es : List E3) (v u : Nat), W (yem es) v u = W es v u
  | [], v, u => rfl
  | x :: es, v, u => by
    unfold yem
    rw [List.filter_cons, ydR]
    by_cases q : x.1 = x.2.1
    · have : w1 x v u = 0 := by unfold w1; rw [if_neg (fun h => h.1 q)]
      rw [if_neg (by simpa using q), this]
      have := W_plainL es v u
      unfold yem at this
      rw [this]; omega
    · rw [if_pos (by simpa using q), ydR]
      have := W_plainL es v u
      unfold yem at this
      rw [this]
theorem pcmp_le {a b c d : Int} : yeR a b c d ≤ 0 ↔ a < c ∨ (a = c ∧ b ≤ d) := by
  unfold yeR orF cmpF
  (repeat' split) <;> omega
theorem pcmp_trans {a b c d e f : Int} (h1 : yeR a b c d ≤ 0) (h2 : yeR c d e f < 0) : yeR a b e f < 0 := by
  have h1 := pcmp_le.1 h1
  have h2 := (yhu _ _ _ _).1 h2
  exact (yhu _ _ _ _).2 (by omega)
theorem yfv {n : Int} {p : E3 → Bool} : ∀ (es : List E3) (a b a' b' : Int), yeR a' b' a b ≤ 0 → gchk n a b es = 0 → gchk n a' b' (es.filter p) = 0
  | [], a, b, a', b', _, _ => rfl
  | x :: t, a, b, a', b', h, hg => by
    unfold gchk at hg
    by_cases c1 : (0 ≤ x.1 ∧ x.1 < n) ∧ (0 ≤ x.2.1 ∧ x.2.1 < n) ∧ 1 ≤ x.2.2 ∧ x.2.2 ≤ 50
    · rw [if_pos c1] at hg
      by_cases c2 : x.1 ≤ x.2.1 ∧ yeR a b x.1 x.2.1 < 0
      · rw [if_pos c2] at hg
        have h3 := pcmp_trans h c2.2
        rw [List.filter_cons]
        split
        · unfold gchk
          rw [if_pos c1, if_pos ⟨c2.1, h3⟩]
          exact yfv t _ _ _ _ (pcmp_le.2 (by omega)) hg
        · exact yfv t _ _ _ _ (by omega) hg
      · rw [if_neg c2] at hg; omega
    · rw [if_neg c1] at hg; omega
theorem gcheck_plain {n : Int} {es : List E3} (h : yas n es = 0) : yas n (yem es) = 0 := by
  unfold yas at h ⊢
  split
  · rename_i c
    rw [if_pos c] at h
    exact yfv es _ _ _ _ (by decide) h
  · rename_i c; rw [if_neg c] at h; exact h
theorem ygG {n : Nat} {es : List E3} {R : Int → List E3 → Int → Prop} (hl : es.length ≤ 1000) (hg : yas n es = 0) (h : R n (yem es) 0) : ybX n es R := by
  unfold ybX ycT
  refine yeD (by omega) ⟨fun _ => ?_, fun q => absurd hg q⟩
  refine ⟨fun m v out => Cnt es.length (fun k => out = yem (es.take k) ∧ out.length ≤ k) m v, Cnt.start ⟨rfl, Nat.le_refl _⟩, ?_⟩
  rintro m _ out ⟨k, rfl, rfl, hk, hout, hol⟩
  simp only [Int.toNat_natCast]
  refine ⟨fun hlt => ⟨by omega, fun q => Cnt.next (by omega) (by omega) ⟨?_, by omega⟩, fun q => ⟨by omega, Cnt.next (by omega) (by omega) ⟨?_, by simpa using hol⟩⟩⟩, fun hge => ?_⟩
  · rw [yho (by omega), if_pos q, List.append_nil]; exact hout
  · rw [yho (by omega), if_neg q, hout]
    have hx := (ya3 hg).1 _ (List.mem_of_getElem? (ycN (show k < es.length by omega)))
    have e : mnF (ge es k).2.2 50 = (ge es k).2.2 := by rw [ydZ]; omega
    rw [e]
  · have e : k = es.length := by omega
    rw [e, List.take_length] at hout
    rw [hout]; exact h
def sF : List E3 → List E3
  | [] => []
  | x :: t => List.replicate x.2.2.toNat (x.1, x.2.1, 1) ++ sF t
theorem yhk : ∀ (a b : List E3), sF (a ++ b) = sF a ++ sF b
  | [], b => rfl
  | x :: t, b => by rw [List.cons_append, sF, sF, yhk t b, List.append_assoc]
theorem sF_take {es : List E3} {k : Nat} (hk : k < es.length) : sF (es.take (k + 1)) = sF (es.take k) ++ List.replicate (ge es k).2.2.toNat ((ge es k).1, (ge es k).2.1, 1) := by
  rw [List.take_add_one, List.getElem?_eq_getElem hk, ← ycy hk, yhk]
  simp [sF]
theorem sF_pre {es : List E3} {k : Nat} (hk : k < es.length) {j : Nat} (hj : j ≤ (ge es k).2.2.toNat) : sF (es.take k) ++ List.replicate j ((ge es k).1, (ge es k).2.1, 1) <+: sF es := by
  have h1 : es = es.take (k + 1) ++ es.drop (k + 1) := (List.take_append_drop _ _).symm
  have h2 : sF es = sF (es.take k) ++ List.replicate (ge es k).2.2.toNat ((ge es k).1, (ge es k).2.1, 1) ++ sF (es.drop (k + 1)) := by
    conv => lhs; rw [h1]
    rw [yhk, sF_take hk]
  obtain ⟨i, hi⟩ : ∃ i, (ge es k).2.2.toNat = j + i := ⟨(ge es k).2.2.toNat - j, by omega⟩
  rw [h2, hi, ← List.replicate_append_replicate]
  exact ⟨List.replicate i ((ge es k).1, (ge es k).2.1, 1) ++ sF (es.drop (k + 1)), by simp only [List.append_assoc]⟩
theorem sF_ok {n : Nat} : ∀ {es : List E3}, EOk n es → EOk n (sF es)
  | [], _ => fun x hx => by simp [sF] at hx
  | y :: t, h => fun x hx => by
    rw [sF, List.mem_append] at hx
    rcases hx with q | q
    · have := h y (by simp)
      have e := (List.mem_replicate.1 q).2
      subst e
      simp only
      omega
    · exact sF_ok (fun z hz => h z (by simp [hz])) x q
theorem W_rep (a b : Int) (l : List E3) (v u : Nat) : ∀ k : Nat, W (List.replicate k (a, b, 1) ++ l) v u = (k : Int) * w1 (a, b, 1) v u + W l v u
  | 0 => by simp
  | k + 1 => by
    rw [List.replicate_succ, List.cons_append, ydR, W_rep a b l v u k, Int.natCast_add, Int.add_mul]
    omega
theorem W_sF {n : Nat} (v u : Nat) : ∀ {es : List E3}, EOk n es → W (sF es) v u = W es v u
  | [], _ => rfl
  | x :: t, h => by
    have hx := h x (by simp)
    rw [sF, W_rep, ydR, W_sF v u (fun z hz => h z (by simp [hz]))]
    have : ((x.2.2.toNat : Nat) : Int) * w1 (x.1, x.2.1, 1) v u = w1 x v u := by
      unfold w1
      simp only
      split
      · omega
      · omega
    omega
theorem sF_len {n : Nat} : ∀ {es : List E3}, EOk n es → ((sF es).length : Int) = (es.map (·.2.2)).sum
  | [], _ => rfl
  | x :: t, h => by
    have hx := h x (by simp)
    have := sF_len (es := t) fun z hz => h z (by simp [hz])
    rw [sF, List.length_append, List.length_replicate, List.map_cons, List.sum_cons, ← this]
    omega
theorem plainL_sum : ∀ (es : List E3), ((yem es).map (·.2.2)).sum = ycG es
  | [] => rfl
  | x :: t => by
    have ih := plainL_sum t
    unfold yem ycG at *
    rw [List.filter_cons, List.map_cons, List.sum_cons]
    by_cases q : x.1 = x.2.1
    · rw [if_neg (by simpa using q), if_pos q, ih]; omega
    · rw [if_pos (by simpa using q), if_neg q, List.map_cons, List.sum_cons, ih]
theorem sF_few {n : Nat} : ∀ {es : List E3}, EOk n es → (sF es).length ≤ 50 * es.length
  | [], _ => Nat.le_refl _
  | x :: t, h => by
    have hx := h x (by simp)
    have := sF_few (es := t) fun z hz => h z (by simp [hz])
    rw [sF, List.length_append, List.length_replicate, List.length_cons]
    omega
def gmap (y : Int × Int × Int) : E3 := (y.2.1, y.2.2, 1)
theorem ygf {n : Nat} {es : List E3} (hE : EOk n es) (hl : es.length ≤ 1000) : ybC (n : Int) es (fun l => l.map gmap <+: sF es) (fun l => l.map gmap = sF es) := by
  unfold ybC
  refine ⟨fun m pre e2 v => Cnt es.length (fun k => pre.map gmap = sF (es.take k) ∧ 0 ≤ e2 ∧ e2 ≤ 50 * k) m v, Cnt.start ⟨rfl, by omega, by omega⟩, ?_⟩
  rintro m pre e2 _ ⟨k, rfl, rfl, hk, hpre, he0, he1⟩
  simp only [Int.toNat_natCast]
  refine ⟨fun hlt => ⟨by omega, ?_⟩, fun hge => ?_⟩
  · have hkl : k < es.length := by omega
    have hx := hE _ (List.mem_of_getElem? (ycN hkl))
    refine ⟨fun m pre e3 v => Cnt (ge es k).2.2.toNat (fun j => pre.map gmap = sF (es.take k) ++ List.replicate j ((ge es k).1, (ge es k).2.1, 1) ∧ 0 ≤ e3 ∧ e3 ≤ 50 * k + j) m v, Cnt.start ⟨by simpa using hpre, he0, by omega⟩, ?_⟩
    rintro m3 pre3 e3 _ ⟨j, rfl, rfl, hj, hp3, h30, h31⟩
    have hstep : ∀ e : Int, (pre3 ++ [(e, (ge es k).1, (ge es k).2.1)]).map gmap = sF (es.take k) ++ List.replicate (j + 1) ((ge es k).1, (ge es k).2.1, 1) := fun e => by
      rw [List.map_append, hp3, List.replicate_succ', List.append_assoc]; rfl
    refine ⟨fun h1 => ⟨?_, ⟨i64 (by omega), Cnt.next (by omega) (by omega) ⟨hstep e3, by omega, by omega⟩⟩, trivial⟩, fun h1 => Cnt.next (by omega) (by omega) ⟨?_, by omega, by omega⟩⟩
    · show (pre3 ++ [(e3, (ge es k).1, (ge es k).2.1)]).map gmap <+: sF es
      rw [hstep]; exact sF_pre hkl (by omega)
    · have e : j = (ge es k).2.2.toNat := by omega
      rw [sF_take hkl, hp3, e]
  · have e : k = es.length := by omega
    rw [e, List.take_length] at hpre
    exact hpre
def castF (F : List Nat) : List Int := F.map fun v : Nat => (v : Int)
theorem gi_castF {F : List Nat} {v : Nat} (hv : v < F.length) : gi (castF F) v = (gn F v : Int) := by
  unfold castF
  rw [ya8 (by simpa using hv), yfj hv]; simp
theorem yfK {F : List Nat} (hF : ycF F) {v : Nat} (hv : v < 12) {R : Int → Prop} (h : R (root F v)) : yba (castF F) (v : Int) R := by
  unfold yba
  refine ⟨fun m x => ∃ u : Nat, x = u ∧ m = u ∧ u < 12 ∧ root F u = root F v, ⟨v, v, rfl, rfl, hv, rfl⟩, ?_⟩
  rintro m _ ⟨u, rfl, hm, hu, hr⟩
  have hg : gi (castF F) u = (gn F u : Int) := gi_castF (by rw [hF.1]; exact hu)
  have hle := hF.2 u hu
  simp only [Int.toNat_natCast, hg]
  refine ⟨by omega, fun e => ?_, fun e => ⟨gn F u, by omega, gn F u, rfl, rfl, by omega, ?_⟩⟩
  · rw [ycq (F := F) (v := u) (by omega)] at hr
    rw [hr]; exact h
  · rw [← yek hF hu (by omega)]; exact hr
theorem yhh {F : List Nat} (hF : ycF F) {a b : Nat} (ha : a < 12) (hb : b < 12) (hne : root F a ≠ root F b) : ∀ k, k ≤ 12 → yaB (ycp F a b) k + (if max (root F a) (root F b) < k then 1 else 0) = yaB F k
  | 0, _ => by simp [yaB]
  | k + 1, hk => by
    have ih := yhh hF ha hb hne k (by omega)
    have hj := yfk hF ha hb k (by omega)
    have ra := yeT hF ha
    have rb := yeT hF hb
    rw [yaB, yaB]
    have hM : root F (max (root F a) (root F b)) = max (root F a) (root F b) := by
      rcases Nat.le_total (root F a) (root F b) with q | q
      · rw [Nat.max_eq_right q]; exact rb
      · rw [Nat.max_eq_left q]; exact ra
    have hm : root F (min (root F a) (root F b)) = min (root F a) (root F b) := by
      rcases Nat.le_total (root F a) (root F b) with q | q
      · rw [Nat.min_eq_left q]; exact ra
      · rw [Nat.min_eq_right q]; exact rb
    by_cases e1 : k = max (root F a) (root F b)
    · have h1 : root F k = k := by rw [e1]; exact hM
      rw [if_pos (h1.trans e1)] at hj
      rw [if_neg (by omega : ¬ root (ycp F a b) k = k), if_pos h1, if_pos (by omega)]
      rw [if_neg (by omega)] at ih
      omega
    · have h2 : root (ycp F a b) k = k ↔ root F k = k := by
        rw [hj]
        split
        · rename_i e2
          constructor
          · intro e3; rw [← e3] at e2; rw [hm] at e2; omega
          · intro e3; omega
        · exact Iff.rfl
      by_cases e3 : root F k = k
      · rw [if_pos (h2.2 e3), if_pos e3]
        by_cases e4 : max (root F a) (root F b) < k
        · rw [if_pos e4] at ih; rw [if_pos (by omega)]; omega
        · rw [if_neg e4] at ih; rw [if_neg (by omega)]; omega
      · rw [if_neg (fun q => e3 (h2.1 q)), if_neg e3]
        by_cases e4 : max (root F a) (root F b) < k
        · rw [if_pos e4] at ih; rw [if_pos (by omega)]; omega
        · rw [if_neg e4] at ih; rw [if_neg (by omega)]; omega
theorem yha {F : List Nat} (hF : ycF F) {a b : Nat} (ha : a < 12) (hb : b < 12) (he : root F a = root F b) : ∀ k, k ≤ 12 → yaB (ycp F a b) k = yaB F k
  | 0, _ => rfl
  | k + 1, hk => by
    have ih := yha hF ha hb he k (by omega)
    have hj := yfk hF ha hb k (by omega)
    rw [yaB, yaB, ih, hj, he]
    simp only [Nat.max_self, Nat.min_self]
    congr 2
    split
    · rename_i e; rw [e]
    · rfl
theorem ygw : ∀ k, k ≤ 12 → yaB yc5 k = k
  | 0, _ => rfl
  | k + 1, hk => by
    rw [yaB, ygw k (by omega), if_pos]
    exact ycq (by rw [yfj (by simpa [yc5] using (by omega : k < 12))]; simp [yc5])
theorem joinedF_snoc (l : List E3) (x : E3) : yau (l ++ [x]) = ycp (yau l) x.1.toNat x.2.1.toNat := by
  unfold yau; rw [List.foldl_append]; rfl
theorem castF_join {F : List Nat} {a b : Nat} : (castF F).set (mxF (root F a) (root F b)).toNat (mnF (root F a) (root F b)) = castF (ycp F a b) := by
  unfold castF ycp
  rw [List.map_set, ydj, ydZ]
  congr 1
  · omega
  · omega
theorem p_graph_Genus {n : Nat} {es : List E3} {R : Int → Int → Prop} (hl : es.length ≤ 1000) (hg : yas n es = 0) (hc : ∀ q, q < n → Conn n es q) (h : R ((es.map (·.2.2)).sum + 1 - n) 0) : ycP n es R := by
  obtain ⟨hE, hn1, hn12⟩ := ya3 hg
  unfold ycP
  refine yeD (by omega) ⟨fun _ => ?_, fun q => absurd hg q⟩
  refine ⟨fun m v f => Cnt 12 (fun k => f.length = 12 ∧ ∀ i, i < k → gi f i = (i : Int)) m v, Cnt.start ⟨by simp, fun i hi => absurd hi (by omega)⟩, ?_⟩
  rintro m _ f ⟨k, rfl, rfl, hk, hfl, hf⟩
  simp only [Int.toNat_natCast]
  refine ⟨fun hlt => ⟨by omega, Cnt.next (by omega) (by omega) ⟨by simpa using hfl, fun i hi => ?_⟩⟩, fun hge => ?_⟩
  · rw [ybo (by omega)]
    split
    · omega
    · exact hf i (by omega)
  have e12 : k = 12 := by omega
  subst e12
  have hf0 : f = castF yc5 := yfq (by rw [hfl]; rfl) fun i hi => by
    rw [hf i (by omega), gi_castF (by show i < (List.range 12).length; simpa using (by omega : i < 12)), yfj (by simpa [yc5] using (by omega : i < 12))]
    simp [yc5]
  show ∃ Pr Rr : List (Int × Int × Int) → Prop, _
  refine ⟨_, _, ygf hE hl, fun pre f2 genus => pre.map gmap <+: sF es ∧ f2 = castF (yau (pre.map gmap)) ∧ genus + n - (yaB (yau (pre.map gmap)) n : Int) = pre.length ∧ 0 ≤ genus ∧ genus ≤ pre.length, ⟨List.nil_prefix, hf0, ?_, by omega, by simp⟩, ?_, ?_⟩
  · show (0 : Int) + n - (yaB yc5 n : Int) = 0
    rw [ygw n hn12]; omega
  · rintro pre e a b f2 genus ⟨hp, rfl, hcount, h0, h1⟩ hPr
    have hPr : (pre ++ [(e, a, b)]).map gmap <+: sF es := hPr
    have hE2 := sF_ok hE
    have hmem : (a, b, 1) ∈ sF es := hPr.subset (by simp [gmap])
    have hx := hE2 _ hmem
    simp only at hx
    obtain ⟨a, rfl⟩ : ∃ k : Nat, a = (k : Int) := ⟨a.toNat, by omega⟩
    obtain ⟨b, rfl⟩ : ∃ k : Nat, b = (k : Int) := ⟨b.toNat, by omega⟩
    have hF : ycF (yau (pre.map gmap)) := ybR _ fun x hx => by
      have := hE2 x (hp.subset hx)
      omega
    have hplen : pre.length ≤ 50 * es.length := by
      have h2 := hp.length_le
      have h3 := sF_few hE
      rw [List.length_map] at h2
      omega
    have hsn : (pre ++ [(e, (a : Int), (b : Int))]).map gmap = pre.map gmap ++ [((a : Int), (b : Int), 1)] := by rw [List.map_append]; rfl
    have hjs : yau ((pre ++ [(e, (a : Int), (b : Int))]).map gmap) = ycp (yau (pre.map gmap)) a b := by rw [hsn, joinedF_snoc]; simp
    have ra := ydo hF a (by omega)
    have rb := ydo hF b (by omega)
    have hrl : ∀ v, v < n → root (yau (pre.map gmap)) v < n := fun v hv => by have := (ydo hF v (by omega)).1; omega
    have hra := hrl a (by omega)
    have hrb := hrl b (by omega)
    refine yfK hF (by omega) (yfK hF (by omega) ?_)
    have hmx : 0 ≤ mxF (root (yau (pre.map gmap)) a : Int) (root (yau (pre.map gmap)) b) ∧ mxF (root (yau (pre.map gmap)) a : Int) (root (yau (pre.map gmap)) b) < 12 := by rw [ydj]; omega
    refine ⟨fun g2 => g2 = genus + if root (yau (pre.map gmap)) a = root (yau (pre.map gmap)) b then 1 else 0, fun g2 hg2 => ⟨hmx, hPr, by rw [hjs]; exact castF_join, ?_, ?_, ?_⟩, fun q => ⟨i64 (by omega), by rw [if_pos (by omega)]⟩, fun q => by rw [if_neg (by omega)]; omega⟩
    · rw [hjs, hg2, List.length_append, List.length_singleton]
      by_cases q : root (yau (pre.map gmap)) a = root (yau (pre.map gmap)) b
      · rw [if_pos q, yha hF (by omega) (by omega) q n hn12]; omega
      · have := yhh hF (by omega) (by omega) q n hn12
        rw [if_pos (by omega)] at this
        rw [if_neg q]; omega
    · rw [hg2]; split <;> omega
    · rw [hg2, List.length_append, List.length_singleton]; split <;> omega
  · rintro ys f2 genus ⟨hp, rfl, hcount, h0, h1⟩ hR
    have hR : ys.map gmap = sF es := hR
    have hE2 := sF_ok hE
    have hc2 : ydO n (sF es) = true := (ygY hE2 hn1 hn12 (q := 0) (by omega)).2 fun S h0 h1 => by
      obtain ⟨v, u, a, b, c, d, e⟩ := hc 0 (by omega) S h0 h1
      exact ⟨v, u, a, b, c, d, by rw [W_sF v u hE]; exact e⟩
    unfold ydO at hc2
    rw [beq_iff_eq, Int.toNat_natCast] at hc2
    rw [hR, hc2] at hcount
    have hlen := sF_len hE
    rw [← hR, List.length_map] at hlen
    have e : genus = (es.map (·.2.2)).sum + 1 - n := by omega
    rw [e]; exact h
theorem p_rank_of {n : Nat} {es : List E3} {R0 : Int → Prop} {R1 : Int → List E3 → Int → List (List Int × Int) → Int → Prop} (G : GOk n es) (h : R1 n es (ycG es + 1 - n) [] 0) : yeo n es R0 R1 := by
  have := G.el
  unfold yeo
  refine ygG (by omega) G.g ⟨fun _ => ?_, fun q => absurd rfl q⟩
  refine p_graph_Genus (by have := List.length_filter_le (fun x : E3 => decide (x.1 ≠ x.2.1)) es; unfold yem; omega) (gcheck_plain G.g) (fun q hq S h0 h1 => ?_) (by rw [plainL_sum]; exact h)
  obtain ⟨v, u, a, b, c, d, e⟩ := G.C q hq S h0 h1
  exact ⟨v, u, a, b, c, d, by rw [W_plainL]; exact e⟩
theorem p_rank_Rank {n : Int} {es : List E3} {d : List Int} {R : Int → Int → Prop} (hl : es.length ≤ 1000) (h0 : yaP n es 0 d ≠ 0 → R 0 (yaP n es 0 d)) (h1 : yaP n es 0 d = 0 → GOk n.toNat es ∧ (∀ v, v < n.toNat → -200 ≤ gi d v ∧ gi d v ≤ 200) ∧ dg d ≤ 5 ∧ ∀ k, RkOk n.toNat es d k → R k 0) : yc1 n es d R := by
  unfold yc1
  refine p_rank_given hl (by simp) ?_
  rw [givL_one]
  refine ⟨fun hg => ?_, fun hg => h0 hg⟩
  obtain ⟨n, rfl⟩ : ∃ n' : Nat, n = (n' : Int) := ⟨n.toNat, by have := ycr hg; omega⟩
  obtain ⟨G, hb, h5, hk⟩ := h1 hg
  simp only [Int.toNat_natCast] at G hb h5 hk
  have hd := (yeX (q := 0) hg).2.2.2.2.2.2.1
  exact p_rank_of G ⟨fun _ => p_find G hd hb h5 (MOk.nil n es) fun k m' hk' _ => hk k hk', fun q => absurd rfl q⟩
end Go.Proofs.Ytncilechkclmbaa

/- What chips.Next, rank.taken, rank.Witness and rank.AtLeast come to. -/
namespace Go.Proofs.Ytncilechkclmbaa
open Go Go.Proofs.Try
set_option linter.unusedVariables false
set_option linter.unusedSimpArgs false
structure FailAt (n : Nat) (es : List E3) (d : List Int) (k : Nat) (w : List Int) : Prop where
  at_ : ∃ A B, yfR n k = A ++ w :: B ∧ ∀ e ∈ A, Win n es (sb n d e)
  no : ¬ Win n es (sb n d w)
def WitOk (n : Nat) (es : List E3) (d w : List Int) : Prop := ∃ k, RkOk n es d k ∧ FailAt n es d (k + 1).toNat w
structure DOk (n : Nat) (es : List E3) (d : List Int) : Prop where
  G : GOk n es
  b : ∀ v, v < n → -150 ≤ gi d v ∧ gi d v ≤ 150
  d5 : dg d ≤ 5
end Go.Proofs.Ytncilechkclmbaa

/- Riemann and Roch for graphs, plainly: orders, the canonical divisor, what is left of it. -/
namespace Go.Proofs.Ytncilechkclmbaa
open Go Go.Proofs.Try
set_option linter.unusedVariables false
set_option linter.unusedSimpArgs false
section
variable {n : Nat} {es : List E3} {d : List Int}
end
end Go.Proofs.Ytncilechkclmbaa

/- Valences. -/
namespace Go.Proofs.Ytncilechkclmbaa
open Go Go.Proofs.Try
set_option linter.unusedVariables false
set_option linter.unusedSimpArgs false
theorem deg_w1 {n : Nat} {x : E3} {v : Nat} (hx : 0 ≤ x.1 ∧ x.1 < n ∧ 0 ≤ x.2.1 ∧ x.2.1 < n) : sm n (fun u => w1 x v u) = if x.1 = x.2.1 then 0 else if x.1 = v then x.2.2 else if x.2.1 = v then x.2.2 else 0 := by
  by_cases e : x.1 = x.2.1
  · rw [if_pos e, yao (g := fun _ => 0) fun u _ => by unfold w1; rw [if_neg (fun q => q.1 e)], yaZ]
  · rw [if_neg e]
    by_cases e1 : x.1 = v
    · rw [if_pos e1]
      have h : sm n (fun u => w1 x v u) = sm n (fun u => if u = x.2.1.toNat then x.2.2 else 0) := yao fun u hu => by
        unfold w1
        by_cases c : u = x.2.1.toNat
        · rw [if_pos c, if_pos ⟨e, .inl ⟨e1, by omega⟩⟩]
        · rw [if_neg c, if_neg]
          rintro ⟨_, ⟨_, q⟩ | ⟨q, q2⟩⟩
          · omega
          · omega
      rw [h, ycH _ (by omega)]
    · rw [if_neg e1]
      by_cases e2 : x.2.1 = v
      · rw [if_pos e2]
        have h : sm n (fun u => w1 x v u) = sm n (fun u => if u = x.1.toNat then x.2.2 else 0) := yao fun u hu => by
          unfold w1
          by_cases c : u = x.1.toNat
          · rw [if_pos c, if_pos ⟨e, .inr ⟨by omega, e2⟩⟩]
          · rw [if_neg c, if_neg]
            rintro ⟨_, ⟨q, _⟩ | ⟨q, q2⟩⟩
            · omega
            · omega
        rw [h, ycH _ (by omega)]
      · rw [if_neg e2, yao (g := fun _ => 0) fun u _ => by
          unfold w1
          rw [if_neg]
          rintro ⟨_, ⟨q, _⟩ | ⟨_, q⟩⟩
          · exact e1 q
          · exact e2 q, yaZ]
theorem deg_take {n : Nat} {es : List E3} (hE : EOk n es) {k : Nat} (hk : k < es.length) (v : Nat) : deg n (es.take (k + 1)) v = deg n (es.take k) v + if (ge es k).1 = (ge es k).2.1 then 0 else if (ge es k).1 = v then (ge es k).2.2 else if (ge es k).2.1 = v then (ge es k).2.2 else 0 := by
  have hx := hE _ (yfr hk)
  have e : es.take (k + 1) = es.take k ++ [ge es k] := by rw [List.take_add_one, List.getElem?_eq_getElem hk, ycy hk]; rfl
  rw [← deg_w1 (x := ge es k) (n := n) (v := v) (by omega), e]
  unfold deg
  rw [← ybp]
  exact yao fun u _ => W_snoc _ _ _ _
theorem yhC {n v : Nat} {es : List E3} {R : Int → Int → Prop} (hl : es.length ≤ 1000) (hg : yas n es = 0) (hv : v < n) (h : R (deg n es v) 0) : yb6 (n : Int) es (v : Int) R := by
  obtain ⟨hE, hn1, hn12⟩ := ya3 hg
  unfold yb6 yeL
  refine yeD (by omega) ⟨fun _ => ?_, fun q => absurd hg q⟩
  refine ⟨Cnt 1 (fun _ => True), Cnt.start trivial, ?_⟩
  rintro m _ ⟨k, rfl, rfl, hk, -⟩
  simp only [Int.toNat_natCast, List.length_singleton]
  refine ⟨fun hlt => ⟨by omega, yeg ⟨fun _ => Cnt.next (by omega) (by omega) trivial, fun q => absurd (decide_eq_true ?_) q⟩⟩, fun _ => ⟨fun _ => ?_, fun q => absurd trivial q⟩⟩
  · have e : k = 0 := by omega
    subst e
    show 0 ≤ (v : Int) ∧ (v : Int) < n
    omega
  refine ⟨fun m d i => Cnt es.length (fun k => d = deg n (es.take k) v ∧ 0 ≤ d ∧ d ≤ 50 * k) m i, Cnt.start ⟨?_, by omega, by omega⟩, ?_⟩
  · unfold deg; rw [List.take_zero, yao (g := fun _ => 0) fun u _ => W_nil _ _, yaZ]
  rintro m _ _ ⟨k, rfl, rfl, hk, rfl, h2⟩
  simp only [Int.toNat_natCast]
  refine ⟨fun hlt => ⟨by omega, ?_⟩, fun hge => ?_⟩
  · have hlt : k < es.length := by omega
    have hx := hE _ (yfr hlt)
    have h1 := deg_take hE hlt v
    refine ⟨fun e => ?_, fun e => ⟨fun e1 => ?_, fun e1 => ⟨fun e2 => ?_, fun e2 => ?_⟩⟩⟩
    · rw [if_pos e, Int.add_zero] at h1
      exact Cnt.next hlt (by omega) ⟨h1.symm, by omega, by omega⟩
    · rw [if_neg e, if_pos e1] at h1
      exact ⟨i64 (by omega), Cnt.next hlt (by omega) ⟨h1.symm, by omega, by omega⟩⟩
    · rw [if_neg e, if_neg e1, if_pos e2] at h1
      exact ⟨i64 (by omega), Cnt.next hlt (by omega) ⟨h1.symm, by omega, by omega⟩⟩
    · rw [if_neg e, if_neg e1, if_neg e2, Int.add_zero] at h1
      exact Cnt.next hlt (by omega) ⟨h1.symm, by omega, by omega⟩
  · have e : k = es.length := by omega
    rw [e, List.take_length]; exact h
end Go.Proofs.Ytncilechkclmbaa

/- The dollar game: borrowing, greedy play. -/
namespace Go.Proofs.Ytncilechkclmbaa
open Go Go.Proofs.Try
set_option linter.unusedVariables false
set_option linter.unusedSimpArgs false
theorem yhK {n : Int} {es : List E3} {R : Int → Prop} (hl : es.length ≤ 1000) (h : R (ycZ n es)) : yb9 n es R := by
  unfold yb9
  unfold ycZ at h
  refine ⟨by omega, fun hg => ⟨fun hc => ?_, fun hc => ?_⟩, fun hg => ?_⟩
  · have := of_decide_eq_true hc
    rwa [if_pos this.1, if_pos this.2] at h
  · rwa [if_pos hg, if_neg (fun q => hc (decide_eq_true ⟨hg, q⟩))] at h
  · rwa [if_neg hg] at h
theorem yfp {n : Int} {es : List E3} {d : List Int} {R : Int → Prop} (hl : es.length ≤ 1000) (h : R (yaP n es 0 d)) : ybV n es d R := by
  unfold ybV
  rw [given0] at h
  refine yhK hl ⟨fun q => yeG ?_, fun q => ?_⟩
  · rwa [if_pos q] at h
  · rwa [if_neg q] at h
theorem p_r43_Given {n : Int} {es : List E3} {d : List Int} {R : Int → Prop} (hl : es.length ≤ 1000) (h : R (yaP n es 0 d)) : ydz n es d R := by
  unfold ydz yd5
  rw [given0] at h
  unfold ycZ at h
  refine yg5 (by omega) ⟨fun hg => ?_, fun hg => ⟨fun q => absurd q hg, fun _ => ?_⟩⟩
  · rw [if_pos hg] at h
    obtain ⟨n, rfl⟩ : ∃ n' : Nat, n = (n' : Int) := ⟨n.toNat, by have := (yhB hg).2; omega⟩
    refine yhq (by omega) hg ⟨fun hc => ⟨fun _ => p_r17_Check ?_, fun q => absurd rfl q⟩, fun hc => ⟨fun q => (by cases q), fun _ => ?_⟩⟩
    · rw [if_pos hc, if_pos rfl] at h; exact h
    · rw [if_neg hc, if_neg (by decide)] at h; exact h
  · rw [if_neg hg, if_neg hg] at h; exact h
def brwF (n : Nat) (es : List E3) (d : List Int) (v : Nat) (t : Int) : List Int := tab (fun u => gi d u + t * (if u = v then deg n es v else - W es u v)) n
theorem yct {n : Nat} {es : List E3} {d : List Int} {v : Nat} {t : Int} : (brwF n es d v t).length = n := ycB _ n
theorem brw_take {n : Nat} {es : List E3} (hE : EOk n es) {d : List Int} {v k : Nat} {t : Int} (hk : k < es.length) (u : Nat) (hu : u < n) :
    gi (brwF n (es.take (k + 1)) d v t) u = gi (brwF n (es.take k) d v t) u + t * (if u = v then (if (ge es k).1 = (ge es k).2.1 then 0 else if (ge es k).1 = v then (ge es k).2.2 else if (ge es k).2.1 = v then (ge es k).2.2 else 0) else - w1 (ge es k) u v) := by
  have e : es.take (k + 1) = es.take k ++ [ge es k] := by rw [List.take_add_one, List.getElem?_eq_getElem hk, ycy hk]; rfl
  unfold brwF
  rw [ydf _ hu, ydf _ hu, deg_take hE hk, e, W_snoc]
  split
  · rw [Int.mul_add]; omega
  · rw [Int.neg_add, Int.mul_add]; omega
theorem w1_at {x : E3} {u v : Nat} (h : x.1 ≠ x.2.1) (hv : x.1 = v ∨ x.2.1 = v) : w1 x u v = if (u : Int) = x.1 + x.2.1 - v then x.2.2 else 0 := by
  unfold w1
  by_cases c : (u : Int) = x.1 + x.2.1 - v
  · rw [if_pos c, if_pos ⟨h, by omega⟩]
  · rw [if_neg c, if_neg (fun q => by omega)]
theorem yhz {n v : Nat} {es : List E3} {d : List Int} {t : Int} {R : List Int → Prop} (hl : es.length ≤ 1000) (hg : yas n es = 0) (hdl : d.length = n) (hv : v < n) (ht : t = 1 ∨ t = -1) (hb : ∀ j, j < n → -1000000000000000 ≤ gi d j ∧ gi d j ≤ 1000000000000000)
    (h : R (brwF n es d v t)) : yb7 (n : Int) es d (v : Int) t R := by
  obtain ⟨hE, hn1, hn12⟩ := ya3 hg
  unfold yb7
  refine ⟨fun m v2 d2 => Cnt es.length (fun k => d2 = brwF n (es.take k) d v t ∧ ∀ j, j < n → gi d j - 50 * k ≤ gi d2 j ∧ gi d2 j ≤ gi d j + 50 * k) m v2, Cnt.start ⟨?_, fun j hj => by omega⟩, ?_⟩
  · refine eq_tab hdl _ fun i hi => ?_
    have : deg n (es.take 0) v = 0 := yaZ n
    rw [this, List.take_zero, W_nil]; split <;> omega
  rintro m _ d2 ⟨k, rfl, rfl, hk, rfl, hbd⟩
  simp only [Int.toNat_natCast]
  refine ⟨fun hlt => ⟨by omega, ?_⟩, fun hge => ?_⟩
  · have hlt : k < es.length := by omega
    have hx := hE _ (yfr hlt)
    have hal : (brwF n (es.take k) d v t).length = n := yct
    have key := fun u hu => brw_take hE (d := d) (v := v) (t := t) hlt u hu
    have tb : ∀ c : Int, t * c = c ∨ t * c = -c := fun c => by rcases ht with q | q <;> subst q <;> omega
    have same : (∀ u, u < n → (if u = v then (if (ge es k).1 = (ge es k).2.1 then (0 : Int) else if (ge es k).1 = v then (ge es k).2.2 else if (ge es k).2.1 = v then (ge es k).2.2 else 0) else - w1 (ge es k) u v) = 0) → brwF n (es.take k) d v t = brwF n (es.take (k + 1)) d v t ∧ ∀ j, j < n → gi d j - 50 * ((k + 1 : Nat) : Int) ≤ gi (brwF n (es.take k) d v t) j ∧ gi (brwF n (es.take k) d v t) j ≤ gi d j + 50 * ((k + 1 : Nat) : Int) := fun h0 => by
      refine ⟨yfq (by rw [yct, yct]) fun u hu => ?_, fun j hj => by have := hbd j hj; omega⟩
      rw [yct] at hu
      rw [key u hu, h0 u hu]; omega
    refine ⟨(ge es k).1 ≠ (ge es k).2.1 ∧ ((ge es k).1 = (v : Int) ∨ (ge es k).2.1 = (v : Int)), fun ⟨hne, hor⟩ => ?_, fun he => Cnt.next (by omega) (by omega) (same fun u hu => ?_), fun hne => ⟨fun q => ⟨hne, .inl q⟩, fun q1 => ⟨fun q => ⟨hne, .inr q⟩, fun q2 => Cnt.next (by omega) (by omega) (same fun u hu => ?_)⟩⟩⟩
    · have b1 := hbd v hv
      have c1 := hb v hv
      obtain ⟨o, ho⟩ : ∃ o : Nat, (ge es k).1 + (ge es k).2.1 - (v : Int) = (o : Int) := ⟨((ge es k).1 + (ge es k).2.1 - (v : Int)).toNat, by omega⟩
      rw [ho]
      simp only [Int.toNat_natCast]
      have hon : o < n := by omega
      have hov : o ≠ v := by omega
      have b2 := hbd o hon
      have c2 := hb o hon
      have hm := tb (ge es k).2.2
      have e2 : gi ((brwF n (es.take k) d v t).set v (gi (brwF n (es.take k) d v t) v + t * (ge es k).2.2)) o = gi (brwF n (es.take k) d v t) o := by rw [ybo (by omega), if_neg hov]
      rw [e2]
      refine ⟨by omega, i64 (by omega), i64 (by omega), i64 (by omega), i64 (by omega), by rw [List.length_set]; omega, i64 (by omega), Cnt.next (by omega) (by omega) ⟨yfq (by rw [List.length_set, List.length_set, yct, yct]) fun u hu => ?_, fun j hj => ?_⟩⟩
      · rw [List.length_set, List.length_set, yct] at hu
        rw [key u hu, ybo (by rw [List.length_set]; omega), ybo (by omega)]
        by_cases q : u = v
        · subst q
          rw [if_neg (fun q => hov q.symm), if_pos rfl, if_pos rfl, if_neg hne]
          rcases hor with q | q
          · rw [if_pos q]
          · by_cases q' : (ge es k).1 = (u : Int)
            · rw [if_pos q']
            · rw [if_neg q', if_pos q]
        · rw [if_neg q, if_neg q, w1_at hne hor, ho]
          by_cases q2 : u = o
          · subst q2; rw [if_pos rfl, if_pos rfl, Int.mul_neg]; omega
          · rw [if_neg q2, if_neg (by omega)]; simp
      · rw [ybo (by rw [List.length_set]; omega), ybo (by omega)]
        have := hbd j hj
        split
        · subst_vars; omega
        · split
          · subst_vars; omega
          · omega
    · unfold w1
      by_cases q : u = v
      · rw [if_pos q, if_pos he]
      · rw [if_neg q, if_neg (fun q => q.1 he)]; rfl
    · unfold w1
      by_cases q : u = v
      · rw [if_pos q, if_neg hne, if_neg q1, if_neg q2]
      · rw [if_neg q, if_neg (fun q => by omega)]; rfl
  · have hk2 : k = es.length := by omega
    rw [hk2, List.take_length]; exact h
structure GI (n : Nat) (es : List E3) (d left s : List Int) (i : Nat) : Prop where
  ll : left.length = n
  sl : s.length = n
  np : ∀ v, v < n → gi s v ≤ 0
  su : sm n (fun v => - gi s v) = i
  lf : ∀ v, v < n → gi left v = gi d v - Lp n es (gi s) v
  up : ∀ v, v < n → gi left v ≤ gi d v ∨ gi left v ≤ deg n es v - 1
  mi : ∀ σ : Nat → Int, (∀ v, v < n → σ v ≤ 0) → (∀ v, v < n → 0 ≤ gi d v - Lp n es σ v) → ∀ v, v < n → σ v ≤ gi s v
theorem ygn {n v : Nat} (hv : v < n) : gi (List.replicate n 0) v = 0 := by rw [ya8 (by simpa using hv)]; simp
theorem GI.start {n : Nat} {es : List E3} {d : List Int} (hd : d.length = n) : GI n es d d (List.replicate n 0) 0 := by
  refine ⟨hd, by simp, fun v hv => by rw [ygn hv]; omega, ?_, fun v hv => ?_, fun v hv => .inl (Int.le_refl _), fun σ h _ v hv => by rw [ygn hv]; exact h v hv⟩
  · rw [yao (g := fun _ => 0) fun i hi => by rw [ygn hi]; rfl, yaZ]; rfl
  · rw [yfh (b := fun _ => 0) (fun i hi => ygn hi) hv, yfi]; omega
theorem Lp_less {n : Nat} {es : List E3} {s : List Int} (hs : s.length = n) {v : Nat} (hv : v < n) (t : Int) {u : Nat} (hu : u < n) : Lp n es (gi (s.set v (gi s v + t))) u = Lp n es (gi s) u + t * (if u = v then deg n es v else - W es u v) := by
  rw [← Lp_unit hv, ← yfV, ← ygt]
  refine yfh (fun i hi => ?_) hu
  rw [ybo (by omega)]
  by_cases e : i = v
  · subst e; rw [if_pos rfl, if_pos rfl]; omega
  · rw [if_neg e, if_neg e]; omega
theorem GI.step {n : Nat} {es : List E3} (hE : EOk n es) {d left s : List Int} {i : Nat} (h : GI n es d left s i) {v : Nat} (hv : v < n) (hneg : gi left v < 0) : GI n es d (brwF n es left v 1) (s.set v (gi s v - 1)) (i + 1) := by
  have hsl := h.sl
  have gs : ∀ u, gi (s.set v (gi s v - 1)) u = if u = v then gi s v - 1 else gi s u := fun u => ybo (by omega)
  have lp := fun u hu => Lp_less (es := es) h.sl hv (-1) (u := u) hu
  have e1 : gi s v + -1 = gi s v - 1 := by omega
  rw [e1] at lp
  have gl : ∀ u, u < n → gi (brwF n es left v 1) u = gi left u + (if u = v then deg n es v else - W es u v) := fun u hu => by
    unfold brwF; rw [ydf _ hu]; omega
  refine ⟨yct, by simp [hsl], fun u hu => ?_, ?_, fun u hu => ?_, fun u hu => ?_, fun σ h0 hw u hu => ?_⟩
  · rw [gs]; have := h.np u hu; have := h.np v hv; split <;> omega
  · have e2 : sm n (fun u => - gi (s.set v (gi s v - 1)) u) = sm n (fun u => - gi s u + if u = v then 1 else 0) := yao fun u hu => by
      rw [gs]; split
      · subst_vars; omega
      · omega
    rw [e2, ybp, h.su, ycH 1 hv]; omega
  · rw [gl u hu, lp u hu, h.lf u hu]; omega
  · rw [gl u hu]
    by_cases e : u = v
    · subst e; rw [if_pos rfl]; right; omega
    · rw [if_neg e]
      have := yaJ hE u v
      rcases h.up u hu with q | q
      · left; omega
      · right; omega
  · have h1 := h.mi σ h0 hw
    rw [gs]
    split
    · rename_i e
      subst e
      have h2 := h1 u hv
      apply Int.not_lt.1
      intro hlt
      have e3 : σ u = gi s u := by omega
      have h3 := hw u hv
      have h4 := h.lf u hv
      have h5 : Lp n es (gi s) u ≤ Lp n es σ u := by
        unfold Lp
        refine yca fun x hx => ?_
        exact Int.mul_le_mul_of_nonneg_left (by have := h1 x hx; omega) (yaJ hE u x)
      omega
    · exact h1 u hu
theorem GI.win {n : Nat} {es : List E3} {d left s : List Int} {i : Nat} (h : GI n es d left s i) (h0 : ∀ v, v < n → 0 ≤ gi left v) : Win n es d := ⟨gi s, fun v hv => by rw [← h.lf v hv]; exact h0 v hv⟩
theorem GI.lose {n : Nat} {es : List E3} {d left s : List Int} {i : Nat} (h : GI n es d left s i) (hn : 1 ≤ n) (h0 : ∀ v, v < n → gi s v < 0) : ¬ Win n es d := fun ⟨σ, hσ⟩ => by
  obtain ⟨q, hq, hm⟩ := max_at σ n hn
  have e : ∀ v, Lp n es (fun u => σ u - σ q) v = Lp n es σ v := fun v => by
    unfold Lp
    exact yao fun u _ => by rw [show σ v - σ q - (σ u - σ q) = σ v - σ u by omega]
  have := h.mi (fun u => σ u - σ q) (fun v hv => by have := hm v hv; omega) (fun v hv => by rw [e]; exact hσ v hv) q hq
  have := h0 q hq
  omega
theorem GI.few {n : Nat} {es : List E3} (G : GOk n es) {d left s : List Int} {i : Nat} (h : GI n es d left s i) (hb : ∀ v, v < n → -9000 ≤ gi d v) {q : Nat} (hq : q < n) (h0 : gi s q = 0) : i ≤ 1000000 := by
  have hE := G.E
  have hn5 := G.n5
  have hdeg : ∀ v, v < n → deg n es v ≤ 18 := fun v hv => by
    have h1 := yft (f := fun v => deg n es v) (n := n) (fun i hi => yaI fun u _ => yaJ hE i u) v hv
    have h2 : sm n (fun v => deg n es v) ≤ 18 := G.tot
    have h1 : deg n es v ≤ sm n (fun v => deg n es v) := h1
    omega
  have hlp : ∀ v, v < n → Lp n es (fun u => - gi s u) v ≤ 9018 := fun v hv => by
    have e : Lp n es (fun u => - gi s u) v = -Lp n es (gi s) v := by
      have := yfV (n := n) (es := es) (-1) (gi s) v
      rw [show (fun u => - gi s u) = fun u => -1 * gi s u from funext fun u => by omega, this]; omega
    rw [e]
    have h1 := h.lf v hv
    have h2 := hdeg v hv
    have h3 := hb v hv
    rcases h.up v hv with h4 | h4 <;> omega
  have hcl := climb hE (G.C q hq) hq (f := fun u => - gi s u) (G := 45090) (by omega) fun S hS => by
    have h1 : sm n (fun v => if S v then Lp n es (fun u => - gi s u) v else 0) ≤ sm n (fun _ => 9018) := yca fun v hv => by
      have := hlp v hv
      show ite _ _ _ ≤ _
      split <;> omega
    rw [yb1] at h1
    have : (n : Int) * 9018 ≤ 5 * 9018 := Int.mul_le_mul_of_nonneg_right (by omega) (by omega)
    omega
  have h1 : ∀ v, v < n → - gi s v ≤ 180360 := fun v hv => by
    have h2 := hcl v hv
    have h3 := low_le (f := fun u => - gi s u) hv
    have h4 : low n (fun u => - gi s u) (- gi s v) * 45090 ≤ 4 * 45090 := Int.mul_le_mul_of_nonneg_right (by omega) (by omega)
    simp only [h0] at h2
    omega
  have h2 : sm n (fun v => - gi s v) ≤ sm n (fun _ => 180360) := yca h1
  rw [h.su, yb1] at h2
  have : (n : Int) * 180360 ≤ 5 * 180360 := Int.mul_le_mul_of_nonneg_right (by omega) (by omega)
  omega
theorem p_slices_Max_S {x : List Int} {R : Int → Prop} (hl : x.length ≤ 1000000000) (h0 : 0 < x.length) (h : ∀ m, (∃ k, k < x.length ∧ gi x k = m) → (∀ k, k < x.length → gi x k ≤ m) → R m) : ybt x R := by
  unfold ybt
  refine ⟨True, fun _ => ⟨by omega, ?_⟩, fun q => by omega, fun _ => trivial⟩
  refine ⟨fun c m i => Cnt x.length (fun k => 1 ≤ k ∧ (∃ j, j < k ∧ gi x j = m) ∧ ∀ j, j < k → gi x j ≤ m) c i, ⟨x.length - 1, 1, rfl, rfl, h0, by omega, ⟨0, by omega, rfl⟩, fun j hj => by rw [show j = 0 by omega]; exact Int.le_refl _⟩, ?_⟩
  rintro c m _ ⟨k, rfl, rfl, hk, h1, ⟨j0, hj0, rfl⟩, hm⟩
  simp only [Int.toNat_natCast]
  refine ⟨fun hlt => ⟨by omega, Cnt.next (by omega) (by omega) ⟨by omega, ?_, fun j hj => ?_⟩⟩, fun hge => ?_⟩
  · by_cases q : gi x j0 ≤ gi x k
    · exact ⟨k, by omega, by rw [ydj]; omega⟩
    · exact ⟨j0, by omega, by rw [ydj]; omega⟩
  · rw [ydj]
    by_cases e : j = k
    · subst e; omega
    · have := hm j (by omega); omega
  · have : k = x.length := by omega
    subst this
    exact h _ ⟨j0, hj0, rfl⟩ hm
theorem p_picked0 {R : Int → Prop} (h : R 0) : ycc [0] R := by
  unfold ycc ycn
  refine ⟨fun q => by simp at q, fun _ => ⟨fun q => by simp at q, fun _ => ⟨True, fun _ => ⟨by simp, fun c m i => c = 0 ∧ m = 0 ∧ i = 1, ⟨0, rfl, rfl, rfl⟩, ?_⟩, fun q => by simp at q, fun _ => trivial⟩⟩⟩
  rintro c m i ⟨rfl, rfl, rfl⟩
  exact ⟨fun q => by simp at q, fun _ => ⟨fun q => absurd q (by omega), fun _ => h⟩⟩
theorem ye2 {n : Nat} {es : List E3} {d : List Int} {R : Bool → List Int → Int → Prop} (G : GOk n es) (hd : d.length = n) (hb : ∀ v, v < n → -9000 ≤ gi d v ∧ gi d v ≤ 1000000) (h : ∀ b s, (b = true ↔ Win n es d) → R b s 0) : ybs (n : Int) es d [0] R := by
  have hg := G.g
  have hel := G.el
  have hn1 := G.n1
  have hn5 := G.n5
  have hE := G.E
  unfold ybs
  refine yfp (by omega) ⟨fun _ => p_picked0 ⟨fun _ => ?_, fun q => absurd rfl q⟩, fun q => absurd (G.giv hd fun v hv => by have := hb v hv; omega) q⟩
  refine ⟨fun v v2 => d = v ∧ v2 = List.replicate n 0, ?_, ycj (by omega) ⟨by omega, rfl, by simp⟩, by omega, ycj (by omega) ⟨rfl, by simp⟩⟩
  rintro _ _ ⟨rfl, rfl⟩
  refine ⟨fun m v3 left s => ∃ k : Nat, v3 = (k : Int) ∧ m = 1048577 - k ∧ k ≤ 1048576 ∧ GI n es d left s k, ⟨_, 0, rfl, rfl, by omega, GI.start hd⟩, ?_⟩
  rintro m _ left s ⟨k, rfl, rfl, hk, hG⟩
  have hll := hG.ll
  have hsl := hG.sl
  rw [hll]
  refine ⟨fun m v6 v7 => Cnt n (fun k => v6 = ygb ((List.range k).filter fun v => decide (gi left v < 0))) m v7, Cnt.start rfl, ?_⟩
  rintro m3 _ _ ⟨j, rfl, rfl, hj, rfl⟩
  simp only [Int.toNat_natCast]
  refine ⟨fun hlt => ⟨by omega, fun hneg => ⟨by have := filt_len (fun v => decide (gi left v < 0)) j; omega, Cnt.next (by omega) (by omega) (filt_yes (decide_eq_true hneg)).symm⟩, fun hnn => Cnt.next (by omega) (by omega) (filt_no (by simpa using hnn)).symm⟩, fun hge => ?_⟩
  have e : j = n := by omega
  subst e
  refine ⟨fun he => ?_, fun hne => ?_⟩
  · refine h true s ⟨fun _ => hG.win fun v hv => ?_, fun _ => rfl⟩
    apply Int.not_lt.1
    intro hlt
    have hm : (v : Int) ∈ ygb ((List.range j).filter fun v => decide (gi left v < 0)) := List.mem_map.2 ⟨v, List.mem_filter.2 ⟨List.mem_range.2 hv, decide_eq_true hlt⟩, rfl⟩
    have := List.length_pos_of_mem hm
    omega
  · refine p_slices_Max_S (by omega) (by omega) fun mx ⟨q, hq, hqe⟩ hmx => ⟨fun hneg => ?_, fun hnn => ?_⟩
    · exact h false s ⟨fun q => (by cases q), fun q => absurd q (hG.lose hn1 fun v hv => by have := hmx v (by omega); omega)⟩
    · have h0 : gi s q = 0 := by have := hG.np q (by omega); omega
      have hfew := hG.few G (fun v hv => (hb v hv).1) (q := q) (by omega) h0
      refine ⟨fun q => absurd q (by omega), fun _ => ?_⟩
      have hpos : 0 < (ygb ((List.range j).filter fun v => decide (gi left v < 0))).length := by omega
      obtain ⟨v, hvm, hve⟩ := List.mem_map.1 (gi_mem hpos)
      obtain ⟨hv, hneg⟩ := List.mem_filter.1 hvm
      rw [List.mem_range] at hv
      have hneg := of_decide_eq_true hneg
      have e1 : ((k : Int).tmod ((([0] : List Int).length : Nat) : Int)) = 0 := by simp
      rw [e1]
      have e2 : gi ([0] : List Int) (0 : Int).toNat = 0 := rfl
      rw [e2, Int.zero_tmod]
      have e3 : gi (ygb ((List.range j).filter fun v => decide (gi left v < 0))) (0 : Int).toNat = (v : Int) := hve.symm
      rw [e3]
      simp only [Int.toNat_natCast]
      have hsb : ∀ u, u < j → -1000001 ≤ gi s u ∧ gi s u ≤ 0 := fun u hu => by
        have h1 := yft (f := fun v => - gi s v) (n := j) (fun i hi => by have := hG.np i hi; omega) u hu
        have h2 := hG.su
        have h3 := hG.np u hu
        have h1 : - gi s u ≤ sm j (fun v => - gi s v) := h1
        omega
      have hlb : ∀ u, u < j → -1000000000000000 ≤ gi left u ∧ gi left u ≤ 1000000000000000 := fun u hu => by
        have h1 := Lp_bound (s := s) hg (fun i hi => by have := hsb i hi; omega) hu
        have h2 := hG.lf u hu
        have h3 := hb u hu
        omega
      have hsv := hsb v hv
      refine ⟨by simp, by simp, by omega, by omega, by omega, i64 (by omega), yhz (by omega) hg hll hv (.inl rfl) hlb ⟨i64 (by omega), _, ?_, k + 1, rfl, rfl, by omega, hG.step hE hv hneg⟩⟩
      omega
theorem p_caseWon {n : Nat} {es : List E3} {d : List Int} {R : Bool → Bool → Prop} (G : GOk n es) (hd : d.length = n) (hb : ∀ v, v < n → -9000 ≤ gi d v ∧ gi d v ≤ 1000000) (h : ∀ b, (b = true ↔ Win n es d) → R b true) : ya2 (n : Int) es d R := by
  unfold ya2
  exact ye2 G hd hb fun b s hbw => h b hbw
end Go.Proofs.Ytncilechkclmbaa

/- What the reference of ranks comes to. -/
namespace Go.Proofs.Ytncilechkclmbaa
open Go Go.Proofs.Try
set_option linter.unusedVariables false
set_option linter.unusedSimpArgs false
section
variable {N : Nat} {es : List E3} {d : List Int}
end
structure FewOk (n : Int) (es : List E3) (d : List Int) (most : Int) : Prop where
  s : yht n es 5 7 = true
  l : d.length ≤ 100
  g : yaP n es 0 d = 0 → lowF n d = true ∧ dg d ≤ most
theorem FewOk.el {n : Int} {es : List E3} {d : List Int} {most : Int} (h : FewOk n es d most) : es.length ≤ 40 := (of_decide_eq_true h.s).1
end Go.Proofs.Ytncilechkclmbaa

/- The examples of the chapter on ranks come out right; what the law's small functions come to. -/
namespace Go.Proofs.Ytncilechkclmbaa
open Go Go.Proofs.Try
set_option linter.unusedVariables false
set_option linter.unusedSimpArgs false
def tri : List E3 := [(0, 1, 1), (0, 2, 1), (1, 2, 1)]
def k4 : List E3 := [(0, 1, 1), (0, 2, 1), (0, 3, 1), (1, 2, 1), (1, 3, 1), (2, 3, 1)]
theorem tri_ok : GOk 3 tri := ⟨by decide, by decide, by decide, by decide, by decide, by decide⟩
theorem al_dec {N k : Nat} {es : List E3} {d : List Int} (S : List (List Int)) (h : ∀ e ∈ yfR (N + 1) k, ∃ s ∈ S, ∀ v, v < N + 1 → 0 ≤ gi (sb (N + 1) d e) v - Lp (N + 1) es (gi s) v) : AL (N + 1) es d (k : Int) := fun e he => by
  obtain ⟨s, -, hs⟩ := h e (eff_list he)
  exact ⟨gi s, hs⟩
theorem lose_dec {n : Nat} {es : List E3} {d : List Int} (G : GOk n es) (q : Nat) (hq : q < n) (h1 : ∀ v, v < n → v ≠ q → 0 ≤ gi d v) (h2 : ∀ m, m < 2 ^ n → 1 ≤ m → m.testBit q = false → ¬ (∀ v, v < n → m.testBit v = true → outS n es m.testBit v ≤ gi d v)) (hneg : gi d q < 0) : ¬ Win n es d := fun hw => by
  have := (win_red (d := d) (r := d) (s := fun _ => 0) G.E hq (red_of_dec hq h1 h2) fun v hv => by rw [yfi]; omega).1 hw
  omega
theorem no_dec {N k : Nat} {es : List E3} {d : List Int} (e : List Int) (he : e ∈ yfR (N + 1) k) (h : ¬ Win (N + 1) es (sb (N + 1) d e)) : ¬ AL (N + 1) es d (k : Int) := fun q => h (q e (list_eff he))
theorem ex2 : RkOk 3 tri [0, 1, 0] 0 := ⟨by omega, al_dec (N := 2) (k := 0) [[0, 0, 0]] (by decide), no_dec (N := 2) (k := 1) [0, 0, 1] (by decide) (lose_dec tri_ok 2 (by decide) (by decide) (by decide) (by decide))⟩
theorem wx2 : WitOk 3 tri [0, 1, 0] [0, 0, 1] := ⟨0, ex2, ⟨[], [[0, 1, 0], [1, 0, 0]], by decide, fun e he => by simp at he⟩, lose_dec tri_ok 2 (by decide) (by decide) (by decide) (by decide)⟩
end Go.Proofs.Ytncilechkclmbaa

/- The dollar game: the search for the cheapest scripts; prices. -/
namespace Go.Proofs.Ytncilechkclmbaa
open Go Go.Proofs.Try
set_option linter.unusedVariables false
set_option linter.unusedSimpArgs false
set_option linter.unusedSectionVars false
theorem yfd {n : Nat} {es : List E3} {d s : List Int} {a b : Int} {R : List Int → Prop} (hl : es.length ≤ 1000) (hg : yas n es = 0) (hdl : d.length = n) (hd : ∀ j, j < n → -1000000000000000 ≤ gi d j ∧ gi d j ≤ 1000000000000000) (hsl : s.length = n) (hs : ∀ j, j < n → -2000000000 ≤ gi s j ∧ gi s j ≤ 2000000000) (h : R (appF n es d s)) : yaX (n : Int) es d a b s R := by
  obtain ⟨hE, hn1, hn12⟩ := ya3 hg
  unfold yaX
  refine ycj (by omega) ?_
  refine ⟨fun m v out => Cnt es.length (fun k => out = appF n (es.take k) d s) m v, Cnt.start (app_start hdl), ?_⟩
  rintro m _ out ⟨k, rfl, rfl, hk, rfl⟩
  simp only [Int.toNat_natCast]
  refine ⟨fun hlt => ⟨by omega, ?_⟩, fun hge => ?_⟩
  · have hlt : k < es.length := by omega
    have hx := hE _ (yfr hlt)
    have hf := flow_bound (x := ge es k) (s := gi s) (by omega) (hs _ (by omega)) (hs _ (by omega))
    have ha := hs (ge es k).1.toNat (by omega)
    have hb := hs (ge es k).2.1.toNat (by omega)
    have hal : (appF n (es.take k) d s).length = n := yby
    have h1 : ∀ j, j < n → gi (appF n (es.take k) d s) j = gi d j - Lp n (es.take k) (gi s) j := fun j hj => ydf _ hj
    have hbd : ∀ j, j < n → -2000000000000000 ≤ gi (appF n (es.take k) d s) j ∧ gi (appF n (es.take k) d s) j ≤ 2000000000000000 := fun j hj => by
      have := yfU hE hs hj k (by omega)
      have := hd j hj
      rw [h1 j hj]; omega
    have b1 := hbd (ge es k).1.toNat (by omega)
    have b2 := hbd (ge es k).2.1.toNat (by omega)
    refine ⟨by omega, by omega, i64 (by omega), i64 (by omega), by omega, i64 (by omega), by rw [List.length_set]; omega, ?_, Cnt.next hlt (by omega) (edge_step hE hlt)⟩
    rw [ybo (by omega)]
    split
    · exact i64 (by omega)
    · exact i64 (by omega)
  · have hk2 : k = es.length := by omega
    rw [hk2, List.take_length]; exact h
def owF (d : List Int) : Int := sm d.length fun v => - mnF (gi d v) 0
theorem yf8 (d : List Int) : 0 ≤ owF d := yaI fun v _ => by rw [ydZ]; omega
theorem yfY {d : List Int} {R : Int → Prop} (hl : d.length ≤ 1000) (hb : ∀ v, v < d.length → -2000000000000000 ≤ gi d v) (h : R (owF d)) : ycf d R := by
  unfold ycf
  refine ⟨fun m n v => Cnt d.length (fun k => n = sm k (fun v => - mnF (gi d v) 0) ∧ 0 ≤ n ∧ n ≤ 2000000000000000 * k) m v, Cnt.start ⟨rfl, by omega, by omega⟩, ?_⟩
  rintro m n _ ⟨k, rfl, rfl, hk, rfl, h0, h1⟩
  simp only [Int.toNat_natCast]
  refine ⟨fun hlt => ⟨by omega, ?_⟩, fun hge => ?_⟩
  · have := hb k (by omega)
    have hm := ydZ (gi d k) 0
    refine ⟨i64 (by omega), Cnt.next (by omega) (by omega) ⟨?_, by omega, by omega⟩⟩
    rw [sm]; omega
  · have : k = d.length := by omega
    subst this; exact h
theorem owF_zero {d : List Int} : owF d = 0 ↔ ∀ v, v < d.length → 0 ≤ gi d v := by
  constructor
  · intro h v hv
    have h1 := yft (f := fun v => - mnF (gi d v) 0) (n := d.length) (fun i _ => by show 0 ≤ - mnF (gi d i) 0; rw [ydZ]; omega) v hv
    have h2 : - mnF (gi d v) 0 ≤ owF d := h1
    rw [ydZ] at h2
    omega
  · intro h
    unfold owF
    rw [yao (g := fun _ => 0) fun v hv => by have := h v hv; rw [ydZ]; omega, yaZ]
def gmF (n : Nat) (es : List E3) : Nat → Int
  | 0 => 0
  | k + 1 => mxF (gmF n es k) (deg n es k)
theorem yf9 (n : Nat) (es : List E3) : ∀ k, 0 ≤ gmF n es k
  | 0 => Int.le_refl _
  | k + 1 => by have := yf9 n es k; rw [gmF, ydj]; omega
theorem gmF_ge (n : Nat) (es : List E3) : ∀ k v, v < k → deg n es v ≤ gmF n es k
  | k + 1, v, h => by
    rw [gmF, ydj]
    by_cases e : v = k
    · subst e; omega
    · have := gmF_ge n es k v (by omega); omega
theorem gmF_le (n : Nat) (es : List E3) {B : Int} (hB : 0 ≤ B) (h : ∀ v, deg n es v ≤ B) : ∀ k, gmF n es k ≤ B
  | 0 => hB
  | k + 1 => by have := gmF_le n es hB h k; have := h k; rw [gmF, ydj]; omega
theorem yga {n : Nat} {es : List E3} {R : Int → Prop} (hl : es.length ≤ 1000) (hg : yas n es = 0) (h : R (gmF n es n)) : ybM (n : Int) es R := by
  obtain ⟨hE, hn1, hn12⟩ := ya3 hg
  unfold ybM
  refine ⟨fun m b v => Cnt n (fun k => b = gmF n es k) m v, Cnt.start rfl, ?_⟩
  rintro m b _ ⟨k, rfl, rfl, hk, rfl⟩
  refine ⟨fun hlt => yhC hl hg (by omega) (Cnt.next (by omega) (by omega) rfl), fun hge => ?_⟩
  have : k = n := by omega
  subst this; exact h
def bdF (d : List Int) (most : Int) : Int := if most = 0 then 0 else (owF d + most - 1).tdiv most
theorem p_dollar_bound {d : List Int} {most : Int} {R : Int → Prop} (hl : d.length ≤ 12) (hb : ∀ v, v < d.length → -2000000000000000 ≤ gi d v) (hm : 0 ≤ most ∧ most ≤ 1000) (h : R (bdF d most)) : ycs d most R := by
  unfold ycs
  unfold bdF at h
  refine ⟨fun q => by rwa [if_pos q] at h, fun q => yfY (by omega) hb ?_⟩
  rw [if_neg q] at h
  have h0 := yf8 d
  have h1 : owF d ≤ 12 * 2000000000000000 := by
    have h1 : owF d ≤ sm d.length (fun _ => 2000000000000000) := yca fun v hv => by have := hb v hv; show - mnF (gi d v) 0 ≤ _; rw [ydZ]; omega
    rw [yb1] at h1
    have : (d.length : Int) * 2000000000000000 ≤ 12 * 2000000000000000 := Int.mul_le_mul_of_nonneg_right (by omega) (by omega)
    omega
  have h2 : 0 ≤ (owF d + most - 1).tdiv most := Int.tdiv_nonneg (by omega) (by omega)
  have h3 : (owF d + most - 1).tdiv most ≤ owF d + most - 1 := Int.tdiv_le_self _ (by omega)
  exact ⟨i64 (by omega), i64 (by omega), q, i64 (by omega), h⟩
theorem bdF_le {d : List Int} {most k : Int} (hm : 0 < most) : bdF d most ≤ k ↔ owF d ≤ k * most := by
  unfold bdF
  have h0 := yf8 d
  rw [if_neg (by omega), Int.tdiv_eq_ediv_of_nonneg (by omega)]
  constructor
  · intro h
    have h1 := Int.lt_ediv_add_one_mul_self (owF d + most - 1) hm
    have h2 : ((owF d + most - 1) / most + 1) * most ≤ (k + 1) * most := Int.mul_le_mul_of_nonneg_right (by omega) (by omega)
    rw [Int.add_mul k] at h2
    omega
  · intro h
    have h2 : owF d + most - 1 < (k + 1) * most := by rw [Int.add_mul]; omega
    have := Int.ediv_lt_of_lt_mul hm h2
    omega
theorem p_compare_any {a b : List Int} {R : Int → Prop} (ha : a.length ≤ 1000000000) (h : ∀ c, R c) : ya5 a b R := by
  unfold ya5
  refine ⟨fun m v => Cnt a.length (fun _ => True) m v, Cnt.start trivial, ?_⟩
  rintro m _ ⟨k, rfl, rfl, hk, -⟩
  exact ⟨fun hlt => ⟨by omega, fun _ => h _, fun q => ⟨by omega, yex ⟨fun _ => Cnt.next (by omega) (by omega) trivial, fun _ => h _⟩⟩⟩, fun _ => ⟨fun _ => h _, fun _ => h _⟩⟩
section
variable {n : Nat} {es : List E3} {d : List Int} (hl : es.length ≤ 1000) (hg : yas n es = 0) (hdl : d.length = n) (hd : ∀ j, j < n → -1000000 ≤ gi d j ∧ gi d j ≤ 1000000)
include hl hg hdl hd
theorem app_low {s : List Int} (hs : ∀ j, j < n → -1000000 ≤ gi s j ∧ gi s j ≤ 1000000) : ∀ v, v < (appF n es d s).length → -2000000000000000 ≤ gi (appF n es d s) v := fun v hv => by
  rw [yby] at hv
  have h1 := Lp_bound (s := s) hg (fun j hj => by have := hs j hj; omega) hv
  have h2 := hd v hv
  have h3 : gi (appF n es d s) v = gi d v - Lp n es (gi s) v := ydf _ hv
  omega
theorem yg7 {l : List (List Int)} {a b : Int} {R : List Int → Prop} (hll : l.length ≤ 1000000) (hs : ∀ s ∈ l, s.length = n ∧ ∀ j, j < n → -1000000 ≤ gi s j ∧ gi s j ≤ 1000000)
    (h0 : (∀ s ∈ l, owF (appF n es d s) ≠ 0) → R []) (h1 : ∀ s ∈ l, owF (appF n es d s) = 0 → R s) : ya6 (n : Int) es d a b l R := by
  obtain ⟨hE, hn1, hn12⟩ := ya3 hg
  have hm : ∀ k, k < l.length → gx l k ∈ l := fun k hk => List.mem_of_getElem? (yhs hk)
  unfold ya6
  refine ⟨fun m best v => Cnt l.length (fun k => (best = [] ∧ ∀ j, j < k → owF (appF n es d (gx l j)) ≠ 0) ∨ (best ∈ l ∧ owF (appF n es d best) = 0)) m v, Cnt.start (.inl ⟨rfl, fun j hj => absurd hj (by omega)⟩), ?_⟩
  rintro m best _ ⟨k, rfl, rfl, hk, hinv⟩
  simp only [Int.toNat_natCast]
  refine ⟨fun hlt => ⟨by omega, ?_⟩, fun hge => ?_⟩
  · have hk : k < l.length := by omega
    obtain ⟨h2, h3⟩ := hs _ (hm k hk)
    have hne : gx l k ≠ [] := fun q => by rw [q] at h2; simp at h2; omega
    refine yfd hl hg hdl (fun j hj => by have := hd j hj; omega) h2 (fun j hj => by have := h3 j hj; omega) (yfY (by rw [yby]; omega) (app_low hl hg hdl hd h3) ⟨fun h4 => ⟨fun _ => ?_, fun _ => p_compare_any (by omega) fun c => ⟨fun _ => ?_, fun hc => ?_⟩⟩, fun h4 => ?_⟩)
    · have := Cnt.next (P := fun k' => (gx l k = [] ∧ ∀ j, j < k' → owF (appF n es d (gx l j)) ≠ 0) ∨ (gx l k ∈ l ∧ owF (appF n es d (gx l k)) = 0)) hk (by omega) (.inr ⟨hm k hk, h4⟩)
      exact ⟨this.1, hne, this.2⟩
    · have := Cnt.next (P := fun k' => (gx l k = [] ∧ ∀ j, j < k' → owF (appF n es d (gx l j)) ≠ 0) ∨ (gx l k ∈ l ∧ owF (appF n es d (gx l k)) = 0)) hk (by omega) (.inr ⟨hm k hk, h4⟩)
      exact ⟨this.1, hne, this.2⟩
    · rename_i hbne
      refine Cnt.next hk (by omega) (.inr ?_)
      rcases hinv with q | q
      · exact absurd q.1 hbne
      · exact q
    · refine Cnt.next hk (by omega) ?_
      rcases hinv with ⟨q, q2⟩ | q
      · refine .inl ⟨q, fun j hj => ?_⟩
        by_cases e : j = k
        · subst e; exact h4
        · exact q2 j (by omega)
      · exact .inr q
  · have : k = l.length := by omega
    subst this
    rcases hinv with ⟨rfl, q⟩ | ⟨q, q2⟩
    · refine h0 fun s hs => ?_
      obtain ⟨j, hj⟩ := List.getElem?_of_mem hs
      have hjl := (List.getElem?_eq_some_iff.1 hj).1
      have := q j hjl
      rw [yhs hjl] at hj
      cases hj
      exact this
    · exact h1 _ q q2
end
def st2 : List Int := [-1, 1]
def stp (s : List Int) (v k : Nat) : List (List Int) := (st2.take k).flatMap fun t => if gi s v * t < 0 then [] else [s.set v (gi s v + t)]
def nbs (n : Nat) (s : List Int) : List (List Int) := (List.range n).flatMap fun v => stp s v 2
theorem stp_next {s : List Int} {v k : Nat} (hk : k < 2) : stp s v (k + 1) = stp s v k ++ if gi s v * gi st2 k < 0 then [] else [s.set v (gi s v + gi st2 k)] := by
  have : k = 0 ∨ k = 1 := by omega
  rcases this with rfl | rfl <;> simp [stp, st2, gi]
theorem stp_mem {s x : List Int} {v : Nat} : x ∈ stp s v 2 ↔ ∃ t : Int, (t = -1 ∨ t = 1) ∧ ¬ gi s v * t < 0 ∧ x = s.set v (gi s v + t) := by
  simp only [stp, st2, List.take, List.mem_flatMap, List.mem_cons, List.not_mem_nil, or_false]
  constructor
  · rintro ⟨t, ht, hx⟩
    refine ⟨t, ht, ?_⟩
    split at hx
    · simp at hx
    · exact ⟨by assumption, by simpa using hx⟩
  · rintro ⟨t, ht, h1, rfl⟩
    exact ⟨t, ht, by rw [if_neg h1]; simp⟩
theorem nbs_mem {n : Nat} {s x : List Int} : x ∈ nbs n s ↔ ∃ v, v < n ∧ ∃ t : Int, (t = -1 ∨ t = 1) ∧ ¬ gi s v * t < 0 ∧ x = s.set v (gi s v + t) := by
  simp only [nbs, List.mem_flatMap, List.mem_range, stp_mem]
structure MI (n : Nat) (ok : List Int → Prop) (C out : List (List Int)) (m : List (List Int × Bool)) : Prop where
  k : KOk 12 m
  seen : ∀ x, x.length = n → ((mget m (keyF x)).getD false = true ↔ x ∈ C)
  out : ∀ x, x ∈ out ↔ x ∈ C ∧ ok x
theorem MI.nil {n : Nat} {ok : List Int → Prop} : MI n ok [] [] [] := ⟨KOk.nil 12, fun x _ => by simp [mget], fun x => by simp⟩
theorem MI.old {n : Nat} {ok : List Int → Prop} {C out : List (List Int)} {m : List (List Int × Bool)} (h : MI n ok C out m) {x : List Int} (hx : x.length = n) (hm : (mget m (keyF x)).getD false = true) : MI n ok (C ++ [x]) out m := by
  have hc := (h.seen x hx).1 hm
  refine ⟨h.k, fun y hy => ?_, fun y => ?_⟩
  · rw [h.seen y hy, List.mem_append, List.mem_singleton]
    exact ⟨.inl, fun q => q.elim id fun q => q ▸ hc⟩
  · rw [h.out, List.mem_append, List.mem_singleton]
    exact ⟨fun q => ⟨.inl q.1, q.2⟩, fun q => ⟨q.1.elim id fun q => q ▸ hc, q.2⟩⟩
theorem MI.new {n : Nat} {ok : List Int → Prop} {C out : List (List Int)} {m : List (List Int × Bool)} (h : MI n ok C out m) (hn : n ≤ 12) {x : List Int} (hx : x.length = n) (hk : yeW 12 (keyF x)) :
    (ok x → MI n ok (C ++ [x]) (out ++ [x]) (mput m (keyF x) true)) ∧ (¬ ok x → MI n ok (C ++ [x]) out (mput m (keyF x) true)) := by
  have hs : ∀ y, y.length = n → ((mget (mput m (keyF x) true) (keyF y)).getD false = true ↔ y ∈ C ++ [x]) := fun y hy => by
    rw [mget_put, List.mem_append, List.mem_singleton]
    by_cases e : keyF x = keyF y
    · rw [if_pos e]; exact ⟨fun _ => .inr (keyF_inj hn hy hx e.symm), fun _ => rfl⟩
    · rw [if_neg e, h.seen y hy]
      exact ⟨.inl, fun q => q.elim id fun q => absurd (q ▸ rfl) e⟩
  refine ⟨fun ho => ⟨h.k.put hk true, hs, fun y => ?_⟩, fun ho => ⟨h.k.put hk true, hs, fun y => ?_⟩⟩
  · rw [List.mem_append, List.mem_append, List.mem_singleton, h.out]
    exact ⟨fun q => q.elim (fun q => ⟨.inl q.1, q.2⟩) fun q => ⟨.inr q, q ▸ ho⟩, fun q => q.1.elim (fun q1 => .inl ⟨q1, q.2⟩) .inr⟩
  · rw [List.mem_append, List.mem_singleton, h.out]
    exact ⟨fun q => ⟨.inl q.1, q.2⟩, fun q => ⟨q.1.elim id fun q1 => absurd (q1 ▸ q.2) ho, q.2⟩⟩
theorem keyF_ok2 {x : List Int} (hx : ∀ v, v < x.length → -1000000000 ≤ gi x v ∧ gi x v ≤ 1000000000) : yeW 12 (keyF x) := by
  refine ⟨ycY x, fun y hy => ?_⟩
  obtain ⟨j, hj⟩ := List.getElem?_of_mem hy
  have hjl := (List.getElem?_eq_some_iff.1 hj).1
  rw [ycY] at hjl
  have e : gi (keyF x) j = y := by unfold gi; rw [List.getD_eq_getElem?_getD, hj]; rfl
  rw [← e, gi_keyF hjl]
  split
  · exact i64 (by have := hx j (by assumption); omega)
  · exact i64 (by omega)
theorem p_dollar_keyed {s : List Int} {R : List Int → Prop} (h0 : 0 < s.length) (h : R (keyF s)) : ycx s R := by
  unfold ycx
  exact ⟨h0, ycY s, h⟩
theorem ygN {s : List Int} {R : List Int → Prop} (hl : s.length ≤ 1000000000) (h : R s) : ybe s R := by
  unfold ybe
  refine fun b hb => ⟨fun q => ?_, fun _ => ⟨by omega, by simpa using h⟩⟩
  have := hb q
  subst this; exact h
section
variable {n : Nat} {es : List E3} {d : List Int} (hl : es.length ≤ 1000) (hg : yas n es = 0) (hdl : d.length = n) (hd : ∀ j, j < n → -1000000 ≤ gi d j ∧ gi d j ≤ 1000000)
include hl hg hdl hd
theorem p_dollar_more {l : List (List Int)} {most lim a : Int} {R : List (List Int) → Prop} (hll : l.length ≤ 1000000) (hm : 0 ≤ most ∧ most ≤ 1000) (ha : 0 ≤ a ∧ a ≤ 1000) (hs : ∀ s ∈ l, s.length = n ∧ ∀ j, j < n → -100000 ≤ gi s j ∧ gi s j ≤ 100000)
    (h : ∀ out, out.length ≤ 24 * l.length → (∀ x, x ∈ out ↔ (∃ s ∈ l, x ∈ nbs n s) ∧ a + 1 + bdF (appF n es d x) most ≤ lim) → R out) : ybj (n : Int) es d most lim l a R := by
  obtain ⟨hE, hn1, hn12⟩ := ya3 hg
  have hmem : ∀ k, k < l.length → gx l k ∈ l := fun k hk => List.mem_of_getElem? (yhs hk)
  obtain ⟨ok, hok⟩ : ∃ ok : List Int → Prop, ok = fun x => a + 1 + bdF (appF n es d x) most ≤ lim := ⟨_, rfl⟩
  unfold ybj
  refine ⟨fun m v v2 v3 => Cnt l.length (fun k => MI n ok ((l.take k).flatMap (nbs n)) v v3 ∧ v.length ≤ 24 * k) m v2, Cnt.start ⟨MI.nil, by simp⟩, ?_⟩
  rintro m v _ v3 ⟨k, rfl, rfl, hk, hM, hlen⟩
  simp only [Int.toNat_natCast]
  refine ⟨fun hlt => ⟨by omega, ?_⟩, fun hge => ?_⟩
  · have hk : k < l.length := by omega
    obtain ⟨h2, h3⟩ := hs _ (hmem k hk)
    rw [h2]
    refine ⟨fun m v4 v5 v6 => Cnt n (fun j => MI n ok ((l.take k).flatMap (nbs n) ++ (List.range j).flatMap fun v => stp (gx l k) v 2) v4 v6 ∧ v4.length ≤ 24 * k + 2 * j) m v5, Cnt.start ⟨by simpa using hM, by omega⟩, ?_⟩
    rintro m3 v4 _ v6 ⟨j, rfl, rfl, hj, hM3, hlen3⟩
    simp only [Int.toNat_natCast]
    refine ⟨fun hlt3 => ⟨by omega, ?_⟩, fun hge3 => ?_⟩
    · have hj : j < n := by omega
      refine ⟨fun m v7 v8 v9 => Cnt 2 (fun t => MI n ok (((l.take k).flatMap (nbs n) ++ (List.range j).flatMap fun v => stp (gx l k) v 2) ++ stp (gx l k) j t) v7 v9 ∧ v7.length ≤ 24 * k + 2 * j + t) m v8, Cnt.start ⟨by simpa [stp] using hM3, by omega⟩, ?_⟩
      rintro m4 v7 _ v9 ⟨t, rfl, rfl, ht, hM4, hlen4⟩
      simp only [Int.toNat_natCast]
      refine ⟨fun hlt4 => ⟨by omega, ?_⟩, fun hge4 => ?_⟩
      · have ht : t < 2 := by omega
        have hst : gi ([-1, 1] : List Int) t = -1 ∨ gi ([-1, 1] : List Int) t = 1 := by
          have : t = 0 ∨ t = 1 := by omega
          rcases this with rfl | rfl
          · left; rfl
          · right; rfl
        have h3j := h3 j hj
        have hnx : stp (gx l k) j (t + 1) = stp (gx l k) j t ++ if gi (gx l k) j * gi [-1, 1] t < 0 then [] else [(gx l k).set j (gi (gx l k) j + gi [-1, 1] t)] := stp_next ht
        have ePr : In64 (gi (gx l k) j * gi [-1, 1] t) := by rcases hst with e | e <;> rw [e] <;> exact i64 (by omega)
        refine ⟨ePr, fun hneg => Cnt.next (by omega) (by omega) ⟨?_, by omega⟩, fun hnn => ygN (by omega) ⟨by omega, i64 (by omega), ?_⟩⟩
        · rw [hnx, if_pos hneg, List.append_nil]; exact hM4
        · obtain ⟨x, hx⟩ : ∃ x, (gx l k).set j (gi (gx l k) j + gi [-1, 1] t) = x := ⟨_, rfl⟩
          rw [hx]
          have hxl : x.length = n := by rw [← hx, List.length_set]; exact h2
          have hxb : ∀ i, i < n → -1000000 ≤ gi x i ∧ gi x i ≤ 1000000 := fun i hi => by
            rw [← hx, ybo (by omega)]
            have := h3 i hi
            split <;> omega
          have hnx2 : stp (gx l k) j (t + 1) = stp (gx l k) j t ++ [x] := by rw [hnx, if_neg hnn, hx]
          have hko : yeW 12 (keyF x) := keyF_ok2 fun i hi => by have := hxb i (by omega); omega
          refine p_dollar_keyed (by omega) ⟨ycY x, hM4.k, hko, fun hse => Cnt.next (by omega) (by omega) ⟨?_, by omega⟩, fun hns => ⟨i64 (by omega), yfd hl hg hdl (fun i hi => by have := hd i hi; omega) hxl (fun i hi => by have := hxb i hi; omega) (p_dollar_bound (by rw [yby]; omega) (app_low hl hg hdl hd hxb) hm ?_)⟩⟩
          · rw [hnx2, ← List.append_assoc]; exact hM4.old hxl hse
          · have hN := hM4.new hn12 hxl hko
            have hb0 : 0 ≤ bdF (appF n es d x) most ∧ bdF (appF n es d x) most ≤ 1000000000000000000 := by
              have h0 := yf8 (appF n es d x)
              have h1 : owF (appF n es d x) ≤ 12 * 2000000000000000 := by
                have hal := app_low hl hg hdl hd hxb
                have h1 : owF (appF n es d x) ≤ sm (appF n es d x).length (fun _ => 2000000000000000) := yca fun v hv => by have := hal v hv; show - mnF (gi _ v) 0 ≤ _; rw [ydZ]; omega
                rw [yb1, yby] at h1
                have : (n : Int) * 2000000000000000 ≤ 12 * 2000000000000000 := Int.mul_le_mul_of_nonneg_right (by omega) (by omega)
                omega
              unfold bdF
              split
              · omega
              · have := Int.tdiv_nonneg (a := owF (appF n es d x) + most - 1) (b := most) (by omega) (by omega)
                have := Int.tdiv_le_self (a := owF (appF n es d x) + most - 1) most (by omega)
                omega
            refine ⟨i64 (by omega), fun hle => ⟨by omega, Cnt.next (by omega) (by omega) ⟨?_, by simp; omega⟩⟩, fun hgt => Cnt.next (by omega) (by omega) ⟨?_, by omega⟩⟩
            · rw [hnx2, ← List.append_assoc]; exact hN.1 (by rw [hok]; exact hle)
            · rw [hnx2, ← List.append_assoc]; exact hN.2 (by rw [hok]; exact hgt)
      · have : t = 2 := by omega
        subst this
        refine Cnt.next (by omega) (by omega) ⟨?_, by omega⟩
        rw [List.range_succ, List.flatMap_append, ← List.append_assoc]
        simpa using hM4
    · have : j = n := by omega
      subst this
      refine Cnt.next (by omega) (by omega) ⟨?_, by omega⟩
      rw [List.take_add_one, List.getElem?_eq_getElem hk, List.flatMap_append]
      have e : l[k] = gx l k := by have := yhs hk; rw [List.getElem?_eq_getElem hk] at this; exact Option.some.inj this
      rw [e]
      simpa [nbs] using hM3
  · have : k = l.length := by omega
    subst this
    rw [List.take_length] at hM
    refine h v hlen fun x => ?_
    rw [hM.out, List.mem_flatMap, hok]
end
def coF (n : Nat) (s : List Int) : Int := sm n fun v => mxF (gi s v) (- gi s v)
theorem coF_at {n : Nat} {s : List Int} {v : Nat} (hv : v < n) : - coF n s ≤ gi s v ∧ gi s v ≤ coF n s := by
  have h1 := yft (f := fun v => mxF (gi s v) (- gi s v)) (n := n) (fun i _ => by show 0 ≤ mxF _ _; rw [ydj]; omega) v hv
  have h1 : mxF (gi s v) (- gi s v) ≤ coF n s := h1
  rw [ydj] at h1; omega
theorem coF_nonneg (n : Nat) (s : List Int) : 0 ≤ coF n s := yaI fun i _ => by rw [ydj]; omega
theorem sm_upd {n : Nat} {f g : Nat → Int} {v : Nat} (hv : v < n) {c : Int} (h : ∀ u, u < n → g u = f u + if u = v then c else 0) : sm n g = sm n f + c := by
  rw [yao h, ybp, ycH c hv]
theorem coF_set {n : Nat} {s : List Int} (hs : s.length = n) {v : Nat} (hv : v < n) {t : Int} (ht : t = -1 ∨ t = 1) (h : ¬ gi s v * t < 0) : coF n (s.set v (gi s v + t)) = coF n s + 1 := by
  refine sm_upd hv fun u hu => ?_
  rw [ybo (by omega)]
  by_cases e : u = v
  · subst e
    rw [if_pos rfl, if_pos rfl, ydj, ydj]
    rcases ht with rfl | rfl <;> omega
  · rw [if_neg e, if_neg e]; omega
theorem coF_zero {n : Nat} {s : List Int} (hs : s.length = n) (h : coF n s = 0) : s = List.replicate n 0 := by
  refine yfq (by simpa using hs) fun i hi => ?_
  have := coF_at (s := s) (v := i) (n := n) (by omega)
  rw [ygn (by omega)]; omega
theorem coF_rep (n : Nat) : coF n (List.replicate n 0) = 0 := by
  unfold coF
  rw [yao (g := fun _ => 0) fun v hv => by rw [ygn hv]; rfl, yaZ]
theorem coF_some {n : Nat} {s : List Int} (h : coF n s ≠ 0) : ∃ v, v < n ∧ gi s v ≠ 0 := by
  apply Classical.byContradiction
  intro hn
  refine h ?_
  unfold coF
  rw [yao (g := fun _ => 0) fun v hv => ?_, yaZ]
  have : gi s v = 0 := Classical.byContradiction fun q => hn ⟨v, hv, q⟩
  rw [this]; rfl
theorem owF_move {n : Nat} {es : List E3} (hE : EOk n es) {d s : List Int} (hs : s.length = n) {v : Nat} (hv : v < n) {t : Int} (ht : t = -1 ∨ t = 1) : owF (appF n es d (s.set v (gi s v + t))) ≤ owF (appF n es d s) + deg n es v := by
  unfold owF
  rw [yby, yby]
  have hg : ∀ (x : List Int) u, u < n → gi (appF n es d x) u = gi d u - Lp n es (gi x) u := fun x u hu => ydf _ hu
  have hdeg : 0 ≤ deg n es v := yaI fun u _ => yaJ hE v u
  have e : deg n es v = sm n (fun u => W es u v) := yao fun u _ => yej es v u
  rcases ht with rfl | rfl
  · rw [e, ← ybp]
    refine yca fun u hu => ?_
    rw [hg _ u hu, hg _ u hu, Lp_less hs hv (-1) hu, ydZ, ydZ]
    have hw := yaJ hE u v
    split
    · omega
    · omega
  · rw [← ycH (deg n es v) hv, ← ybp]
    refine yca fun u hu => ?_
    rw [hg _ u hu, hg _ u hu, Lp_less hs hv 1 hu, ydZ, ydZ]
    have hw := yaJ hE u v
    split
    · subst_vars; omega
    · omega
def Lay (n : Nat) (es : List E3) (d : List Int) (lim : Int) (k : Nat) (l : List (List Int)) : Prop := ∀ x, x ∈ l ↔ x.length = n ∧ coF n x = k ∧ (k = 0 ∨ (k : Int) + bdF (appF n es d x) (gmF n es n) ≤ lim)
theorem Lay.start {n : Nat} {es : List E3} {d : List Int} {lim : Int} : Lay n es d lim 0 [List.replicate n 0] := fun x => by
  rw [List.mem_singleton]
  exact ⟨fun h => by subst h; exact ⟨by simp, coF_rep n, .inl rfl⟩, fun ⟨h1, h2, _⟩ => coF_zero h1 h2⟩
theorem bdF_zero {d : List Int} {most : Int} (hm : 0 ≤ most) (h : owF d = 0) : bdF d most ≤ 0 := by
  by_cases e : most = 0
  · unfold bdF; rw [if_pos e]; omega
  · rw [bdF_le (by omega)]; omega
theorem Lay.next {n : Nat} {es : List E3} (hE : EOk n es) {d : List Int} {lim : Int} {k : Nat} {l out : List (List Int)} (h : Lay n es d lim k l) (ho : ∀ x, x ∈ out ↔ (∃ s ∈ l, x ∈ nbs n s) ∧ (k : Int) + 1 + bdF (appF n es d x) (gmF n es n) ≤ lim) : Lay n es d lim (k + 1) out := fun x => by
  rw [ho]
  constructor
  · rintro ⟨⟨s, hs, hx⟩, hb⟩
    obtain ⟨h1, h2, _⟩ := (h s).1 hs
    obtain ⟨v, hv, t, ht, hn, rfl⟩ := nbs_mem.1 hx
    refine ⟨by simpa using h1, by rw [coF_set h1 hv ht hn, h2]; omega, .inr (by omega)⟩
  · rintro ⟨h1, h2, h3⟩
    have h3 : (k : Int) + 1 + bdF (appF n es d x) (gmF n es n) ≤ lim := by omega
    refine ⟨?_, h3⟩
    obtain ⟨v, hv, hne⟩ := coF_some (n := n) (s := x) (by omega)
    obtain ⟨t, ht, hsg⟩ : ∃ t : Int, (t = -1 ∨ t = 1) ∧ ((t = -1 ∧ gi x v ≤ -1) ∨ (t = 1 ∧ 1 ≤ gi x v)) := by
      by_cases q : gi x v < 0
      · exact ⟨-1, .inl rfl, .inl ⟨rfl, by omega⟩⟩
      · exact ⟨1, .inr rfl, .inr ⟨rfl, by omega⟩⟩
    have hsl : (x.set v (gi x v + -t)).length = n := by simpa using h1
    have hsv : gi (x.set v (gi x v + -t)) v = gi x v + -t := by rw [ybo (by omega), if_pos rfl]
    have hxe : x = (x.set v (gi x v + -t)).set v (gi (x.set v (gi x v + -t)) v + t) := by
      rw [hsv, List.set_set]
      refine yfq (by simp) fun i hi => ?_
      rw [ybo (by omega)]
      split
      · subst_vars; omega
      · rfl
    have hnn : ¬ gi (x.set v (gi x v + -t)) v * t < 0 := by
      rw [hsv]; rcases hsg with ⟨rfl, q⟩ | ⟨rfl, q⟩ <;> omega
    refine ⟨_, (h _).2 ⟨hsl, ?_, ?_⟩, nbs_mem.2 ⟨v, hv, t, ht, hnn, hxe⟩⟩
    · have := coF_set hsl hv ht hnn
      rw [← hxe] at this; omega
    · by_cases hk : k = 0
      · exact .inl hk
      · right
        have hm := yf9 n es n
        by_cases e : gmF n es n = 0
        · unfold bdF at h3 ⊢
          rw [if_pos e] at h3 ⊢; omega
        · have hb : bdF (appF n es d (x.set v (gi x v + -t))) (gmF n es n) ≤ bdF (appF n es d x) (gmF n es n) + 1 := by
            rw [bdF_le (by omega), Int.add_mul]
            have h4 := (bdF_le (d := appF n es d x) (most := gmF n es n) (by omega)).1 (Int.le_refl _)
            have h5 := owF_move hE (d := d) (s := x) h1 hv (t := -t) (by omega)
            have h6 := gmF_ge n es n v hv
            omega
          omega
def Wins (n : Nat) (es : List E3) (d s : List Int) : Prop := s.length = n ∧ ∀ v, v < n → 0 ≤ gi d v - Lp n es (gi s) v
theorem wins_owF {n : Nat} {es : List E3} {d s : List Int} (hs : s.length = n) : owF (appF n es d s) = 0 ↔ Wins n es d s := by
  rw [owF_zero, yby]
  exact ⟨fun h => ⟨hs, fun v hv => by have := h v hv; rwa [appF, ydf _ hv] at this⟩, fun h v hv => by rw [appF, ydf _ hv]; exact h.2 v hv⟩
theorem wins_win {n : Nat} {es : List E3} {d s : List Int} (h : Wins n es d s) : Win n es d := ⟨gi s, h.2⟩
theorem p_dollar_Solve {n : Nat} {es : List E3} {d : List Int} {a : Int} {R : List Int → Int → Int → Prop} (hS : Small (n : Int) es d) (hgv : yaP (n : Int) es 0 d = 0) (hdl : d.length = n) (ha : 0 ≤ a ∧ a ≤ 4)
    (h0 : ¬ Win n es d → R [] 0 6) (h1 : ∀ r (k : Nat), (k : Int) ≤ a → coF n r = k → Wins n es d r → (∀ s, Wins n es d s → k ≤ coF n s) → R r k 0) (h2 : (∀ s, Wins n es d s → a < coF n s) → R [] 0 12) : ybU (n : Int) es d a R := by
  have hel := hS.el
  obtain ⟨hg, hc, -, -, hck⟩ := ycr hgv
  obtain ⟨hE, hn1, hn12⟩ := ya3 hg
  have hdb := fun v (hv : v < n) => hS.d hck v (by omega)
  unfold ybU
  refine yfp (by omega) ⟨fun _ => ?_, fun q => absurd hgv q⟩
  refine ⟨True, fun _ => ?_, fun q => by omega, fun _ => ⟨fun q => by omega, fun _ => trivial⟩⟩
  refine ydL (.inl hS) (by omega) (fun q => absurd hgv q) fun _ r s hr b hb => ⟨fun _ => ⟨fun hbt => ?_, fun hbf => h0 fun q => hbf (hb.2 (by rwa [Int.toNat_natCast]))⟩, fun q => absurd rfl q⟩
  refine yga (by omega) hg ⟨by omega, ?_⟩
  simp only [Int.toNat_natCast]
  have hm := yf9 n es n
  have hm2 : gmF n es n ≤ 600 := gmF_le n es (by omega) (fun v => (deg_le hg hn12 v).2) n
  refine ⟨fun m v v2 => ∃ k : Nat, v2 = (k : Int) ∧ m = 6 - k ∧ (k : Int) ≤ a + 1 ∧ Lay n es d a k v ∧ v.length ≤ 24 ^ k ∧ ∀ s, Wins n es d s → k ≤ coF n s, ⟨_, 0, rfl, rfl, by omega, Lay.start, by simp, fun s _ => coF_nonneg n s⟩, ?_⟩
  rintro m v _ ⟨k, rfl, rfl, hk, hL, hlen, hmin⟩
  refine ⟨fun hle => ?_, fun hgt => h2 fun s hs => by have := hmin s hs; omega⟩
  have hpow : 24 ^ k ≤ 24 ^ 4 := Nat.pow_le_pow_right (by omega) (by omega)
  have hpow2 : (24 : Nat) ^ 4 = 331776 := by decide
  have hsb : ∀ s ∈ v, s.length = n ∧ ∀ j, j < n → -100 ≤ gi s j ∧ gi s j ≤ 100 := fun s hs => by
    obtain ⟨q1, q2, _⟩ := (hL s).1 hs
    refine ⟨q1, fun j hj => ?_⟩
    have := coF_at (s := s) hj
    omega
  refine yg7 (by omega) hg hdl (fun j hj => by have := hdb j hj; omega) (by omega) (fun s hs => ⟨(hsb s hs).1, fun j hj => by have := (hsb s hs).2 j hj; omega⟩) (fun hno => ⟨fun _ => ?_, fun q => absurd rfl q⟩) (fun s hs how => ?_)
  · refine p_dollar_more (by omega) hg hdl (fun j hj => by have := hdb j hj; omega) (by omega) ⟨hm, by omega⟩ (by omega) (fun s hs => ⟨(hsb s hs).1, fun j hj => by have := (hsb s hs).2 j hj; omega⟩) fun out hol hom => ?_
    refine ⟨i64 (by omega), 6 - (k + 1), by omega, k + 1, by simp, rfl, by omega, hL.next hE hom, by rw [Nat.pow_succ]; omega, fun s hs => ?_⟩
    have h3 := hmin s hs
    apply Classical.byContradiction
    intro hlt
    have hce : coF n s = k := by omega
    have how := (wins_owF hs.1).2 hs
    have hb0 := bdF_zero hm how
    exact hno s ((hL s).2 ⟨hs.1, hce, .inr (by omega)⟩) how
  · obtain ⟨q1, q2, _⟩ := (hL s).1 hs
    have hw := (wins_owF q1).1 how
    refine ⟨fun q => ?_, fun _ => h1 s k (by omega) q2 hw hmin⟩
    rw [q] at q1
    simp at q1
    omega
def tri3 : List E3 := [(0, 1, 1), (0, 2, 1), (1, 2, 1)]
theorem yhF : GOk 3 tri3 := ⟨by decide, by decide, by decide, by decide, by decide, by decide⟩
theorem tri3_small {d : List Int} (hd : d.length = 3) (hb : ∀ v, v < 3 → -200 ≤ gi d v ∧ gi d v ≤ 200) : Small ((3 : Nat) : Int) tri3 d := yhF.small hb
theorem p_slices_order {a b : List Int} {R : Int → Prop} (h : a.length = b.length) (hl : a.length ≤ 1000000) (e : a = b) (h0 : R 0) : ydA a b R := by
  subst e
  unfold ydA
  refine ⟨fun m v => Cnt a.length (fun _ => True) m v, Cnt.start trivial, ?_⟩
  rintro m _ ⟨k, rfl, rfl, hk, -⟩
  exact ⟨fun hlt => ⟨by omega, by omega, fun q => by omega, fun _ => ⟨fun q => by omega, fun _ => Cnt.next (by omega) (by omega) trivial⟩⟩, fun _ => h0⟩
theorem p_sameScripts {a b : List Int} {R : Bool → Prop} (hl : a.length ≤ 1000000) (e : a = b) (h0 : R true) : ybJ a b R := by
  subst e
  unfold ybJ yeF
  exact ⟨fun _ => p_slices_order rfl hl rfl (by rw [decide_eq_true rfl]; exact h0), fun q => absurd rfl q⟩
theorem tri3_lost : ¬ Win 3 tri3 [-1, 0, 1] := lose_dec yhF 0 (by decide) (by decide) (by decide) (by decide)
theorem ydg {R : Bool → Prop} (h : R true) : yaz R := by
  unfold yaz ybq
  have gv : ∀ d : List Int, d.length = 3 → (∀ v, v < 3 → -200 ≤ gi d v ∧ gi d v ≤ 200) → yaP ((3 : Nat) : Int) tri3 0 d = 0 := fun d hd hb => yhF.giv hd fun v hv => by have := hb v hv; omega
  have hw : Wins 3 tri3 [-1, 0, 2] [0, 0, 1] := ⟨rfl, by decide⟩
  have hc1 : coF 3 [0, 0, 1] = 1 := by decide
  show ybU ((3 : Nat) : Int) tri3 [-1, 0, 2] 2 _
  refine p_dollar_Solve (tri3_small rfl (by decide)) (gv _ rfl (by decide)) rfl (by omega) (fun q => absurd (wins_win hw) q) (fun r k hk hc hr hmin => ?_) (fun q => by have := q _ hw; omega)
  have hk1 : k = 1 := by
    have h1 := hmin _ hw
    have : k = 0 ∨ k = 1 := by omega
    rcases this with rfl | q
    · have h2 := coF_zero hr.1 hc
      have h3 := hr.2 0 (by omega)
      rw [h2] at h3
      exact absurd h3 (by decide)
    · exact q
  subst hk1
  have hr1 : r = [0, 0, 1] := by
    obtain ⟨x, y, z, rfl⟩ : ∃ x y z, r = [x, y, z] := by
      have := hr.1
      match r, this with
      | [x, y, z], _ => exact ⟨x, y, z, rfl⟩
    have h0 := hr.2 0 (by omega)
    have h1 := hr.2 1 (by omega)
    have h2 := hr.2 2 (by omega)
    have w01 : W tri3 0 1 = 1 := by decide
    have w02 : W tri3 0 2 = 1 := by decide
    have w12 : W tri3 1 2 = 1 := by decide
    have w10 : W tri3 1 0 = 1 := by decide
    have w20 : W tri3 2 0 = 1 := by decide
    have w21 : W tri3 2 1 = 1 := by decide
    have w00 : W tri3 0 0 = 0 := by decide
    have w11 : W tri3 1 1 = 0 := by decide
    have w22 : W tri3 2 2 = 0 := by decide
    simp only [Lp, sm, w01, w02, w12, w10, w20, w21, w00, w11, w22, gi, List.getD_cons_zero, List.getD_cons_succ] at h0 h1 h2
    simp only [coF, sm, ydj, gi, List.getD_cons_zero, List.getD_cons_succ] at hc
    have : x = 0 ∧ y = 0 ∧ z = 1 := by omega
    obtain ⟨rfl, rfl, rfl⟩ := this
    rfl
  subst hr1
  show ybs ((3 : Nat) : Int) tri3 [-1, 0, 1] [0] _
  refine ye2 yhF rfl (by decide) fun b s hb => ?_
  have hbf : ¬ b = true := fun q => tri3_lost (hb.1 q)
  show yc1 ((3 : Nat) : Int) tri3 [-1, 0, 1] _
  refine p_rank_Rank (by decide) (fun q => absurd (gv _ rfl (by decide)) q) fun _ => ⟨by simpa using yhF, by decide, by decide, fun k hk => ?_⟩
  have hk1 := hk.lo
  have hk2 : k = -1 := by
    have := mt (hk.win (by decide)).1 tri3_lost
    omega
  subst hk2
  refine ⟨i64 (by omega), i64 (by omega), fun _ => ⟨fun _ => ⟨fun q => absurd q hbf, fun _ => ⟨fun _ => p_sameScripts (by decide) rfl h, fun q => absurd rfl q⟩⟩, fun q => absurd rfl q⟩, fun q => absurd rfl q⟩
theorem p_r08_FewRanks {n : Int} {es : List E3} {R : Bool → Prop} (h : R (yht n es 5 7)) : yde n es R := p_r08_small h
theorem p_r17_Small {d : List Int} {R : Bool → Prop} (hl : d.length ≤ 1000000000) (h1 : (∀ v, v < d.length → -60 ≤ gi d v ∧ gi d v ≤ 60) → R true) (h2 : R false) : ydB d R := by
  unfold ydB
  refine ⟨fun m v => Cnt d.length (fun k => ∀ v, v < k → -60 ≤ gi d v ∧ gi d v ≤ 60) m v, Cnt.start fun v hv => absurd hv (by omega), ?_⟩
  rintro m _ ⟨k, rfl, rfl, hk, hb⟩
  simp only [Int.toNat_natCast]
  refine ⟨fun hlt => ⟨by omega, fun _ => h2, fun q1 => ⟨fun _ => h2, fun q2 => Cnt.next (by omega) (by omega) fun v hv => ?_⟩⟩, fun hge => ?_⟩
  · by_cases e : v = k
    · subst e; omega
    · exact hb v (by omega)
  · have : k = d.length := by omega
    subst this; exact h1 hb
theorem smallF_get {n : Int} {es : List E3} {a b : Int} (h : yht n es a b = true) : es.length ≤ 40 ∧ (yas n es = 0 → n ≤ a ∧ (es.map (·.2.2)).sum ≤ b) := of_decide_eq_true h
structure DolOk (n : Nat) (es : List E3) (d : List Int) : Prop where
  G : GOk n es
  s7 : (es.map (·.2.2)).sum ≤ 7
  g : yaP n es 0 d = 0
  l : d.length = n
  b : ∀ v, v < n → -60 ≤ gi d v ∧ gi d v ≤ 60
theorem dol_of {n : Int} {es : List E3} {d : List Int} (hf : yht n es 5 7 = true) (hg : yaP n es 0 d = 0) (hb : ∀ v, v < d.length → -60 ≤ gi d v ∧ gi d v ≤ 60) : ∃ n' : Nat, n = n' ∧ DolOk n' es d := by
  obtain ⟨hel, h2⟩ := smallF_get hf
  obtain ⟨k1, k2, k3, k4, k5⟩ := ycr hg
  obtain ⟨h3, h4⟩ := h2 k1
  obtain ⟨n, rfl⟩ : ∃ n' : Nat, n = (n' : Int) := ⟨n.toNat, by omega⟩
  obtain ⟨hE, hn1, hn12, -, -, -, hd, -⟩ := yeX (q := 0) hg
  exact ⟨n, rfl, ⟨k1, k2, hel, hn1, by omega, by omega⟩, h4, hg, hd, fun v hv => hb v (by omega)⟩
theorem given_len {n : Int} {es : List E3} {d : List Int} (hg : yaP n es 0 d = 0) : d.length ≤ 1000 := by
  obtain ⟨k1, k2, k3, k4, k5⟩ := ycr hg
  obtain ⟨n, rfl⟩ : ∃ n' : Nat, n = (n' : Int) := ⟨n.toNat, by omega⟩
  obtain ⟨hE, hn1, hn12, -, -, -, hd, -⟩ := yeX (q := 0) hg
  omega
theorem p_topprice {n a : Int} {es : List E3} {d : List Int} (ha : 0 ≤ a ∧ a < 256) : ya0 n es d a (fun b => b = true) := by
  unfold ya0
  refine ⟨∃ n' : Nat, n = n' ∧ DolOk n' es d, ?_, p_r08_FewRanks ⟨fun hf => p_r43_Given (by have := (smallF_get hf).1; omega) ⟨fun hg => p_r17_Small (by have := given_len hg; omega) (fun hb => ⟨fun _ => dol_of hf hg hb, fun q => absurd rfl q⟩) ⟨fun q => (by cases q), fun _ => ydg rfl⟩, fun _ => ydg rfl⟩, fun _ => ydg rfl⟩⟩
  rintro ⟨n, rfl, h⟩
  have G := h.G
  have hn1 := G.n1
  have hn5 := G.n5
  have hl := h.l
  obtain ⟨v, hv, hve⟩ : ∃ v : Nat, v < n ∧ a.tmod (n : Int) = (v : Int) := by
    refine ⟨(a.tmod n).toNat, ?_, ?_⟩
    · have h1 := Int.tmod_lt_of_pos a (b := (n : Int)) (by omega)
      have h2 := Int.tmod_nonneg (n : Int) (a := a) (by omega)
      omega
    · have h2 := Int.tmod_nonneg (n : Int) (a := a) (by omega)
      omega
  rw [hve]
  have hb := h.b v hv
  refine ⟨i64 (by omega), by omega, ygi (G.small fun v hv => by have := h.b v hv; omega) (by omega) (fun q => absurd h.g q) (fun _ q => absurd (by omega) q) fun _ v' hv' _ k hk => ?_⟩
  have : v' = v := by omega
  subst this
  simp only [Int.toNat_natCast] at hk ⊢
  have hdg : -300 ≤ dg d := by
    have h1 : sm n (fun _ => (-60 : Int)) ≤ sm n (gi d) := yca fun v hv => (h.b v hv).1
    rw [yb1] at h1
    unfold dg
    rw [hl]; omega
  have hk0 := hk.pos
  have hkf := hk.few
  refine ⟨True, fun _ => ?_, fun _ => ⟨fun q => absurd q (by omega), fun _ => ⟨fun q => absurd q (by omega), fun _ => trivial⟩⟩, fun q => absurd trivial q⟩
  rw [List.nil_append]
  have hab : ∀ j, 0 ≤ j → j ≤ 1000 → ∀ u, u < n → -9000 ≤ gi (yc4 d v' j) u ∧ gi (yc4 d v' j) u ≤ 1000000 := fun j h0 h1 u hu => by
    rw [yb5 (by omega)]
    have := h.b u hu
    split <;> omega
  refine ⟨by omega, by omega, i64 (by omega), p_caseWon (d := yc4 d v' k) G (by simp [yc4, hl]) (hab k hk0 (by omega)) fun b hbw => ?_⟩
  have hbt : b = true := hbw.2 ((hk.iff k hk0).2 (Int.le_refl _))
  refine ⟨True, fun _ => ⟨fun _ => ydg rfl, fun hne => ?_⟩, fun _ => ⟨fun _ => trivial, fun q => absurd hbt q⟩, fun q => absurd rfl q⟩
  have e : (d.set v' (gi d v' + k)).set v' (gi (d.set v' (gi d v' + k)) v' - 1) = yc4 d v' (k - 1) := by
    unfold yc4
    rw [ybo (by omega), if_pos rfl, List.set_set]
    congr 1
    omega
  rw [e]
  have e2 : gi (d.set v' (gi d v' + k)) v' = gi d v' + k := by rw [ybo (by omega), if_pos rfl]
  rw [e2]
  refine ⟨by rw [List.length_set]; omega, i64 (by omega), p_caseWon (d := yc4 d v' (k - 1)) G (by simp [yc4, hl]) (hab _ (by omega) (by omega)) fun b hbw => ⟨fun _ => ⟨fun q => ?_, fun _ => ydg rfl⟩, fun q => absurd rfl q⟩⟩
  have := (hk.iff (k - 1) (by omega)).1 (hbw.1 q)
  omega
end Go.Proofs.Ytncilechkclmbaa
