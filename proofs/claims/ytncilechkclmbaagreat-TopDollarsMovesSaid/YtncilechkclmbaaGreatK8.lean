/- Texts laid together: DolS, Can, DolM, DolV. -/
import Derived.Test.YtncilechkclmbaaGreatK7
/- The dollar game: the search for the cheapest scripts; prices. -/
namespace Go.Proofs.YtncilechkclmbaaGreat
open Go Go.Proofs.Tryz
set_option linter.unusedVariables false
set_option linter.unusedSimpArgs false
set_option linter.unusedSectionVars false
theorem ymD {n : Nat} {es : List E3} {d s : List Int} {a b : Int} {R : List Int → Prop} (hl : es.length ≤ 1000) (hg : yat n es = 0) (hdl : d.length = n) (hd : ∀ j, j < n → -1000000000000000 ≤ gi d j ∧ gi d j ≤ 1000000000000000) (hsl : s.length = n) (hs : ∀ j, j < n → -2000000000 ≤ gi s j ∧ gi s j ≤ 2000000000) (h : R (appF n es d s)) : ylD (n : Int) es d a b s R := by
  obtain ⟨hE, hn1, hn12⟩ := yc9 hg
  unfold ylD
  refine ycN (by omega) ?_
  refine ⟨fun m v out => Cnt es.length (fun k => out = appF n (es.take k) d s) m v, Cnt.start (app_start hdl), ?_⟩
  rintro m _ out ⟨k, rfl, rfl, hk, rfl⟩
  simp only [Int.toNat_natCast]
  refine ⟨fun hlt => ⟨by omega, ?_⟩, fun hge => ?_⟩
  · have hlt : k < es.length := by omega
    have hx := hE _ (yiJ hlt)
    have hf := ynS (x := ge es k) (s := gi s) (by omega) (hs _ (by omega)) (hs _ (by omega))
    have ha := hs (ge es k).1.toNat (by omega)
    have hb := hs (ge es k).2.1.toNat (by omega)
    have hal : (appF n (es.take k) d s).length = n := yh9
    have h1 : ∀ j, j < n → gi (appF n (es.take k) d s) j = gi d j - Lp n (es.take k) (gi s) j := fun j hj => yf5 _ hj
    have hbd : ∀ j, j < n → -2000000000000000 ≤ gi (appF n (es.take k) d s) j ∧ gi (appF n (es.take k) d s) j ≤ 2000000000000000 := fun j hj => by
      have := yiH hE hs hj k (by omega)
      have := hd j hj
      rw [h1 j hj]; omega
    have b1 := hbd (ge es k).1.toNat (by omega)
    have b2 := hbd (ge es k).2.1.toNat (by omega)
    refine ⟨by omega, by omega, i64 (by omega), i64 (by omega), by omega, i64 (by omega), by rw [List.length_set]; omega, ?_, Cnt.next hlt (by omega) (edge_step hE hlt)⟩
    rw [ybV (by omega)]
    split
    · exact i64 (by omega)
    · exact i64 (by omega)
  · have hk2 : k = es.length := by omega
    rw [hk2, List.take_length]; exact h
def owF (d : List Int) : Int := sm d.length fun v => - mnF (gi d v) 0
theorem ymX (d : List Int) : 0 ≤ owF d := ya6 fun v _ => by rw [ymf]; omega
theorem ymO {d : List Int} {R : Int → Prop} (hl : d.length ≤ 1000) (hb : ∀ v, v < d.length → -2000000000000000 ≤ gi d v) (h : R (owF d)) : yl0 d R := by
  unfold yl0
  refine ⟨fun m n v => Cnt d.length (fun k => n = sm k (fun v => - mnF (gi d v) 0) ∧ 0 ≤ n ∧ n ≤ 2000000000000000 * k) m v, Cnt.start ⟨rfl, by omega, by omega⟩, ?_⟩
  rintro m n _ ⟨k, rfl, rfl, hk, rfl, h0, h1⟩
  simp only [Int.toNat_natCast]
  refine ⟨fun hlt => ⟨by omega, ?_⟩, fun hge => ?_⟩
  · have := hb k (by omega)
    have hm := ymf (gi d k) 0
    refine ⟨i64 (by omega), Cnt.next (by omega) (by omega) ⟨?_, by omega, by omega⟩⟩
    rw [sm]; omega
  · have : k = d.length := by omega
    subst this; exact h
theorem owF_zero {d : List Int} : owF d = 0 ↔ ∀ v, v < d.length → 0 ≤ gi d v := by
  constructor
  · intro h v hv
    have h1 := ygQ (f := fun v => - mnF (gi d v) 0) (n := d.length) (fun i _ => by show 0 ≤ - mnF (gi d i) 0; rw [ymf]; omega) v hv
    have h2 : - mnF (gi d v) 0 ≤ owF d := h1
    rw [ymf] at h2
    omega
  · intro h
    unfold owF
    rw [yau (g := fun _ => 0) fun v hv => by have := h v hv; rw [ymf]; omega, ycf]
def gmF (n : Nat) (es : List E3) : Nat → Int
  | 0 => 0
  | k + 1 => mxF (gmF n es k) (deg n es k)
theorem ymV (n : Nat) (es : List E3) : ∀ k, 0 ≤ gmF n es k
  | 0 => Int.le_refl _
  | k + 1 => by have := ymV n es k; rw [gmF, yma]; omega
theorem gmF_ge (n : Nat) (es : List E3) : ∀ k v, v < k → deg n es v ≤ gmF n es k
  | k + 1, v, h => by
    rw [gmF, yma]
    by_cases e : v = k
    · subst e; omega
    · have := gmF_ge n es k v (by omega); omega
theorem gmF_le (n : Nat) (es : List E3) {B : Int} (hB : 0 ≤ B) (h : ∀ v, deg n es v ≤ B) : ∀ k, gmF n es k ≤ B
  | 0 => hB
  | k + 1 => by have := gmF_le n es hB h k; have := h k; rw [gmF, yma]; omega
theorem ym1 {n : Nat} {es : List E3} {R : Int → Prop} (hl : es.length ≤ 1000) (hg : yat n es = 0) (h : R (gmF n es n)) : ylR (n : Int) es R := by
  obtain ⟨hE, hn1, hn12⟩ := yc9 hg
  unfold ylR
  refine ⟨fun m b v => Cnt n (fun k => b = gmF n es k) m v, Cnt.start rfl, ?_⟩
  rintro m b _ ⟨k, rfl, rfl, hk, rfl⟩
  refine ⟨fun hlt => ymE hl hg (by omega) (Cnt.next (by omega) (by omega) rfl), fun hge => ?_⟩
  have : k = n := by omega
  subst this; exact h
def bdF (d : List Int) (most : Int) : Int := if most = 0 then 0 else (owF d + most - 1).tdiv most
theorem p_dollar_bound {d : List Int} {most : Int} {R : Int → Prop} (hl : d.length ≤ 12) (hb : ∀ v, v < d.length → -2000000000000000 ≤ gi d v) (hm : 0 ≤ most ∧ most ≤ 1000) (h : R (bdF d most)) : yl2 d most R := by
  unfold yl2
  unfold bdF at h
  refine ⟨fun q => by rwa [if_pos q] at h, fun q => ymO (by omega) hb ?_⟩
  rw [if_neg q] at h
  have h0 := ymX d
  have h1 : owF d ≤ 12 * 2000000000000000 := by
    have h1 : owF d ≤ sm d.length (fun _ => 2000000000000000) := yer fun v hv => by have := hb v hv; show - mnF (gi d v) 0 ≤ _; rw [ymf]; omega
    rw [yeY] at h1
    have : (d.length : Int) * 2000000000000000 ≤ 12 * 2000000000000000 := Int.mul_le_mul_of_nonneg_right (by omega) (by omega)
    omega
  have h2 : 0 ≤ (owF d + most - 1).tdiv most := Int.tdiv_nonneg (by omega) (by omega)
  have h3 : (owF d + most - 1).tdiv most ≤ owF d + most - 1 := Int.tdiv_le_self _ (by omega)
  exact ⟨i64 (by omega), i64 (by omega), q, i64 (by omega), h⟩
theorem bdF_le {d : List Int} {most k : Int} (hm : 0 < most) : bdF d most ≤ k ↔ owF d ≤ k * most := by
  unfold bdF
  have h0 := ymX d
  rw [if_neg (by omega), Int.tdiv_eq_ediv_of_nonneg (by omega)]
  constructor
  · intro h
    have h1 := Int.lt_ediv_add_one_mul_self (owF d + most - 1) hm
    have h2 : ((owF d + most - 1) / most + 1) * most ≤ (k + 1) * most := Int.mul_le_mul_of_nonneg_right (by omega) (by omega)
    rw [Int.add_mul k] at h2
    omega
  · intro h
    have h2 : owF d + most - 1 < (k + 1) * most := by rw [Int.add_mul]; omega
    have := Int.ediv_lt_of_lt_mul hm h2
    omega
theorem p_compare_any {a b : List Int} {R : Int → Prop} (ha : a.length ≤ 1000000000) (h : ∀ c, R c) : ylH a b R := by
  unfold ylH
  refine ⟨fun m v => Cnt a.length (fun _ => True) m v, Cnt.start trivial, ?_⟩
  rintro m _ ⟨k, rfl, rfl, hk, -⟩
  exact ⟨fun hlt => ⟨by omega, fun _ => h _, fun q => ⟨by omega, yiq ⟨fun _ => Cnt.next (by omega) (by omega) trivial, fun _ => h _⟩⟩⟩, fun _ => ⟨fun _ => h _, fun _ => h _⟩⟩
section
variable {n : Nat} {es : List E3} {d : List Int} (hl : es.length ≤ 1000) (hg : yat n es = 0) (hdl : d.length = n) (hd : ∀ j, j < n → -1000000 ≤ gi d j ∧ gi d j ≤ 1000000)
include hl hg hdl hd
theorem app_low {s : List Int} (hs : ∀ j, j < n → -1000000 ≤ gi s j ∧ gi s j ≤ 1000000) : ∀ v, v < (appF n es d s).length → -2000000000000000 ≤ gi (appF n es d s) v := fun v hv => by
  rw [yh9] at hv
  have h1 := Lp_bound (s := s) hg (fun j hj => by have := hs j hj; omega) hv
  have h2 := hd v hv
  have h3 : gi (appF n es d s) v = gi d v - Lp n es (gi s) v := yf5 _ hv
  omega
theorem ynd {l : List (List Int)} {a b : Int} {R : List Int → Prop} (hll : l.length ≤ 1000000) (hs : ∀ s ∈ l, s.length = n ∧ ∀ j, j < n → -1000000 ≤ gi s j ∧ gi s j ≤ 1000000)
    (h0 : (∀ s ∈ l, owF (appF n es d s) ≠ 0) → R []) (h1 : ∀ s ∈ l, owF (appF n es d s) = 0 → R s) : ylI (n : Int) es d a b l R := by
  obtain ⟨hE, hn1, hn12⟩ := yc9 hg
  have hm : ∀ k, k < l.length → gx l k ∈ l := fun k hk => List.mem_of_getElem? (yfn hk)
  unfold ylI
  refine ⟨fun m best v => Cnt l.length (fun k => (best = [] ∧ ∀ j, j < k → owF (appF n es d (gx l j)) ≠ 0) ∨ (best ∈ l ∧ owF (appF n es d best) = 0)) m v, Cnt.start (.inl ⟨rfl, fun j hj => absurd hj (by omega)⟩), ?_⟩
  rintro m best _ ⟨k, rfl, rfl, hk, hinv⟩
  simp only [Int.toNat_natCast]
  refine ⟨fun hlt => ⟨by omega, ?_⟩, fun hge => ?_⟩
  · have hk : k < l.length := by omega
    obtain ⟨h2, h3⟩ := hs _ (hm k hk)
    have hne : gx l k ≠ [] := fun q => by rw [q] at h2; simp at h2; omega
    refine ymD hl hg hdl (fun j hj => by have := hd j hj; omega) h2 (fun j hj => by have := h3 j hj; omega) (ymO (by rw [yh9]; omega) (app_low hl hg hdl hd h3) ⟨fun h4 => ⟨fun _ => ?_, fun _ => p_compare_any (by omega) fun c => ⟨fun _ => ?_, fun hc => ?_⟩⟩, fun h4 => ?_⟩)
    · have := Cnt.next (P := fun k' => (gx l k = [] ∧ ∀ j, j < k' → owF (appF n es d (gx l j)) ≠ 0) ∨ (gx l k ∈ l ∧ owF (appF n es d (gx l k)) = 0)) hk (by omega) (.inr ⟨hm k hk, h4⟩)
      exact ⟨this.1, hne, this.2⟩
    · have := Cnt.next (P := fun k' => (gx l k = [] ∧ ∀ j, j < k' → owF (appF n es d (gx l j)) ≠ 0) ∨ (gx l k ∈ l ∧ owF (appF n es d (gx l k)) = 0)) hk (by omega) (.inr ⟨hm k hk, h4⟩)
      exact ⟨this.1, hne, this.2⟩
    · rename_i hbne
      refine Cnt.next hk (by omega) (.inr ?_)
      rcases hinv with q | q
      · exact absurd q.1 hbne
      · exact q
    · refine Cnt.next hk (by omega) ?_
      rcases hinv with ⟨q, q2⟩ | q
      · refine .inl ⟨q, fun j hj => ?_⟩
        by_cases e : j = k
        · subst e; exact h4
        · exact q2 j (by omega)
      · exact .inr q
  · have : k = l.length := by omega
    subst this
    rcases hinv with ⟨rfl, q⟩ | ⟨q, q2⟩
    · refine h0 fun s hs => ?_
      obtain ⟨j, hj⟩ := List.getElem?_of_mem hs
      have hjl := (List.getElem?_eq_some_iff.1 hj).1
      have := q j hjl
      rw [yfn hjl] at hj
      cases hj
      exact this
    · exact h1 _ q q2
end
def st2 : List Int := [-1, 1]
def stp (s : List Int) (v k : Nat) : List (List Int) := (st2.take k).flatMap fun t => if gi s v * t < 0 then [] else [s.set v (gi s v + t)]
def nbs (n : Nat) (s : List Int) : List (List Int) := (List.range n).flatMap fun v => stp s v 2
theorem stp_next {s : List Int} {v k : Nat} (hk : k < 2) : stp s v (k + 1) = stp s v k ++ if gi s v * gi st2 k < 0 then [] else [s.set v (gi s v + gi st2 k)] := by
  have : k = 0 ∨ k = 1 := by omega
  rcases this with rfl | rfl <;> simp [stp, st2, gi]
theorem stp_mem {s x : List Int} {v : Nat} : x ∈ stp s v 2 ↔ ∃ t : Int, (t = -1 ∨ t = 1) ∧ ¬ gi s v * t < 0 ∧ x = s.set v (gi s v + t) := by
  simp only [stp, st2, List.take, List.mem_flatMap, List.mem_cons, List.not_mem_nil, or_false]
  constructor
  · rintro ⟨t, ht, hx⟩
    refine ⟨t, ht, ?_⟩
    split at hx
    · simp at hx
    · exact ⟨by assumption, by simpa using hx⟩
  · rintro ⟨t, ht, h1, rfl⟩
    exact ⟨t, ht, by rw [if_neg h1]; simp⟩
theorem nbs_mem {n : Nat} {s x : List Int} : x ∈ nbs n s ↔ ∃ v, v < n ∧ ∃ t : Int, (t = -1 ∨ t = 1) ∧ ¬ gi s v * t < 0 ∧ x = s.set v (gi s v + t) := by
  simp only [nbs, List.mem_flatMap, List.mem_range, stp_mem]
structure MI (n : Nat) (ok : List Int → Prop) (C out : List (List Int)) (m : List (List Int × Bool)) : Prop where
  k : KOk 12 m
  seen : ∀ x, x.length = n → ((mget m (keyF x)).getD false = true ↔ x ∈ C)
  out : ∀ x, x ∈ out ↔ x ∈ C ∧ ok x
theorem MI.nil {n : Nat} {ok : List Int → Prop} : MI n ok [] [] [] := ⟨KOk.nil 12, fun x _ => by simp [mget], fun x => by simp⟩
theorem MI.old {n : Nat} {ok : List Int → Prop} {C out : List (List Int)} {m : List (List Int × Bool)} (h : MI n ok C out m) {x : List Int} (hx : x.length = n) (hm : (mget m (keyF x)).getD false = true) : MI n ok (C ++ [x]) out m := by
  have hc := (h.seen x hx).1 hm
  refine ⟨h.k, fun y hy => ?_, fun y => ?_⟩
  · rw [h.seen y hy, List.mem_append, List.mem_singleton]
    exact ⟨.inl, fun q => q.elim id fun q => q ▸ hc⟩
  · rw [h.out, List.mem_append, List.mem_singleton]
    exact ⟨fun q => ⟨.inl q.1, q.2⟩, fun q => ⟨q.1.elim id fun q => q ▸ hc, q.2⟩⟩
theorem MI.new {n : Nat} {ok : List Int → Prop} {C out : List (List Int)} {m : List (List Int × Bool)} (h : MI n ok C out m) (hn : n ≤ 12) {x : List Int} (hx : x.length = n) (hk : yfx 12 (keyF x)) :
    (ok x → MI n ok (C ++ [x]) (out ++ [x]) (mput m (keyF x) true)) ∧ (¬ ok x → MI n ok (C ++ [x]) out (mput m (keyF x) true)) := by
  have hs : ∀ y, y.length = n → ((mget (mput m (keyF x) true) (keyF y)).getD false = true ↔ y ∈ C ++ [x]) := fun y hy => by
    rw [mget_put, List.mem_append, List.mem_singleton]
    by_cases e : keyF x = keyF y
    · rw [if_pos e]; exact ⟨fun _ => .inr (keyF_inj hn hy hx e.symm), fun _ => rfl⟩
    · rw [if_neg e, h.seen y hy]
      exact ⟨.inl, fun q => q.elim id fun q => absurd (q ▸ rfl) e⟩
  refine ⟨fun ho => ⟨h.k.put hk true, hs, fun y => ?_⟩, fun ho => ⟨h.k.put hk true, hs, fun y => ?_⟩⟩
  · rw [List.mem_append, List.mem_append, List.mem_singleton, h.out]
    exact ⟨fun q => q.elim (fun q => ⟨.inl q.1, q.2⟩) fun q => ⟨.inr q, q ▸ ho⟩, fun q => q.1.elim (fun q1 => .inl ⟨q1, q.2⟩) .inr⟩
  · rw [List.mem_append, List.mem_singleton, h.out]
    exact ⟨fun q => ⟨.inl q.1, q.2⟩, fun q => ⟨q.1.elim id fun q1 => absurd (q1 ▸ q.2) ho, q.2⟩⟩
theorem keyF_ok2 {x : List Int} (hx : ∀ v, v < x.length → -1000000000 ≤ gi x v ∧ gi x v ≤ 1000000000) : yfx 12 (keyF x) := by
  refine ⟨ycU x, fun y hy => ?_⟩
  obtain ⟨j, hj⟩ := List.getElem?_of_mem hy
  have hjl := (List.getElem?_eq_some_iff.1 hj).1
  rw [ycU] at hjl
  have e : gi (keyF x) j = y := by unfold gi; rw [List.getD_eq_getElem?_getD, hj]; rfl
  rw [← e, gi_keyF hjl]
  split
  · exact i64 (by have := hx j (by assumption); omega)
  · exact i64 (by omega)
theorem p_dollar_keyed {s : List Int} {R : List Int → Prop} (h0 : 0 < s.length) (h : R (keyF s)) : yl3 s R := by
  unfold yl3
  exact ⟨h0, ycU s, h⟩
theorem ym4 {s : List Int} {R : List Int → Prop} (hl : s.length ≤ 1000000000) (h : R s) : ylJ s R := by
  unfold ylJ
  refine fun b hb => ⟨fun q => ?_, fun _ => ⟨by omega, by simpa using h⟩⟩
  have := hb q
  subst this; exact h
section
variable {n : Nat} {es : List E3} {d : List Int} (hl : es.length ≤ 1000) (hg : yat n es = 0) (hdl : d.length = n) (hd : ∀ j, j < n → -1000000 ≤ gi d j ∧ gi d j ≤ 1000000)
include hl hg hdl hd
theorem p_dollar_more {l : List (List Int)} {most lim a : Int} {R : List (List Int) → Prop} (hll : l.length ≤ 1000000) (hm : 0 ≤ most ∧ most ≤ 1000) (ha : 0 ≤ a ∧ a ≤ 1000) (hs : ∀ s ∈ l, s.length = n ∧ ∀ j, j < n → -100000 ≤ gi s j ∧ gi s j ≤ 100000)
    (h : ∀ out, out.length ≤ 24 * l.length → (∀ x, x ∈ out ↔ (∃ s ∈ l, x ∈ nbs n s) ∧ a + 1 + bdF (appF n es d x) most ≤ lim) → R out) : ylM (n : Int) es d most lim l a R := by
  obtain ⟨hE, hn1, hn12⟩ := yc9 hg
  have hmem : ∀ k, k < l.length → gx l k ∈ l := fun k hk => List.mem_of_getElem? (yfn hk)
  obtain ⟨ok, hok⟩ : ∃ ok : List Int → Prop, ok = fun x => a + 1 + bdF (appF n es d x) most ≤ lim := ⟨_, rfl⟩
  unfold ylM
  refine ⟨fun m v v2 v3 => Cnt l.length (fun k => MI n ok ((l.take k).flatMap (nbs n)) v v3 ∧ v.length ≤ 24 * k) m v2, Cnt.start ⟨MI.nil, by simp⟩, ?_⟩
  rintro m v _ v3 ⟨k, rfl, rfl, hk, hM, hlen⟩
  simp only [Int.toNat_natCast]
  refine ⟨fun hlt => ⟨by omega, ?_⟩, fun hge => ?_⟩
  · have hk : k < l.length := by omega
    obtain ⟨h2, h3⟩ := hs _ (hmem k hk)
    rw [h2]
    refine ⟨fun m v4 v5 v6 => Cnt n (fun j => MI n ok ((l.take k).flatMap (nbs n) ++ (List.range j).flatMap fun v => stp (gx l k) v 2) v4 v6 ∧ v4.length ≤ 24 * k + 2 * j) m v5, Cnt.start ⟨by simpa using hM, by omega⟩, ?_⟩
    rintro m3 v4 _ v6 ⟨j, rfl, rfl, hj, hM3, hlen3⟩
    simp only [Int.toNat_natCast]
    refine ⟨fun hlt3 => ⟨by omega, ?_⟩, fun hge3 => ?_⟩
    · have hj : j < n := by omega
      refine ⟨fun m v7 v8 v9 => Cnt 2 (fun t => MI n ok (((l.take k).flatMap (nbs n) ++ (List.range j).flatMap fun v => stp (gx l k) v 2) ++ stp (gx l k) j t) v7 v9 ∧ v7.length ≤ 24 * k + 2 * j + t) m v8, Cnt.start ⟨by simpa [stp] using hM3, by omega⟩, ?_⟩
      rintro m4 v7 _ v9 ⟨t, rfl, rfl, ht, hM4, hlen4⟩
      simp only [Int.toNat_natCast]
      refine ⟨fun hlt4 => ⟨by omega, ?_⟩, fun hge4 => ?_⟩
      · have ht : t < 2 := by omega
        have hst : gi ([-1, 1] : List Int) t = -1 ∨ gi ([-1, 1] : List Int) t = 1 := by
          have : t = 0 ∨ t = 1 := by omega
          rcases this with rfl | rfl
          · left; rfl
          · right; rfl
        have h3j := h3 j hj
        have hnx : stp (gx l k) j (t + 1) = stp (gx l k) j t ++ if gi (gx l k) j * gi [-1, 1] t < 0 then [] else [(gx l k).set j (gi (gx l k) j + gi [-1, 1] t)] := stp_next ht
        have ePr : In64 (gi (gx l k) j * gi [-1, 1] t) := by rcases hst with e | e <;> rw [e] <;> exact i64 (by omega)
        refine ⟨ePr, fun hneg => Cnt.next (by omega) (by omega) ⟨?_, by omega⟩, fun hnn => ym4 (by omega) ⟨by omega, i64 (by omega), ?_⟩⟩
        · rw [hnx, if_pos hneg, List.append_nil]; exact hM4
        · obtain ⟨x, hx⟩ : ∃ x, (gx l k).set j (gi (gx l k) j + gi [-1, 1] t) = x := ⟨_, rfl⟩
          rw [hx]
          have hxl : x.length = n := by rw [← hx, List.length_set]; exact h2
          have hxb : ∀ i, i < n → -1000000 ≤ gi x i ∧ gi x i ≤ 1000000 := fun i hi => by
            rw [← hx, ybV (by omega)]
            have := h3 i hi
            split <;> omega
          have hnx2 : stp (gx l k) j (t + 1) = stp (gx l k) j t ++ [x] := by rw [hnx, if_neg hnn, hx]
          have hko : yfx 12 (keyF x) := keyF_ok2 fun i hi => by have := hxb i (by omega); omega
          refine p_dollar_keyed (by omega) ⟨ycU x, hM4.k, hko, fun hse => Cnt.next (by omega) (by omega) ⟨?_, by omega⟩, fun hns => ⟨i64 (by omega), ymD hl hg hdl (fun i hi => by have := hd i hi; omega) hxl (fun i hi => by have := hxb i hi; omega) (p_dollar_bound (by rw [yh9]; omega) (app_low hl hg hdl hd hxb) hm ?_)⟩⟩
          · rw [hnx2, ← List.append_assoc]; exact hM4.old hxl hse
          · have hN := hM4.new hn12 hxl hko
            have hb0 : 0 ≤ bdF (appF n es d x) most ∧ bdF (appF n es d x) most ≤ 1000000000000000000 := by
              have h0 := ymX (appF n es d x)
              have h1 : owF (appF n es d x) ≤ 12 * 2000000000000000 := by
                have hal := app_low hl hg hdl hd hxb
                have h1 : owF (appF n es d x) ≤ sm (appF n es d x).length (fun _ => 2000000000000000) := yer fun v hv => by have := hal v hv; show - mnF (gi _ v) 0 ≤ _; rw [ymf]; omega
                rw [yeY, yh9] at h1
                have : (n : Int) * 2000000000000000 ≤ 12 * 2000000000000000 := Int.mul_le_mul_of_nonneg_right (by omega) (by omega)
                omega
              unfold bdF
              split
              · omega
              · have := Int.tdiv_nonneg (a := owF (appF n es d x) + most - 1) (b := most) (by omega) (by omega)
                have := Int.tdiv_le_self (a := owF (appF n es d x) + most - 1) most (by omega)
                omega
            refine ⟨i64 (by omega), fun hle => ⟨by omega, Cnt.next (by omega) (by omega) ⟨?_, by simp; omega⟩⟩, fun hgt => Cnt.next (by omega) (by omega) ⟨?_, by omega⟩⟩
            · rw [hnx2, ← List.append_assoc]; exact hN.1 (by rw [hok]; exact hle)
            · rw [hnx2, ← List.append_assoc]; exact hN.2 (by rw [hok]; exact hgt)
      · have : t = 2 := by omega
        subst this
        refine Cnt.next (by omega) (by omega) ⟨?_, by omega⟩
        rw [List.range_succ, List.flatMap_append, ← List.append_assoc]
        simpa using hM4
    · have : j = n := by omega
      subst this
      refine Cnt.next (by omega) (by omega) ⟨?_, by omega⟩
      rw [List.take_add_one, List.getElem?_eq_getElem hk, List.flatMap_append]
      have e : l[k] = gx l k := by have := yfn hk; rw [List.getElem?_eq_getElem hk] at this; exact Option.some.inj this
      rw [e]
      simpa [nbs] using hM3
  · have : k = l.length := by omega
    subst this
    rw [List.take_length] at hM
    refine h v hlen fun x => ?_
    rw [hM.out, List.mem_flatMap, hok]
end
def coF (n : Nat) (s : List Int) : Int := sm n fun v => mxF (gi s v) (- gi s v)
theorem coF_at {n : Nat} {s : List Int} {v : Nat} (hv : v < n) : - coF n s ≤ gi s v ∧ gi s v ≤ coF n s := by
  have h1 := ygQ (f := fun v => mxF (gi s v) (- gi s v)) (n := n) (fun i _ => by show 0 ≤ mxF _ _; rw [yma]; omega) v hv
  have h1 : mxF (gi s v) (- gi s v) ≤ coF n s := h1
  rw [yma] at h1; omega
theorem coF_nonneg (n : Nat) (s : List Int) : 0 ≤ coF n s := ya6 fun i _ => by rw [yma]; omega
theorem sm_upd {n : Nat} {f g : Nat → Int} {v : Nat} (hv : v < n) {c : Int} (h : ∀ u, u < n → g u = f u + if u = v then c else 0) : sm n g = sm n f + c := by
  rw [yau h, ycF, yeI c hv]
theorem coF_set {n : Nat} {s : List Int} (hs : s.length = n) {v : Nat} (hv : v < n) {t : Int} (ht : t = -1 ∨ t = 1) (h : ¬ gi s v * t < 0) : coF n (s.set v (gi s v + t)) = coF n s + 1 := by
  refine sm_upd hv fun u hu => ?_
  rw [ybV (by omega)]
  by_cases e : u = v
  · subst e
    rw [if_pos rfl, if_pos rfl, yma, yma]
    rcases ht with rfl | rfl <;> omega
  · rw [if_neg e, if_neg e]; omega
theorem coF_zero {n : Nat} {s : List Int} (hs : s.length = n) (h : coF n s = 0) : s = List.replicate n 0 := by
  refine yfe (by simpa using hs) fun i hi => ?_
  have := coF_at (s := s) (v := i) (n := n) (by omega)
  rw [ymY (by omega)]; omega
theorem coF_rep (n : Nat) : coF n (List.replicate n 0) = 0 := by
  unfold coF
  rw [yau (g := fun _ => 0) fun v hv => by rw [ymY hv]; rfl, ycf]
theorem coF_some {n : Nat} {s : List Int} (h : coF n s ≠ 0) : ∃ v, v < n ∧ gi s v ≠ 0 := by
  apply Classical.byContradiction
  intro hn
  refine h ?_
  unfold coF
  rw [yau (g := fun _ => 0) fun v hv => ?_, ycf]
  have : gi s v = 0 := Classical.byContradiction fun q => hn ⟨v, hv, q⟩
  rw [this]; rfl
theorem owF_move {n : Nat} {es : List E3} (hE : EOk n es) {d s : List Int} (hs : s.length = n) {v : Nat} (hv : v < n) {t : Int} (ht : t = -1 ∨ t = 1) : owF (appF n es d (s.set v (gi s v + t))) ≤ owF (appF n es d s) + deg n es v := by
  unfold owF
  rw [yh9, yh9]
  have hg : ∀ (x : List Int) u, u < n → gi (appF n es d x) u = gi d u - Lp n es (gi x) u := fun x u hu => yf5 _ hu
  have hdeg : 0 ≤ deg n es v := ya6 fun u _ => ybq hE v u
  have e : deg n es v = sm n (fun u => W es u v) := yau fun u _ => yfK es v u
  rcases ht with rfl | rfl
  · rw [e, ← ycF]
    refine yer fun u hu => ?_
    rw [hg _ u hu, hg _ u hu, Lp_less hs hv (-1) hu, ymf, ymf]
    have hw := ybq hE u v
    split
    · omega
    · omega
  · rw [← yeI (deg n es v) hv, ← ycF]
    refine yer fun u hu => ?_
    rw [hg _ u hu, hg _ u hu, Lp_less hs hv 1 hu, ymf, ymf]
    have hw := ybq hE u v
    split
    · subst_vars; omega
    · omega
def Lay (n : Nat) (es : List E3) (d : List Int) (lim : Int) (k : Nat) (l : List (List Int)) : Prop := ∀ x, x ∈ l ↔ x.length = n ∧ coF n x = k ∧ (k = 0 ∨ (k : Int) + bdF (appF n es d x) (gmF n es n) ≤ lim)
theorem Lay.start {n : Nat} {es : List E3} {d : List Int} {lim : Int} : Lay n es d lim 0 [List.replicate n 0] := fun x => by
  rw [List.mem_singleton]
  exact ⟨fun h => by subst h; exact ⟨by simp, coF_rep n, .inl rfl⟩, fun ⟨h1, h2, _⟩ => coF_zero h1 h2⟩
theorem bdF_zero {d : List Int} {most : Int} (hm : 0 ≤ most) (h : owF d = 0) : bdF d most ≤ 0 := by
  by_cases e : most = 0
  · unfold bdF; rw [if_pos e]; omega
  · rw [bdF_le (by omega)]; omega
theorem Lay.next {n : Nat} {es : List E3} (hE : EOk n es) {d : List Int} {lim : Int} {k : Nat} {l out : List (List Int)} (h : Lay n es d lim k l) (ho : ∀ x, x ∈ out ↔ (∃ s ∈ l, x ∈ nbs n s) ∧ (k : Int) + 1 + bdF (appF n es d x) (gmF n es n) ≤ lim) : Lay n es d lim (k + 1) out := fun x => by
  rw [ho]
  constructor
  · rintro ⟨⟨s, hs, hx⟩, hb⟩
    obtain ⟨h1, h2, _⟩ := (h s).1 hs
    obtain ⟨v, hv, t, ht, hn, rfl⟩ := nbs_mem.1 hx
    refine ⟨by simpa using h1, by rw [coF_set h1 hv ht hn, h2]; omega, .inr (by omega)⟩
  · rintro ⟨h1, h2, h3⟩
    have h3 : (k : Int) + 1 + bdF (appF n es d x) (gmF n es n) ≤ lim := by omega
    refine ⟨?_, h3⟩
    obtain ⟨v, hv, hne⟩ := coF_some (n := n) (s := x) (by omega)
    obtain ⟨t, ht, hsg⟩ : ∃ t : Int, (t = -1 ∨ t = 1) ∧ ((t = -1 ∧ gi x v ≤ -1) ∨ (t = 1 ∧ 1 ≤ gi x v)) := by
      by_cases q : gi x v < 0
      · exact ⟨-1, .inl rfl, .inl ⟨rfl, by omega⟩⟩
      · exact ⟨1, .inr rfl, .inr ⟨rfl, by omega⟩⟩
    have hsl : (x.set v (gi x v + -t)).length = n := by simpa using h1
    have hsv : gi (x.set v (gi x v + -t)) v = gi x v + -t := by rw [ybV (by omega), if_pos rfl]
    have hxe : x = (x.set v (gi x v + -t)).set v (gi (x.set v (gi x v + -t)) v + t) := by
      rw [hsv, List.set_set]
      refine yfe (by simp) fun i hi => ?_
      rw [ybV (by omega)]
      split
      · subst_vars; omega
      · rfl
    have hnn : ¬ gi (x.set v (gi x v + -t)) v * t < 0 := by
      rw [hsv]; rcases hsg with ⟨rfl, q⟩ | ⟨rfl, q⟩ <;> omega
    refine ⟨_, (h _).2 ⟨hsl, ?_, ?_⟩, nbs_mem.2 ⟨v, hv, t, ht, hnn, hxe⟩⟩
    · have := coF_set hsl hv ht hnn
      rw [← hxe] at this; omega
    · by_cases hk : k = 0
      · exact .inl hk
      · right
        have hm := ymV n es n
        by_cases e : gmF n es n = 0
        · unfold bdF at h3 ⊢
          rw [if_pos e] at h3 ⊢; omega
        · have hb : bdF (appF n es d (x.set v (gi x v + -t))) (gmF n es n) ≤ bdF (appF n es d x) (gmF n es n) + 1 := by
            rw [bdF_le (by omega), Int.add_mul]
            have h4 := (bdF_le (d := appF n es d x) (most := gmF n es n) (by omega)).1 (Int.le_refl _)
            have h5 := owF_move hE (d := d) (s := x) h1 hv (t := -t) (by omega)
            have h6 := gmF_ge n es n v hv
            omega
          omega
def Wins (n : Nat) (es : List E3) (d s : List Int) : Prop := s.length = n ∧ ∀ v, v < n → 0 ≤ gi d v - Lp n es (gi s) v
theorem wins_owF {n : Nat} {es : List E3} {d s : List Int} (hs : s.length = n) : owF (appF n es d s) = 0 ↔ Wins n es d s := by
  rw [owF_zero, yh9]
  exact ⟨fun h => ⟨hs, fun v hv => by have := h v hv; rwa [appF, yf5 _ hv] at this⟩, fun h v hv => by rw [appF, yf5 _ hv]; exact h.2 v hv⟩
theorem wins_win {n : Nat} {es : List E3} {d s : List Int} (h : Wins n es d s) : Win n es d := ⟨gi s, h.2⟩
theorem ynL {n : Nat} {es : List E3} {d : List Int} {a : Int} {R : List Int → Int → Int → Prop} (hS : Small (n : Int) es d) (hgv : yaD (n : Int) es 0 d = 0) (hdl : d.length = n) (ha : 0 ≤ a ∧ a ≤ 4)
    (h0 : ¬ Win n es d → R [] 0 6) (h1 : ∀ r (k : Nat), (k : Int) ≤ a → coF n r = k → Wins n es d r → (∀ s, Wins n es d s → k ≤ coF n s) → R r k 0) (h2 : (∀ s, Wins n es d s → a < coF n s) → R [] 0 12) : ylT (n : Int) es d a R := by
  have hel := hS.el
  obtain ⟨hg, hc, -, -, hck⟩ := yb7 hgv
  obtain ⟨hE, hn1, hn12⟩ := yc9 hg
  have hdb := fun v (hv : v < n) => hS.d hck v (by omega)
  unfold ylT
  refine ymI (by omega) ⟨fun _ => ?_, fun q => absurd hgv q⟩
  refine ⟨True, fun _ => ?_, fun q => by omega, fun _ => ⟨fun q => by omega, fun _ => trivial⟩⟩
  refine ye3 (.inl hS) (by omega) (fun q => absurd hgv q) fun _ r s hr b hb => ⟨fun _ => ⟨fun hbt => ?_, fun hbf => h0 fun q => hbf (hb.2 (by rwa [Int.toNat_natCast]))⟩, fun q => absurd rfl q⟩
  refine ym1 (by omega) hg ⟨by omega, ?_⟩
  simp only [Int.toNat_natCast]
  have hm := ymV n es n
  have hm2 : gmF n es n ≤ 600 := gmF_le n es (by omega) (fun v => (deg_le hg hn12 v).2) n
  refine ⟨fun m v v2 => ∃ k : Nat, v2 = (k : Int) ∧ m = 6 - k ∧ (k : Int) ≤ a + 1 ∧ Lay n es d a k v ∧ v.length ≤ 24 ^ k ∧ ∀ s, Wins n es d s → k ≤ coF n s, ⟨_, 0, rfl, rfl, by omega, Lay.start, by simp, fun s _ => coF_nonneg n s⟩, ?_⟩
  rintro m v _ ⟨k, rfl, rfl, hk, hL, hlen, hmin⟩
  refine ⟨fun hle => ?_, fun hgt => h2 fun s hs => by have := hmin s hs; omega⟩
  have hpow : 24 ^ k ≤ 24 ^ 4 := Nat.pow_le_pow_right (by omega) (by omega)
  have hpow2 : (24 : Nat) ^ 4 = 331776 := by decide
  have hsb : ∀ s ∈ v, s.length = n ∧ ∀ j, j < n → -100 ≤ gi s j ∧ gi s j ≤ 100 := fun s hs => by
    obtain ⟨q1, q2, _⟩ := (hL s).1 hs
    refine ⟨q1, fun j hj => ?_⟩
    have := coF_at (s := s) hj
    omega
  refine ynd (by omega) hg hdl (fun j hj => by have := hdb j hj; omega) (by omega) (fun s hs => ⟨(hsb s hs).1, fun j hj => by have := (hsb s hs).2 j hj; omega⟩) (fun hno => ⟨fun _ => ?_, fun q => absurd rfl q⟩) (fun s hs how => ?_)
  · refine p_dollar_more (by omega) hg hdl (fun j hj => by have := hdb j hj; omega) (by omega) ⟨hm, by omega⟩ (by omega) (fun s hs => ⟨(hsb s hs).1, fun j hj => by have := (hsb s hs).2 j hj; omega⟩) fun out hol hom => ?_
    refine ⟨i64 (by omega), 6 - (k + 1), by omega, k + 1, by simp, rfl, by omega, hL.next hE hom, by rw [Nat.pow_succ]; omega, fun s hs => ?_⟩
    have h3 := hmin s hs
    apply Classical.byContradiction
    intro hlt
    have hce : coF n s = k := by omega
    have how := (wins_owF hs.1).2 hs
    have hb0 := bdF_zero hm how
    exact hno s ((hL s).2 ⟨hs.1, hce, .inr (by omega)⟩) how
  · obtain ⟨q1, q2, _⟩ := (hL s).1 hs
    have hw := (wins_owF q1).1 how
    refine ⟨fun q => ?_, fun _ => h1 s k (by omega) q2 hw hmin⟩
    rw [q] at q1
    simp at q1
    omega
def tri3 : List E3 := [(0, 1, 1), (0, 2, 1), (1, 2, 1)]
theorem ynj : GOk 3 tri3 := ⟨by decide, by decide, by decide, by decide, by decide, by decide⟩
theorem tri3_small {d : List Int} (hd : d.length = 3) (hb : ∀ v, v < 3 → -200 ≤ gi d v ∧ gi d v ≤ 200) : Small ((3 : Nat) : Int) tri3 d := ynj.small hb
theorem p_slices_order {a b : List Int} {R : Int → Prop} (h : a.length = b.length) (hl : a.length ≤ 1000000) (e : a = b) (h0 : R 0) : ymc a b R := by
  subst e
  unfold ymc
  refine ⟨fun m v => Cnt a.length (fun _ => True) m v, Cnt.start trivial, ?_⟩
  rintro m _ ⟨k, rfl, rfl, hk, -⟩
  exact ⟨fun hlt => ⟨by omega, by omega, fun q => by omega, fun _ => ⟨fun q => by omega, fun _ => Cnt.next (by omega) (by omega) trivial⟩⟩, fun _ => h0⟩
theorem p_sameScripts {a b : List Int} {R : Bool → Prop} (hl : a.length ≤ 1000000) (e : a = b) (h0 : R true) : ylS a b R := by
  subst e
  unfold ylS ymx
  exact ⟨fun _ => p_slices_order rfl hl rfl (by rw [decide_eq_true rfl]; exact h0), fun q => absurd rfl q⟩
theorem tri3_lost : ¬ Win 3 tri3 [-1, 0, 1] := yjv ynj 0 (by decide) (by decide) (by decide) (by decide)
theorem ymd {R : Bool → Prop} (h : R true) : ylA R := by
  unfold ylA ylN
  have gv : ∀ d : List Int, d.length = 3 → (∀ v, v < 3 → -200 ≤ gi d v ∧ gi d v ≤ 200) → yaD ((3 : Nat) : Int) tri3 0 d = 0 := fun d hd hb => ynj.giv hd fun v hv => by have := hb v hv; omega
  have hw : Wins 3 tri3 [-1, 0, 2] [0, 0, 1] := ⟨rfl, by decide⟩
  have hc1 : coF 3 [0, 0, 1] = 1 := by decide
  show ylT ((3 : Nat) : Int) tri3 [-1, 0, 2] 2 _
  refine ynL (tri3_small rfl (by decide)) (gv _ rfl (by decide)) rfl (by omega) (fun q => absurd (wins_win hw) q) (fun r k hk hc hr hmin => ?_) (fun q => by have := q _ hw; omega)
  have hk1 : k = 1 := by
    have h1 := hmin _ hw
    have : k = 0 ∨ k = 1 := by omega
    rcases this with rfl | q
    · have h2 := coF_zero hr.1 hc
      have h3 := hr.2 0 (by omega)
      rw [h2] at h3
      exact absurd h3 (by decide)
    · exact q
  subst hk1
  have hr1 : r = [0, 0, 1] := by
    obtain ⟨x, y, z, rfl⟩ : ∃ x y z, r = [x, y, z] := by
      have := hr.1
      match r, this with
      | [x, y, z], _ => exact ⟨x, y, z, rfl⟩
    have h0 := hr.2 0 (by omega)
    have h1 := hr.2 1 (by omega)
    have h2 := hr.2 2 (by omega)
    have w01 : W tri3 0 1 = 1 := by decide
    have w02 : W tri3 0 2 = 1 := by decide
    have w12 : W tri3 1 2 = 1 := by decide
    have w10 : W tri3 1 0 = 1 := by decide
    have w20 : W tri3 2 0 = 1 := by decide
    have w21 : W tri3 2 1 = 1 := by decide
    have w00 : W tri3 0 0 = 0 := by decide
    have w11 : W tri3 1 1 = 0 := by decide
    have w22 : W tri3 2 2 = 0 := by decide
    simp only [Lp, sm, w01, w02, w12, w10, w20, w21, w00, w11, w22, gi, List.getD_cons_zero, List.getD_cons_succ] at h0 h1 h2
    simp only [coF, sm, yma, gi, List.getD_cons_zero, List.getD_cons_succ] at hc
    have : x = 0 ∧ y = 0 ∧ z = 1 := by omega
    obtain ⟨rfl, rfl, rfl⟩ := this
    rfl
  subst hr1
  show ylO ((3 : Nat) : Int) tri3 [-1, 0, 1] [0] _
  refine ymC ynj rfl (by decide) fun b s hb => ?_
  have hbf : ¬ b = true := fun q => tri3_lost (hb.1 q)
  show yiZ ((3 : Nat) : Int) tri3 [-1, 0, 1] _
  refine yjU (by decide) (fun q => absurd (gv _ rfl (by decide)) q) fun _ => ⟨by simpa using ynj, by decide, by decide, fun k hk => ?_⟩
  have hk1 := hk.lo
  have hk2 : k = -1 := by
    have := mt (hk.win (by decide)).1 tri3_lost
    omega
  subst hk2
  refine ⟨i64 (by omega), i64 (by omega), fun _ => ⟨fun _ => ⟨fun q => absurd q hbf, fun _ => ⟨fun _ => p_sameScripts (by decide) rfl h, fun q => absurd rfl q⟩⟩, fun q => absurd rfl q⟩, fun q => absurd rfl q⟩
theorem p_r08_FewRanks {n : Int} {es : List E3} {R : Bool → Prop} (h : R (ynl n es 5 7)) : ydr n es R := p_r08_small h
theorem p_r17_Small {d : List Int} {R : Bool → Prop} (hl : d.length ≤ 1000000000) (h1 : (∀ v, v < d.length → -60 ≤ gi d v ∧ gi d v ≤ 60) → R true) (h2 : R false) : ymb d R := by
  unfold ymb
  refine ⟨fun m v => Cnt d.length (fun k => ∀ v, v < k → -60 ≤ gi d v ∧ gi d v ≤ 60) m v, Cnt.start fun v hv => absurd hv (by omega), ?_⟩
  rintro m _ ⟨k, rfl, rfl, hk, hb⟩
  simp only [Int.toNat_natCast]
  refine ⟨fun hlt => ⟨by omega, fun _ => h2, fun q1 => ⟨fun _ => h2, fun q2 => Cnt.next (by omega) (by omega) fun v hv => ?_⟩⟩, fun hge => ?_⟩
  · by_cases e : v = k
    · subst e; omega
    · exact hb v (by omega)
  · have : k = d.length := by omega
    subst this; exact h1 hb
theorem smallF_get {n : Int} {es : List E3} {a b : Int} (h : ynl n es a b = true) : es.length ≤ 40 ∧ (yat n es = 0 → n ≤ a ∧ (es.map (·.2.2)).sum ≤ b) := of_decide_eq_true h
structure DolOk (n : Nat) (es : List E3) (d : List Int) : Prop where
  G : GOk n es
  s7 : (es.map (·.2.2)).sum ≤ 7
  g : yaD n es 0 d = 0
  l : d.length = n
  b : ∀ v, v < n → -60 ≤ gi d v ∧ gi d v ≤ 60
theorem dol_of {n : Int} {es : List E3} {d : List Int} (hf : ynl n es 5 7 = true) (hg : yaD n es 0 d = 0) (hb : ∀ v, v < d.length → -60 ≤ gi d v ∧ gi d v ≤ 60) : ∃ n' : Nat, n = n' ∧ DolOk n' es d := by
  obtain ⟨hel, h2⟩ := smallF_get hf
  obtain ⟨k1, k2, k3, k4, k5⟩ := yb7 hg
  obtain ⟨h3, h4⟩ := h2 k1
  obtain ⟨n, rfl⟩ : ∃ n' : Nat, n = (n' : Int) := ⟨n.toNat, by omega⟩
  obtain ⟨hE, hn1, hn12, -, -, -, hd, -⟩ := ydT (q := 0) hg
  exact ⟨n, rfl, ⟨k1, k2, hel, hn1, by omega, by omega⟩, h4, hg, hd, fun v hv => hb v (by omega)⟩
end Go.Proofs.YtncilechkclmbaaGreat

/- The canonical divisor. -/
namespace Go.Proofs.YtncilechkclmbaaGreat
open Go Go.Proofs.Tryz
set_option linter.unusedVariables false
set_option linter.unusedSimpArgs false
end Go.Proofs.YtncilechkclmbaaGreat

/- The dollar game and its mirror. -/
namespace Go.Proofs.YtncilechkclmbaaGreat
open Go Go.Proofs.Tryz
set_option linter.unusedVariables false
set_option linter.unusedSimpArgs false
end Go.Proofs.YtncilechkclmbaaGreat

/- The dollar game: the moves of a solution. -/
namespace Go.Proofs.YtncilechkclmbaaGreat
open Go Go.Proofs.Tryz
set_option linter.unusedVariables false
set_option linter.unusedSimpArgs false
theorem p_mul64 {x y : Int} {R : Int → Int → Prop} (hx : 0 ≤ x ∧ x ≤ 65535) (hy : 0 ≤ y ∧ y ≤ 65535) (h : R 0 (x * y)) : ynt x y R := by
  unfold ynt ynv
  have e1 := and32 hx.1 hx.2
  have e2 := and32 hy.1 hy.2
  have hxy0 : 0 ≤ x * y := Int.mul_nonneg hx.1 hy.1
  have hxy1 : x * y ≤ 65535 * 65535 := Int.mul_le_mul hx.2 hy.2 hy.1 (by omega)
  have p32 : (2 : Int) ^ (32 : Int).toNat = 4294967296 := rfl
  have e3 : x / 4294967296 = 0 := by omega
  have e4 : y / 4294967296 = 0 := by omega
  have e5 : x * y / 4294967296 = 0 := by omega
  have e6 := and32 (x := 0) (by omega) (by omega)
  simp only [e1, e2, p32, e3, e4, e5, Int.zero_mul, Int.mul_zero, Int.add_zero, Int.zero_add, e6]
  have z : InK .u64 0 := inU64 (by omega) (by omega)
  have zz : (0 : Int) / 4294967296 = 0 := by omega
  simp only [zz, Int.add_zero, Int.zero_add]
  exact ⟨by omega, by omega, by omega, inU64 (by omega) (by omega), z, z, by omega, z, z, z, z, z, inU64 (by omega) (by omega), h⟩
theorem ovr_rep {τ : Type} {K j i : Nat} (hj : j ≤ K) (a z : τ) : ovr j (List.replicate j a ++ List.replicate (K - j) z) (List.replicate i a) = List.replicate (j + min i (K - j)) a ++ List.replicate (K - (j + min i (K - j))) z := by
  unfold ovr
  rw [List.take_left' (by simp), List.drop_append, List.length_append, List.length_replicate, List.length_replicate, List.length_replicate, List.drop_replicate, List.drop_replicate, List.take_replicate, List.replicate_append_replicate, show j - (j + i) = 0 by omega, List.replicate_zero, List.nil_append]
  congr 1
  · congr 1; omega
  · congr 1; omega
theorem p_repeat {mv : Int × Bool} {k : Int} {R : List (Int × Bool) → Prop} (hk : 0 ≤ k ∧ k ≤ 1000) (h : R (List.replicate k.toNat mv)) : yno [mv] k R := by
  obtain ⟨K, rfl⟩ : ∃ K : Nat, k = (K : Int) := ⟨k.toNat, by omega⟩
  unfold yno
  have e1 : ((([mv] : List (Int × Bool)).length : Nat) : Int) = 1 := rfl
  rw [e1]
  refine ⟨True, fun _ => ⟨inU64 (by omega) (by omega), inU64 (by omega) (by omega), p_mul64 (by omega) (by omega) ⟨True, fun _ => ?_, fun q => absurd q (by omega), fun _ => ⟨fun q => absurd q (by omega), fun _ => trivial⟩⟩⟩, fun q => absurd q (by omega), fun _ => trivial⟩
  rw [Int.one_mul]
  simp only [Int.toNat_natCast] at h ⊢
  refine ⟨i64 (by omega), by omega, by simp, by omega, ?_⟩
  refine ⟨fun m n ns => ∃ j : Nat, m = K - j ∧ n = (j : Int) ∧ j ≤ K ∧ (0 < K → 0 < j) ∧ ns = List.replicate j mv ++ List.replicate (K - j) ((0 : Int), false), ⟨K - min 1 K, min 1 K, rfl, by simp, by omega, by omega, ?_⟩, ?_⟩
  · have := ovr_rep (K := K) (j := 0) (i := 1) (by omega) mv ((0 : Int), false)
    simp only [List.replicate_zero, List.nil_append, Nat.sub_zero, Nat.zero_add] at this
    exact this
  rintro m _ _ ⟨j, rfl, rfl, hj, h0, rfl⟩
  have el : (List.replicate j mv ++ List.replicate (K - j) ((0 : Int), false)).length = K := by simp; omega
  have et : (List.replicate j mv ++ List.replicate (K - j) ((0 : Int), false)).take j = List.replicate j mv := List.take_left' (by simp)
  simp only [Int.toNat_natCast]
  rw [el, et, List.length_replicate]
  refine ⟨fun hlt => ⟨by omega, by omega, by omega, i64 (by omega), K - (j + min j (K - j)), by omega, j + min j (K - j), rfl, by omega, by omega, by omega, ovr_rep hj mv _⟩, fun hge => ?_⟩
  have : j = K := by omega
  subst this
  simpa using h
def mval (m : Int × Bool) (v : Nat) : Int := if m.1 = (v : Int) then (if m.2 = true then -1 else 1) else 0
def msum (l : List (Int × Bool)) (v : Nat) : Int := (l.map fun m => mval m v).sum
theorem ynB (a b : List (Int × Bool)) (v : Nat) : msum (a ++ b) v = msum a v + msum b v := by unfold msum; rw [List.map_append, List.sum_append]
theorem msum_rep (m : Int × Bool) (v : Nat) : ∀ k : Nat, msum (List.replicate k m) v = k * mval m v
  | 0 => by simp [msum]
  | k + 1 => by
    rw [List.replicate_succ, show m :: List.replicate k m = [m] ++ List.replicate k m from rfl, ynB, msum_rep m v k]
    unfold msum
    simp [Int.add_mul]; omega
theorem mval_bound (m : Int × Bool) (v : Nat) : -1 ≤ mval m v ∧ mval m v ≤ 1 := by
  unfold mval
  split
  · split <;> omega
  · omega
theorem ynG (v : Nat) : ∀ l : List (Int × Bool), -(l.length : Int) ≤ msum l v ∧ msum l v ≤ l.length
  | [] => by simp [msum]
  | m :: l => by
    have h1 := ynG v l
    have h2 := mval_bound m v
    have h3 : msum (m :: l) v = mval m v + msum l v := by simp [msum]
    rw [h3, List.length_cons]; omega
def mvF (s : List Int) : Nat → List (Int × Bool)
  | 0 => []
  | k + 1 => mvF s k ++ List.replicate (mxF (gi s k) (- gi s k)).toNat ((k : Int), decide (gi s k < 0))
theorem mvF_sum (s : List Int) (v : Nat) : ∀ k, msum (mvF s k) v = if v < k then gi s v else 0
  | 0 => by simp [mvF, msum]
  | k + 1 => by
    rw [mvF, ynB, mvF_sum s v k, msum_rep]
    by_cases e : v = k
    · subst e
      have h1 : mval ((v : Int), decide (gi s v < 0)) v = if gi s v < 0 then -1 else 1 := by unfold mval; simp
      rw [h1, if_neg (Nat.lt_irrefl v), if_pos (Nat.lt_succ_self v), yma]
      split <;> omega
    · have h1 : mval ((k : Int), decide (gi s k < 0)) v = 0 := by
        unfold mval
        rw [if_neg (show ¬ (k : Int) = (v : Int) by omega)]
      rw [h1, Int.mul_zero]
      by_cases c : v < k
      · rw [if_pos c, if_pos (by omega)]; omega
      · rw [if_neg c, if_neg (by omega)]; omega
theorem mvF_len (s : List Int) : ∀ k, ((mvF s k).length : Int) = coF k s
  | 0 => rfl
  | k + 1 => by
    rw [mvF, List.length_append, List.length_replicate]
    have h1 := mvF_len s k
    have h2 : coF (k + 1) s = coF k s + mxF (gi s k) (- gi s k) := rfl
    have h3 := yma (gi s k) (- gi s k)
    rw [h2]
    omega
theorem mvF_mem {s : List Int} {m : Int × Bool} : ∀ {k : Nat}, m ∈ mvF s k → ∃ v : Nat, v < k ∧ m = ((v : Int), decide (gi s v < 0)) ∧ gi s v ≠ 0
  | 0, h => by simp [mvF] at h
  | k + 1, h => by
    rw [mvF] at h
    rcases List.mem_append.1 h with h | h
    · obtain ⟨v, hv, h1, h2⟩ := mvF_mem h
      exact ⟨v, by omega, h1, h2⟩
    · rw [List.mem_replicate] at h
      refine ⟨k, by omega, h.2, fun q => h.1 ?_⟩
      rw [q]; rfl
theorem ynE {k : Int} {R : Int → Prop} (hk : -1000000000000 ≤ k ∧ k ≤ 1000000000000) (h : R (mxF k (-k))) : yns k R := ⟨i64 (by omega), h⟩
theorem p_dollar_cost {n : Nat} {s : List Int} {R : Int → Prop} (hs : s.length = n) (hn : n ≤ 1000) (hb : ∀ v, v < n → -1000000 ≤ gi s v ∧ gi s v ≤ 1000000) (h : R (coF n s)) : yny s R := by
  unfold yny
  rw [hs]
  refine ⟨fun m x v => Cnt n (fun k => x = coF k s ∧ 0 ≤ coF k s ∧ coF k s ≤ 1000000 * k) m v, Cnt.start ⟨rfl, (Int.le_refl 0 : (0 : Int) ≤ 0), (Int.le_refl 0 : (0 : Int) ≤ 0)⟩, ?_⟩
  rintro m _ _ ⟨k, rfl, rfl, hk, rfl, h0, h1⟩
  simp only [Int.toNat_natCast]
  refine ⟨fun hlt => ?_, fun hge => ?_⟩
  · have hbk := hb k (by omega)
    have h2 : coF (k + 1) s = coF k s + mxF (gi s k) (- gi s k) := rfl
    have h3 := yma (gi s k) (- gi s k)
    exact ⟨by omega, ynE (by omega) ⟨i64 (by omega), Cnt.next (by omega) (by omega) ⟨rfl, by omega, by omega⟩⟩⟩
  · have : k = n := by omega
    subst this; exact h
theorem p_dollar_Moves {n : Nat} {es : List E3} {s : List Int} {R : List (Int × Bool) → Int → Prop} (hl : es.length ≤ 1000) (hj : yb2 (n : Int) es = 0) (hg : yat n es = 0) (hs : s.length = n) (hc : coF n s ≤ 100) (h : R (mvF s n) 0) : ynx (n : Int) es s R := by
  obtain ⟨hE, hn1, hn12⟩ := yc9 hg
  have hb : ∀ v, v < n → -100 ≤ gi s v ∧ gi s v ≤ 100 := fun v hv => by have := coF_at (s := s) hv; omega
  have hck : yaJ s n = 0 := yfN hs hn1 hn12 fun v hv => by have := hb v hv; omega
  unfold ynx ynw
  refine yni hl ⟨fun _ => ylc (by omega) ⟨fun _ => p_dollar_cost hs (by omega) (fun v hv => by have := hb v hv; omega) ⟨fun q => by omega, fun _ => ?_⟩, fun q => absurd (by unfold yiG; rw [if_pos hg, hck]) q⟩, fun q => absurd hj q⟩
  rw [hs]
  refine ⟨fun m out v => Cnt n (fun k => out = mvF s k) m v, Cnt.start rfl, ?_⟩
  rintro m _ _ ⟨k, rfl, rfl, hk, rfl⟩
  simp only [Int.toNat_natCast]
  refine ⟨fun hlt => ?_, fun hge => ?_⟩
  · have hbk := hb k (by omega)
    have h3 := yma (gi s k) (- gi s k)
    refine ⟨by omega, ynE (by omega) (p_repeat (by omega) ⟨?_, Cnt.next (by omega) (by omega) rfl⟩)⟩
    have h4 := mvF_len s k
    have h5 : coF k s ≤ coF n s := by
      have hm : ∀ j i : Nat, coF j s ≤ coF (j + i) s := fun j i => by
        induction i with
        | zero => exact Int.le_refl _
        | succ i ih =>
          have h6 : coF (j + (i + 1)) s = coF (j + i) s + mxF (gi s (j + i)) (- gi s (j + i)) := rfl
          have h7 := yma (gi s (j + i)) (- gi s (j + i))
          omega
      have := hm k (n - k)
      rwa [show k + (n - k) = n by omega] at this
    rw [List.length_replicate]
    omega
  · have : k = n := by omega
    subst this; exact h
theorem ynR {n : Nat} {es : List E3} {d : List Int} {l : List (Int × Bool)} {R : List Int → Int → Prop} (hl : es.length ≤ 1000) (hgv : yaD (n : Int) es 0 d = 0) (hll : l.length ≤ 100) (hm : ∀ m ∈ l, 0 ≤ m.1 ∧ m.1 < n) (hd : ∀ v, v < n → -1000 ≤ gi d v ∧ gi d v ≤ 1000)
    (h : R (appF n es d (tab (msum l) n)) 0) : ynu (n : Int) es d l R := by
  obtain ⟨hg, hc, -, -, hck⟩ := yb7 hgv
  obtain ⟨hE, hn1, hn12⟩ := yc9 hg
  unfold ynu
  refine ymI hl ⟨fun _ => ⟨fun q => by omega, fun _ => ⟨by omega, ?_⟩⟩, fun q => absurd hgv q⟩
  simp only [Int.toNat_natCast]
  have hmem : ∀ k, k < l.length → gx l k ∈ l := fun k hk => List.mem_of_getElem? (yfn hk)
  refine ⟨fun m v s => Cnt l.length (fun k => s = tab (msum (l.take k)) n) m v, Cnt.start ?_, ?_⟩
  · refine yfe (by simp [ydW]) fun i hi => ?_
    rw [List.length_replicate] at hi
    rw [ymY hi, yf5 _ hi]; rfl
  rintro m _ _ ⟨k, rfl, rfl, hk, rfl⟩
  simp only [Int.toNat_natCast]
  refine ⟨fun hlt => ?_, fun hge => ?_⟩
  · have hk : k < l.length := by omega
    obtain ⟨h1, h2⟩ := hm _ (hmem k hk)
    have ht : l.take (k + 1) = l.take k ++ [gx l k] := by
      rw [List.take_add_one, List.getElem?_eq_getElem hk]
      have := yfn hk
      rw [List.getElem?_eq_getElem hk] at this
      rw [Option.some.inj this]; rfl
    obtain ⟨v, hv⟩ : ∃ v : Nat, (gx l k).1 = (v : Int) := ⟨(gx l k).1.toNat, by omega⟩
    have hvn : v < n := by omega
    have hb := ynG v (l.take k)
    rw [List.length_take] at hb
    have hstep : ∀ t : Int, t = mval (gx l k) v → (tab (msum (l.take k)) n).set v (gi (tab (msum (l.take k)) n) v + t) = tab (msum (l.take (k + 1))) n := fun t ht' => by
      refine yfe (by simp [ydW]) fun i hi => ?_
      rw [List.length_set, ydW] at hi
      rw [ybV (by rw [ydW]; omega), yf5 _ hi, yf5 _ hvn, yf5 _ hi, ht, ynB]
      have e : msum [gx l k] i = mval (gx l k) i := by simp [msum]
      rw [e]
      by_cases q : i = v
      · subst q; rw [if_pos rfl, ht']
      · rw [if_neg q]
        unfold mval
        rw [hv, if_neg (by omega)]; omega
    refine ⟨by omega, True, fun _ => ⟨fun hb2 => ?_, fun hb2 => ?_⟩, fun q => absurd q (by omega), fun _ => ⟨fun q => absurd q (by omega), fun _ => trivial⟩⟩
    · rw [hv]
      simp only [Int.toNat_natCast]
      refine ⟨by rw [ydW]; omega, by rw [yf5 _ hvn]; exact i64 (by omega), Cnt.next hk (by omega) (hstep (-1) ?_)⟩
      unfold mval; rw [if_pos hv, if_pos hb2]
    · rw [hv]
      simp only [Int.toNat_natCast]
      refine ⟨by rw [ydW]; omega, by rw [yf5 _ hvn]; exact i64 (by omega), Cnt.next hk (by omega) (hstep 1 ?_)⟩
      unfold mval; rw [if_pos hv, if_neg hb2]
  · have : k = l.length := by omega
    subst this
    rw [List.take_length]
    have hsb : ∀ v, v < n → -100 ≤ gi (tab (msum l) n) v ∧ gi (tab (msum l) n) v ≤ 100 := fun v hv => by
      rw [yf5 _ hv]; have := ynG v l; omega
    have hin : (appF n es d (tab (msum l) n)).all inF = true := by
      rw [List.all_eq_true]
      intro x hx
      obtain ⟨j, hj⟩ := List.getElem?_of_mem hx
      have hjl := (List.getElem?_eq_some_iff.1 hj).1
      rw [yh9] at hjl
      have e : x = gi (appF n es d (tab (msum l) n)) j := by unfold gi; rw [List.getD_eq_getElem?_getD, hj]; rfl
      rw [e, appF, yf5 _ hjl]
      have h1 := Lp_few hg (s := gi (tab (msum l) n)) (B := 100) (by omega) (fun i hi => hsb i hi) hjl
      have h2 := hd j hjl
      unfold inF
      rw [decide_eq_true_eq]; omega
    exact p_firing_Apply hl hg hck (yfN (ydW _ n) hn1 hn12 fun v hv => by have := hsb v hv; omega) (fun _ => h) (fun q => by rw [hin] at q; cases q)
theorem ynV {n : Nat} {d : List Int} {R : Bool → Int → Prop} (hn : 1 ≤ n ∧ n ≤ 12) (hd : d.length = n) (hb : ∀ v, v < n → -1000000 ≤ gi d v ∧ gi d v ≤ 1000000) (h : ∀ b, (b = true ↔ ∀ v, v < n → 0 ≤ gi d v) → R b 0) : ynr d R := by
  unfold ynr
  refine ym9 (n := n) (by simp) (by simp) (fun k hk => ?_) ⟨fun _ => ykh (by omega) (by omega) fun m ⟨k, hk, hke⟩ hm => h _ ?_, fun q => absurd rfl q⟩
  · have : k = 0 := by simpa using hk
    subst this
    rw [gx_zero]
    exact ⟨hd, yfN hd hn.1 hn.2 fun v hv => by have := hb v hv; omega⟩
  · rw [decide_eq_true_eq]
    exact ⟨fun q v hv => by have := hm v (by omega); omega, fun q => by rw [← hke]; exact q k (by omega)⟩
theorem p_topmoves {n a : Int} {es : List E3} {d : List Int} (ha : 0 ≤ a ∧ a < 256) : ynp n es d a (fun b => b = true) := by
  unfold ynp
  refine ⟨∃ n' : Nat, n = n' ∧ DolOk n' es d, ?_, ?_⟩
  rotate_left
  · unfold ynD ynJ
    refine p_r08_FewRanks ⟨fun hf => ⟨fun hlen => ?_, fun _ => ⟨fun q => (by cases q), fun _ => ymd rfl⟩⟩, fun _ => ⟨fun q => (by cases q), fun _ => ymd rfl⟩⟩
    have hel := (smallF_get hf).1
    have hlen := of_decide_eq_true hlen
    refine p_r17_Small (by omega) (fun hb => ⟨fun _ => ⟨fun _ => ynN (by omega) ⟨fun hg => dol_of hf hg hb, fun _ => ymd rfl⟩, fun q => absurd rfl q⟩, fun q => absurd rfl q⟩) ⟨fun q => (by cases q), fun _ => ynN (by omega) ⟨fun hne => ynN (by omega) ⟨fun hg => absurd hne (by rw [decide_eq_true hg]; decide), fun _ => ymd rfl⟩, fun _ => ymd rfl⟩⟩
  rintro ⟨n, rfl, h⟩
  have G := h.G
  have hn1 := G.n1
  have hn5 := G.n5
  have hl := h.l
  have hel := G.el
  have hj : yb2 (n : Int) es = 0 := by
    have := h.g
    rw [given0] at this
    split at this
    · assumption
    · rename_i c; exact absurd this c
  refine ynL (G.small fun v hv => by have := h.b v hv; omega) h.g hl (by omega) (fun _ => ⟨fun q => absurd q (by omega), fun _ => ⟨fun _ => ymd rfl, fun q => absurd rfl q⟩⟩) (fun s k hk hc hw hmin => ⟨fun _ => ?_, fun q => absurd rfl q⟩) (fun _ => ⟨fun q => absurd q (by omega), fun _ => ⟨fun q => absurd q (by omega), fun _ => ⟨fun _ => ymd rfl, fun q => absurd rfl q⟩⟩⟩)
  have hsl := hw.1
  have hml := mvF_len s n
  refine p_dollar_Moves (by omega) hj G.g hsl (by omega) ⟨True, fun _ => ⟨fun hk0 => ?_, fun hk0 => ?_⟩, fun _ => ⟨fun _ => trivial, fun q => absurd (by omega) q⟩, fun q => absurd rfl q⟩
  · -- nothing to do
    refine p_r17_Paid (by omega) ⟨fun _ => ymd rfl, fun q => absurd (yiS.2 fun v hv => ?_) q⟩
    have hs0 := coF_zero hsl (by omega)
    have h1 := hw.2 v (by omega)
    rw [hs0, yd5 (b := fun _ => 0) (fun i hi => ymY hi) (by omega), yeW] at h1
    omega
  · have hk1 : 1 ≤ k := by omega
    obtain ⟨t, ht, hte⟩ : ∃ t : Nat, t < k ∧ a.tmod (k : Int) = (t : Int) := by
      have h1 := Int.tmod_lt_of_pos a (b := (k : Int)) (by omega)
      have h2 := Int.tmod_nonneg (k : Int) (a := a) (by omega)
      exact ⟨(a.tmod k).toNat, by omega, by omega⟩
    rw [hte]
    simp only [Int.toNat_natCast, List.nil_append]
    have hlen : (mvF s n).length = k := by omega
    have hmm : ∀ m ∈ mvF s n, 0 ≤ m.1 ∧ m.1 < n := fun m hm => by
      obtain ⟨v, hv, rfl, _⟩ := mvF_mem hm
      exact ⟨by simp, by simpa using hv⟩
    have hms : ∀ m ∈ (mvF s n).drop t ++ (mvF s n).take t, m ∈ mvF s n := fun m hm => by
      rcases List.mem_append.1 hm with q | q
      · exact List.mem_of_mem_drop q
      · exact List.mem_of_mem_take q
    have hsum : ∀ v, v < n → msum ((mvF s n).drop t ++ (mvF s n).take t) v = gi s v := fun v hv => by
      have h1 := mvF_sum s v n
      rw [if_pos hv] at h1
      rw [← h1, ynB]
      have h2 := ynB ((mvF s n).take t) ((mvF s n).drop t) v
      rw [List.take_append_drop] at h2
      omega
    have hdb : ∀ v, v < n → -1000 ≤ gi d v ∧ gi d v ≤ 1000 := fun v hv => by have := h.b v hv; omega
    have hal : ((mvF s n).drop t ++ (mvF s n).take t).length = k := by simp; omega
    refine ⟨i64 (by omega), by omega, by omega, by simp; omega, by simp; omega, ynR (by omega) h.g (by omega) (fun m hm => hmm m (hms m hm)) hdb ⟨by omega, ynR (by omega) h.g (by simp; omega) (fun m hm => hmm m (hms m (List.mem_of_mem_drop hm))) hdb ?_⟩⟩
    have hab : ∀ l : List (Int × Bool), l.length ≤ 1000 → ∀ v, v < n → -1000000 * 100 ≤ gi (appF n es d (tab (msum l) n)) v ∧ gi (appF n es d (tab (msum l) n)) v ≤ 1000000 * 100 := fun l hl2 v hv => by
      rw [appF, yf5 _ hv]
      have h1 := Lp_few G.g (s := gi (tab (msum l) n)) (B := 1000) (by omega) (fun i hi => by rw [yf5 _ hi]; have := ynG i l; omega) hv
      have := hdb v hv
      omega
    have hab2 : ∀ l : List (Int × Bool), l.length ≤ 100 → ∀ v, v < n → -1000000 ≤ gi (appF n es d (tab (msum l) n)) v ∧ gi (appF n es d (tab (msum l) n)) v ≤ 1000000 := fun l hl2 v hv => by
      rw [appF, yf5 _ hv]
      have h1 := Lp_few G.g (s := gi (tab (msum l) n)) (B := 100) (by omega) (fun i hi => by rw [yf5 _ hi]; have := ynG i l; omega) hv
      have := hdb v hv
      omega
    refine ynV ⟨hn1, by omega⟩ yh9 (hab2 _ (by omega)) fun b1 hb1 => ynV ⟨hn1, by omega⟩ yh9 (hab2 _ (by simp; omega)) fun b2 hb2 => ⟨i64 (by omega), i64 (by omega), i64 (by omega), fun _ => ⟨fun _ => ⟨fun q => ?_, fun _ => ymd rfl⟩, fun q => absurd (hb1.2 fun v hv => ?_) q⟩, fun q => absurd rfl q⟩
    · -- one move less wins too: it would be cheaper
      have hw2 := hb2.1 q
      obtain ⟨x, xs, hxs⟩ : ∃ x xs, (mvF s n).drop t ++ (mvF s n).take t = x :: xs := by
        cases hq : (mvF s n).drop t ++ (mvF s n).take t with
        | nil => rw [hq] at hal; simp at hal; omega
        | cons x xs => exact ⟨x, xs, rfl⟩
      rw [hxs] at hw2 hsum
      simp only [show (1 : Int).toNat = 1 from rfl, List.drop_succ_cons, List.drop_zero] at hw2
      have hxm : x ∈ mvF s n := hms x (by rw [hxs]; simp)
      obtain ⟨v, hv, hxe, hne⟩ := mvF_mem hxm
      have hx1 : ∀ u, u < n → msum xs u = gi s u - mval x u := fun u hu => by
        have h1 := hsum u hu
        have h2 : msum (x :: xs) u = mval x u + msum xs u := by simp [msum]
        omega
      have hwin : Wins n es d (tab (msum xs) n) := ⟨ydW _ n, fun u hu => by have := hw2 u hu; rwa [appF, yf5 _ hu] at this⟩
      have hcost : coF n (tab (msum xs) n) + 1 = coF n s := by
        have h3 : coF n s = coF n (tab (msum xs) n) + 1 := by
          refine sm_upd hv fun u hu => ?_
          rw [yf5 _ hu, hx1 u hu, hxe, yma, yma]
          unfold mval
          by_cases e : u = v
          · subst e
            rw [if_pos rfl, if_pos rfl]
            by_cases c : gi s u < 0
            · rw [if_pos (decide_eq_true c)]; omega
            · rw [if_neg (by simpa using c)]; omega
          · rw [if_neg e, if_neg (by omega)]; omega
        omega
      have := hmin _ hwin
      omega
    · have h1 := hw.2 v hv
      rw [appF, yf5 _ hv, yd5 (b := gi s) (fun i hi => by rw [yf5 _ hi]; exact hsum i hi) hv]
      exact h1
end Go.Proofs.YtncilechkclmbaaGreat
