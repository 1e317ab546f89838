/- Texts laid together: DolM. -/
import Derived.Test.YtncilechkclmbaaGreatK7
/- The dollar game and its mirror. -/
namespace Go.Proofs.YtncilechkclmbaaGreat
open Go Go.Proofs.Tryz
set_option linter.unusedVariables false
set_option linter.unusedSimpArgs false
theorem plainM_take {es : List E3} {k : Nat} (hk : k < es.length) : yje (es.take (k + 1)) = yje (es.take k) + if (ge es k).1 = (ge es k).2.1 then 0 else (ge es k).2.2 := by
  have e : es.take (k + 1) = es.take k ++ [ge es k] := by rw [List.take_add_one, List.getElem?_eq_getElem hk, ydL hk]; rfl
  rw [e]
  unfold yje
  rw [List.map_append, List.sum_append]
  simp
theorem p_r39_Genus {n : Nat} {es : List E3} {R : Int → Prop} (hl : es.length ≤ 1000) (hg : yat n es = 0) (h : R (yje es + 1 - n)) : yl8 (n : Int) es R := by
  obtain ⟨hE, hn1, hn12⟩ := yc9 hg
  unfold yl8
  refine ⟨i64 (by omega), fun m x i => Cnt es.length (fun k => x = 1 - n + yje (es.take k) ∧ 0 ≤ yje (es.take k) ∧ yje (es.take k) ≤ 50 * k) m i, Cnt.start ⟨by simp [yje], by simp [yje], by simp [yje]⟩, ?_⟩
  rintro m _ _ ⟨k, rfl, rfl, hk, rfl, h0, h1⟩
  simp only [Int.toNat_natCast]
  refine ⟨fun hlt => ?_, fun hge => ?_⟩
  · have hlt : k < es.length := by omega
    have hx := hE _ (yiJ hlt)
    have ht := plainM_take hlt
    refine ⟨by omega, fun q => ?_, fun q => ?_⟩
    · rw [if_pos q] at ht
      exact Cnt.next hlt (by omega) ⟨by omega, by omega, by omega⟩
    · rw [if_neg q] at ht
      exact ⟨i64 (by omega), Cnt.next hlt (by omega) ⟨by omega, by omega, by omega⟩⟩
  · have : k = es.length := by omega
    subst this
    rw [List.take_length]
    rw [show 1 - (n : Int) + yje es = yje es + 1 - n by omega]; exact h
theorem sb_back {n : Nat} {k x : List Int} (hx : x.length = n) : sb n k (sb n k x) = x := by
  refine yfe (by rw [yjt, hx]) fun i hi => ?_
  rw [yjt] at hi
  rw [yjA hi, yjA hi]; omega
theorem p_topmirror {n a : Int} {es : List E3} {d : List Int} (ha : 0 ≤ a ∧ a < 256) : ylE n es d a (fun b => b = true) := by
  unfold ylE
  refine ⟨∃ n' : Nat, n = n' ∧ DolOk n' es d, ?_, p_r08_FewRanks ⟨fun hf => ynN (by have := (smallF_get hf).1; omega) ⟨fun hg => p_r17_Small (by have := given_len hg; omega) (fun hb => ⟨fun _ => dol_of hf hg hb, fun q => absurd rfl q⟩) ⟨fun q => (by cases q), fun _ => ymd rfl⟩, fun _ => ymd rfl⟩, fun _ => ymd rfl⟩⟩
  rintro ⟨n, rfl, h⟩
  have G := h.G
  have hn1 := G.n1
  have hn5 := G.n5
  have hl := h.l
  have hel := G.el
  have hE := G.E
  obtain ⟨v, hv, hve⟩ : ∃ v : Nat, v < n ∧ a.tmod (n : Int) = (v : Int) := by
    refine ⟨(a.tmod n).toNat, ?_, ?_⟩
    · have h1 := Int.tmod_lt_of_pos a (b := (n : Int)) (by omega)
      have h2 := Int.tmod_nonneg (n : Int) (a := a) (by omega)
      omega
    · have h2 := Int.tmod_nonneg (n : Int) (a := a) (by omega)
      omega
  rw [hve]
  have hpm : 0 ≤ yje es ∧ yje es ≤ 9 := by
    have h1 := yj5 (n := n) hE
    have h2 := G.tot
    have h3 : 0 ≤ tot n es := ya6 fun i _ => ya6 fun u _ => ybq hE i u
    omega
  have hdg : -300 ≤ dg d ∧ dg d ≤ 300 := by
    have h1 : sm n (fun _ => (-60 : Int)) ≤ sm n (gi d) := yer fun v hv => (h.b v hv).1
    have h2 : sm n (gi d) ≤ sm n (fun _ => (60 : Int)) := yer fun v hv => (h.b v hv).2
    rw [yeY] at h1 h2
    rw [dg_n hl]; omega
  have hb := h.b v hv
  simp only [List.nil_append, Int.toNat_natCast]
  refine p_r39_Genus (by omega) G.g ⟨by omega, i64 (by omega), by omega, by omega, i64 (by omega), yhn (by omega) (fun i hi => by have := h.b i (by omega); omega) ⟨i64 (by omega), i64 (by omega), yft ?_⟩⟩
  obtain ⟨x, hx⟩ : ∃ x, d.set v (gi d v + (yje es + 1 - n - 1 - dg d)) = x := ⟨_, rfl⟩
  rw [hx]
  have hxe : x = ycD d v (yje es - n - dg d) := by rw [← hx]; unfold ycD; congr 1; omega
  have hxl : x.length = n := by rw [hxe]; simp [ycD, hl]
  have hxb : ∀ u, u < n → -370 ≤ gi x u ∧ gi x u ≤ 370 := fun u hu => by
    rw [hxe, yct (by omega)]
    have := h.b u hu
    split <;> omega
  have hxd : dg x = yje es - n := by rw [hxe, ymN (by omega)]; omega
  have hck : yaJ x n = 0 := yfN hxl (by omega) (by omega) fun u hu => by have := hxb u hu; omega
  refine ⟨fun _ => ?_, fun q => absurd hck q⟩
  have hj : yb2 (n : Int) es = 0 := by
    have := h.g
    rw [given0] at this
    split at this
    · assumption
    · rename_i c; exact absurd this c
  refine ymw (by omega) (fun q => absurd hj q) fun _ => ?_
  rw [Int.toNat_natCast]
  have hcb := fun u hu => canF_bound G.g u hu
  refine p_chips_Sub' ⟨hn1, by omega⟩ (ymK n es) hxl (fun u hu => by have := hcb u hu; omega) (fun u hu => by have := hxb u hu; omega) ?_
  show ylB (n : Int) es x _
  have hyb : ∀ u, u < n → -1000 ≤ gi (sb n (canF n es) x) u ∧ gi (sb n (canF n es) x) u ≤ 1000 := fun u hu => by
    rw [yjA hu]; have := hcb u hu; have := hxb u hu; omega
  refine ynb G hxl (fun u hu => by have := hxb u hu; omega) fun b hbw => ?_
  show ylB (n : Int) es (sb n (canF n es) x) _
  refine ynb G (yjt _ _ _) (fun u hu => by have := hyb u hu; omega) fun b2 hbw2 => ?_
  have hmir : Win n es x ↔ Win n es (sb n (canF n es) x) := by
    constructor
    · intro hw
      apply Classical.byContradiction
      intro hn
      have := rr_mirror G.g G.C hn1 (by omega) (yjt _ _ _) hyb (by rw [dg_sb (ymK n es) hxl, canF_dg hE, hxd]; omega) hn
      rw [sb_back hxl] at this
      exact this hw
    · intro hw
      apply Classical.byContradiction
      intro hn
      exact rr_mirror G.g G.C hn1 (by omega) hxl (fun u hu => by have := hxb u hu; omega) hxd hn hw
  have hbe : b = b2 := by rw [Bool.eq_iff_iff, hbw, hbw2, hmir]
  subst hbe
  refine ⟨True, fun _ => ?_, i64 (by omega), fun _ => ⟨fun _ => ⟨fun _ => ⟨fun _ => trivial, fun q => absurd (by simp) q⟩, fun q => absurd rfl q⟩, fun q => absurd rfl q⟩, fun q => absurd rfl q⟩
  have hxv := hxb v hv
  refine ⟨by omega, i64 (by omega), ynb (d := x.set v (gi x v + 1)) G (by simp [hxl]) (fun u hu => ?_) fun c hc => ⟨fun _ => ⟨fun _ => ymd rfl, fun q => absurd (hc.2 ?_) q⟩, fun q => absurd rfl q⟩⟩
  · rw [ybV (by omega)]
    have := hxb u hu
    split <;> omega
  · refine ym7 G.g G.C (by omega) (by simp [hxl]) (fun u hu => ?_) ?_
    · rw [ybV (by omega)]
      have := hxb u hu
      split <;> omega
    · have : dg (ycD x v 1) = dg x + 1 := ymN (by omega) 1
      unfold ycD at this
      rw [this, hxd]; omega
end Go.Proofs.YtncilechkclmbaaGreat
