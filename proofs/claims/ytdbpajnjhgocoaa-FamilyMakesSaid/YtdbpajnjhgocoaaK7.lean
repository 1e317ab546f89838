/- Texts laid together: Fi, Fj, Fk, Fl, Fm. -/
import Derived.Test.YtdbpajnjhgocoaaK6
/- family.Make and the reference's Make give the same graph. -/
namespace Go.Proofs.Ytdbpajnjhgocoaa
open Go Go.RowKit Go.Shelf Go.Proofs.Try
set_option linter.unusedVariables false
set_option linter.unusedSimpArgs false
theorem ycD {kind most : Int} {l : List Int} {R0 : Int → Int → Prop} {K A : Prop} {V : (Int → Prop) → Prop} (k4 : kind ≠ 4) (herr : errK kind l = if 12 < vrtK kind l then 5 else 0) (hb : 1000 < most → 12 < vrtK kind l) (hV : ¬ 1000 < most → ∀ R : Int → Prop, R (vrtK kind l) → V R) (he : errK kind l ≠ 0 → R0 0 (errK kind l)) (hK : errK kind l = 0 → K) :
    (1000 < most → R0 0 5) ∧ (¬ 1000 < most → V fun r => (12 < r → R0 0 5) ∧ (¬ 12 < r → (kind = 4 → A) ∧ (¬ kind = 4 → K))) := by
  refine ⟨fun q => ?_, fun q => hV q _ ⟨fun q2 => ?_, fun q2 => ⟨fun q3 => absurd q3 k4, fun _ => hK ?_⟩⟩⟩
  · rw [if_pos (hb q)] at herr
    have := he (by rw [herr]; decide)
    rwa [herr] at this
  · rw [if_pos q2] at herr
    have := he (by rw [herr]; decide)
    rwa [herr] at this
  · rw [if_neg q2] at herr; exact herr
theorem ydE {l : List Int} {c : Int} {R : Int → Prop} (hl : 0 < l.length) (h0 : gi l 0 ≤ 1000 ∧ 0 ≤ gi l 0) (hc : 0 ≤ c ∧ c ≤ 1) (h : R (gi l 0 + c)) : yaN l c R :=
  ⟨⟨by omega, by omega⟩, ⟨by have : gi l (Int.toNat 0) = gi l 0 := rfl; omega, by have : gi l (Int.toNat 0) = gi l 0 := rfl; omega⟩, h⟩
theorem yaG {kind : Int} {l : List Int} {R0 : Int → Int → Prop} {R1 R2 R3 R4 R6 : Int → Prop} {R5 R7 R8 R9 : Prop} (hll : l.length ≤ 1000000) (he : errK kind l ≠ 0 → R0 0 (errK kind l))
    (h : errK kind l = 0 → (kind = 0 → R1 0) ∧ (kind = 1 → R2 0) ∧ (kind = 2 → R3 1) ∧ (kind = 3 → R4 0) ∧ (kind = 4 → R5) ∧ (kind = 5 → R6 1) ∧ (kind = 6 → R7) ∧ (kind = 7 → R8) ∧ (kind = 8 → R9)) :
    ycb kind l R0 R1 R2 R3 R4 R5 R6 R7 R8 R9 := by
  refine yeP ⟨fun q => ?_, fun q => ?_⟩
  · have hk : ¬ (kind < 0 ∨ 8 < kind) := fun q2 => by rw [if_pos q2] at q; cases q
    rw [if_neg hk]
    refine ⟨fun hl => ?_, fun hl => ?_⟩
    · have hl : l.length = nszF kind := by omega
      have hn1 : 1 ≤ nszF kind ∧ nszF kind ≤ 3 := by unfold nszF; split <;> (try split) <;> omega
      refine ⟨fun m most v => Cnt l.length (fun k => (∀ i, i < k → 1 ≤ gi l i) ∧ (1000 < most ↔ ∃ i, i < k ∧ 1000 < gi l i)) m v, Cnt.start ⟨fun i hi => absurd hi (by omega), ⟨fun q => absurd q (by omega), fun ⟨i, hi, _⟩ => absurd hi (by omega)⟩⟩, ?_⟩
      rintro m most _ ⟨k, rfl, rfl, hk2, hI, hM⟩
      simp only [Int.toNat_natCast]
      refine ⟨fun hlt => ⟨⟨by omega, by omega⟩, fun q => ?_, fun q => Cnt.next (by omega) (by omega) ⟨fun i hi => ?_, ?_⟩⟩, fun hge => ?_⟩
      · have : errK kind l = 2 := by
          unfold errK; rw [if_neg hk, if_neg (by omega), if_pos ⟨_, ydJ (l := l) (k := k) (by omega), q⟩]
        rw [this] at he; exact he (by decide)
      · rcases (show i < k ∨ i = k by omega) with q2 | rfl
        · exact hI i q2
        · omega
      · have e2 : 1000 < mxF most (gi l k) ↔ 1000 < most ∨ 1000 < gi l k := by
          simp only [mxF]; split <;> omega
        rw [e2, hM]
        constructor
        · rintro (⟨i, hi, h2⟩ | h2)
          · exact ⟨i, by omega, h2⟩
          · exact ⟨k, by omega, h2⟩
        · rintro ⟨i, hi, h2⟩
          rcases (show i < k ∨ i = k by omega) with q2 | rfl
          · exact .inl ⟨i, q2, h2⟩
          · exact .inr h2
      · have hkl : k = l.length := by omega
        subst hkl
        have h1 : ∀ x ∈ l, 1 ≤ x := fun x hx => by
          obtain ⟨i, hi, rfl⟩ := List.mem_iff_getElem.1 hx
          have := hI i (by omega)
          rwa [ybz hi] at this
        have herr : errK kind l = if 12 < vrtK kind l then 5 else 0 := by
          unfold errK; rw [if_neg hk, if_neg (by omega), if_neg]
          rintro ⟨x, hx, q⟩
          have := h1 x hx; omega
        have g0 : 1 ≤ gi l 0 := hI 0 (by omega)
        have b0 : ¬ 1000 < most → ∀ i, i < l.length → gi l i ≤ 1000 := fun q i hi => Classical.byContradiction fun q2 => q (hM.2 ⟨i, hi, by omega⟩)
        have hM0 : l.length = 1 → 1000 < most → 1000 < gi l 0 := fun hn q => by
          obtain ⟨i, hi, h2⟩ := hM.1 q
          have : i = 0 := by omega
          rw [this] at h2; exact h2
        have t0 : gi l (Int.toNat 0) = gi l 0 := rfl
        have t1 : gi l (Int.toNat 1) = gi l 1 := rfl
        have t2 : gi l (Int.toNat 2) = gi l 2 := rfl
        show (0 ≤ kind ∧ kind < 9) ∧ _
        refine ⟨⟨by omega, by omega⟩, fun e => ?_, fun e => ?_, fun e => ?_, fun e => ?_, fun e => ?_, fun e => ?_, fun e => ?_, fun e => ?_, fun e => ?_⟩
        · subst e
          have hn : l.length = 1 := hl
          have hv : vrtK 0 l = gi l 0 + 0 := by show gi l 0 = _; omega
          exact ycD (by decide) herr (fun q => by have := hM0 hn q; omega) (fun q R hR => ydE (by omega) ⟨b0 q 0 (by omega), by omega⟩ (by decide) (by rw [hv] at hR; exact hR)) he fun q => (h q).1 rfl
        · subst e
          have hn : l.length = 1 := hl
          have hv : vrtK 1 l = gi l 0 + 0 := by show gi l 0 = _; omega
          exact ycD (by decide) herr (fun q => by have := hM0 hn q; omega) (fun q R hR => ydE (by omega) ⟨b0 q 0 (by omega), by omega⟩ (by decide) (by rw [hv] at hR; exact hR)) he fun q => (h q).2.1 rfl
        · subst e
          have hn : l.length = 1 := hl
          have hv : vrtK 2 l = gi l 0 + 1 := rfl
          exact ycD (by decide) herr (fun q => by have := hM0 hn q; omega) (fun q R hR => ydE (by omega) ⟨b0 q 0 (by omega), by omega⟩ (by decide) (by rw [hv] at hR; exact hR)) he fun q => (h q).2.2.1 rfl
        · subst e
          have hn : l.length = 1 := hl
          have hv : vrtK 3 l = gi l 0 + 0 := by show gi l 0 = _; omega
          exact ycD (by decide) herr (fun q => by have := hM0 hn q; omega) (fun q R hR => ydE (by omega) ⟨b0 q 0 (by omega), by omega⟩ (by decide) (by rw [hv] at hR; exact hR)) he fun q => (h q).2.2.2.1 rfl
        · subst e
          have hn : l.length = 1 := hl
          have hv : vrtK 4 l = if 50 < gi l 0 then 13 else 2 := rfl
          have h5 : 50 < gi l 0 → R0 0 5 := fun q => by
            rw [hv, if_pos q, if_pos (by decide)] at herr
            have := he (by rw [herr]; decide)
            rwa [herr] at this
          refine ⟨fun q => h5 ?_, fun q => ⟨fun q2 => absurd q2 (by decide), fun _ => ⟨fun _ => ⟨⟨by omega, by omega⟩, fun q3 => h5 q3, fun q3 => ?_⟩, fun q3 => absurd rfl q3⟩⟩⟩
          · obtain ⟨i, hi, h2⟩ := hM.1 q
            have : i = 0 := by omega
            subst this; omega
          · have q3 : ¬ 50 < gi l 0 := q3
            rw [hv, if_neg q3, if_neg (by decide)] at herr
            exact (h herr).2.2.2.2.1 rfl
        · subst e
          have hn : l.length = 1 := hl
          have hv : vrtK 5 l = gi l 0 + 1 := rfl
          exact ycD (by decide) herr (fun q => by have := hM0 hn q; omega) (fun q R hR => ydE (by omega) ⟨b0 q 0 (by omega), by omega⟩ (by decide) (by rw [hv] at hR; exact hR)) he fun q => (h q).2.2.2.2.2.1 rfl
        · subst e
          have hn : l.length = 2 := hl
          have g1 : 1 ≤ gi l 1 := hI 1 (by omega)
          have hv : vrtK 6 l = gi l 0 + gi l 1 := rfl
          refine ycD (by decide) herr (fun q => ?_) (fun q R hR => ?_) he fun q => (h q).2.2.2.2.2.2.1 rfl
          · obtain ⟨i, hi, h2⟩ := hM.1 q
            rcases (show i = 0 ∨ i = 1 by omega) with rfl | rfl <;> omega
          · have c0 := b0 q 0 (by omega)
            have c1 := b0 q 1 (by omega)
            unfold ybn
            rw [t0, t1]
            exact ⟨⟨by omega, by omega⟩, ⟨by omega, by omega⟩, ⟨by omega, by omega⟩, hR⟩
        · subst e
          have hn : l.length = 2 := hl
          have g1 : 1 ≤ gi l 1 := hI 1 (by omega)
          have hv : vrtK 7 l = gi l 0 * gi l 1 := rfl
          refine ycD (by decide) herr (fun q => ?_) (fun q R hR => ?_) he fun q => (h q).2.2.2.2.2.2.2.1 rfl
          · obtain ⟨i, hi, h2⟩ := hM.1 q
            rw [hv]
            rcases (show i = 0 ∨ i = 1 by omega) with rfl | rfl
            · have := Int.mul_le_mul_of_nonneg_left g1 (show 0 ≤ gi l 0 by omega)
              rw [Int.mul_one] at this
              omega
            · have := Int.mul_le_mul_of_nonneg_right g0 (show 0 ≤ gi l 1 by omega)
              rw [Int.one_mul] at this
              omega
          · have c0 := b0 q 0 (by omega)
            have c1 := b0 q 1 (by omega)
            have m1 := Int.mul_le_mul c0 c1 (by omega) (by omega)
            have m2 := Int.mul_nonneg (show 0 ≤ gi l 0 by omega) (show 0 ≤ gi l 1 by omega)
            unfold ybr
            rw [t0, t1]
            exact ⟨⟨by omega, by omega⟩, ⟨by omega, by omega⟩, ⟨by omega, by omega⟩, hR⟩
        · subst e
          have hn : l.length = 3 := hl
          have g1 : 1 ≤ gi l 1 := hI 1 (by omega)
          have g2 : 1 ≤ gi l 2 := hI 2 (by omega)
          have hv : vrtK 8 l = gi l 0 + gi l 1 + gi l 2 - 1 := rfl
          refine ycD (by decide) herr (fun q => ?_) (fun q R hR => ?_) he fun q => (h q).2.2.2.2.2.2.2.2 rfl
          · obtain ⟨i, hi, h2⟩ := hM.1 q
            rcases (show i = 0 ∨ i = 1 ∨ i = 2 by omega) with rfl | rfl | rfl <;> omega
          · have c0 := b0 q 0 (by omega)
            have c1 := b0 q 1 (by omega)
            have c2 := b0 q 2 (by omega)
            unfold ybb
            rw [t0, t1, t2]
            exact ⟨⟨by omega, by omega⟩, ⟨by omega, by omega⟩, ⟨by omega, by omega⟩, ⟨by omega, by omega⟩, ⟨by omega, by omega⟩, ⟨by omega, by omega⟩, hR⟩
    · have : errK kind l = 8 := by unfold errK; rw [if_neg hk, if_pos (by omega)]
      rw [this] at he; exact he (by decide)
  · have hk : kind < 0 ∨ 8 < kind := Classical.byContradiction fun q2 => by rw [if_neg q2] at q; exact q rfl
    have : errK kind l = 1 := by unfold errK; rw [if_pos hk]
    rw [this] at he
    rw [if_pos hk]; exact he (by decide)
def gK (kind : Int) (l : List Int) : List E3 := made (vrtK kind l).toNat (yfQ kind l)
theorem ygt {kind : Int} {l : List Int} (h : Right kind l) : vrtK kind l = ((vrtK kind l).toNat : Int) := by
  have := (yhf h).one
  omega
theorem ydR {kind : Int} {l : List Int} {R : Int → List E3 → Int → Prop} (hll : l.length ≤ 1000000) (he : errK kind l ≠ 0 → R 0 [] (errK kind l)) (h : Right kind l → R (vrtK kind l) (gK kind l) 0) : ybl kind l R := by
  by_cases q : errK kind l = 0
  case neg => exact yaG hll (fun q => ⟨fun q2 => absurd q2 q, fun _ => he q⟩) fun q2 => absurd q2 q
  have hr := ye2 q
  have h := h hr
  have hE := yhf hr
  have hmk : ∀ (v : Int) (es : List (Int × Int)), v = vrtK kind l → es = yfQ kind l → ya3 v es (fun r5 r6 r7 => R r5 r6 r7) := by
    rintro v es hv rfl
    rw [hv, ygt hr]
    rw [ygt hr] at h
    exact p_graph_Make hE.one hE.few hE.ok (by have := hE.len; omega) hE.mult h
  clear h hE he
  revert hmk q hll
  refine ycA hr (P := fun kind l => l.length ≤ 1000000 → errK kind l = 0 → (∀ (v : Int) (es : List (Int × Int)), v = vrtK kind l → es = yfQ kind l → ya3 v es (fun r5 r6 r7 => R r5 r6 r7)) → ybl kind l R) ?_ ?_ ?_ ?_ ?_ ?_ ?_ ?_ ?_
  · refine fun n a b hll q H => yaG hll (fun q2 => absurd q q2) fun _ => ⟨fun _ => ⟨fun _ => ydE (by simp) (by show (n : Int) ≤ 1000 ∧ 0 ≤ (n : Int); omega) (by decide) (p_fam_path a (by omega) (H _ _ (by show (n : Int) + 0 = n; omega) rfl)), fun q => absurd rfl q⟩, ?_⟩
    refine ⟨?_, ?_, ?_, ?_, ?_, ?_, ?_, ?_⟩ <;> exact fun q => absurd q (by decide)
  · refine fun n a b hll q H => yaG hll (fun q2 => absurd q q2) fun _ => ⟨fun q => absurd q (by decide), fun _ => ⟨fun _ => ydE (by simp) (by show (n : Int) ≤ 1000 ∧ 0 ≤ (n : Int); omega) (by decide) (p_fam_cycle a (by omega) (H _ _ (by show (n : Int) + 0 = n; omega) rfl)), fun q => absurd rfl q⟩, ?_⟩
    refine ⟨?_, ?_, ?_, ?_, ?_, ?_, ?_⟩ <;> exact fun q => absurd q (by decide)
  · refine fun n a b hll q H => yaG hll (fun q2 => absurd q q2) fun _ => ⟨fun q => absurd q (by decide), fun q => absurd q (by decide), fun _ => ⟨fun _ => ydE (by simp) (by show (n : Int) ≤ 1000 ∧ 0 ≤ (n : Int); omega) (by decide) (p_fam_star (by omega) (H _ _ rfl rfl)), fun q => absurd rfl q⟩, ?_⟩
    refine ⟨?_, ?_, ?_, ?_, ?_, ?_⟩ <;> exact fun q => absurd q (by decide)
  · refine fun n a b hll q H => yaG hll (fun q2 => absurd q q2) fun _ => ⟨fun q => absurd q (by decide), fun q => absurd q (by decide), fun q => absurd q (by decide), fun _ => ⟨fun _ => ydE (by simp) (by show (n : Int) ≤ 1000 ∧ 0 ≤ (n : Int); omega) (by decide) (p_fam_complete a (by omega) (H _ _ (by show (n : Int) + 0 = n; omega) rfl)), fun q => absurd rfl q⟩, ?_⟩
    refine ⟨?_, ?_, ?_, ?_, ?_⟩ <;> exact fun q => absurd q (by decide)
  · refine fun n a b hll q H => yaG hll (fun q2 => absurd q q2) fun _ => ⟨fun q => absurd q (by decide), fun q => absurd q (by decide), fun q => absurd q (by decide), fun q => absurd q (by decide), fun _ => ⟨fun _ => ?_, fun q => absurd rfl q⟩, ?_⟩
    · refine p_fam_banana (by omega) (H _ _ ?_ rfl)
      unfold vrtK
      rw [if_pos rfl, if_neg (by show ¬ 50 < (n : Int); omega)]
    refine ⟨?_, ?_, ?_, ?_⟩ <;> exact fun q => absurd q (by decide)
  · refine fun n a b hll q H => yaG hll (fun q2 => absurd q q2) fun _ => ⟨fun q => absurd q (by decide), fun q => absurd q (by decide), fun q => absurd q (by decide), fun q => absurd q (by decide), fun q => absurd q (by decide), fun _ => ⟨fun _ => ydE (by simp) (by show (n : Int) ≤ 1000 ∧ 0 ≤ (n : Int); omega) (by decide) (p_fam_wheel a (by omega) (H _ _ rfl rfl)), fun q => absurd rfl q⟩, ?_⟩
    refine ⟨?_, ?_, ?_⟩ <;> exact fun q => absurd q (by decide)
  · refine fun m n a b c hll q H => yaG hll (fun q2 => absurd q q2) fun _ => ⟨fun q => absurd q (by decide), fun q => absurd q (by decide), fun q => absurd q (by decide), fun q => absurd q (by decide), fun q => absurd q (by decide), fun q => absurd q (by decide), fun _ => ⟨fun _ => ?_, fun q => absurd rfl q⟩, ?_⟩
    · refine ⟨by simp, by simp, ⟨?_, ?_⟩, yf8 (by omega) (by omega) (H _ _ rfl rfl)⟩
      · show _ ≤ (m : Int) + n; omega
      · show (m : Int) + n ≤ _; omega
    refine ⟨?_, ?_⟩ <;> exact fun q => absurd q (by decide)
  · refine fun m n a b c hll q H => yaG hll (fun q2 => absurd q q2) fun _ => ⟨fun q => absurd q (by decide), fun q => absurd q (by decide), fun q => absurd q (by decide), fun q => absurd q (by decide), fun q => absurd q (by decide), fun q => absurd q (by decide), fun q => absurd q (by decide), fun _ => ⟨fun _ => ?_, fun q => absurd rfl q⟩, fun q => absurd q (by decide)⟩
    have hm : m ≤ 12 := Nat.le_trans (Nat.le_mul_of_pos_right m b) c
    have hn : n ≤ 12 := Nat.le_trans (Nat.le_mul_of_pos_left n a) c
    refine ⟨by simp, by simp, ⟨?_, ?_⟩, p_fam_grid hm b hn (H _ _ rfl rfl)⟩
    · show _ ≤ (m : Int) * n; rw [← Int.natCast_mul]; omega
    · show (m : Int) * n ≤ _; rw [← Int.natCast_mul]; omega
  · refine fun x y z a b c d hll q H => yaG hll (fun q2 => absurd q q2) fun _ => ⟨fun q => absurd q (by decide), fun q => absurd q (by decide), fun q => absurd q (by decide), fun q => absurd q (by decide), fun q => absurd q (by decide), fun q => absurd q (by decide), fun q => absurd q (by decide), fun q => absurd q (by decide), fun _ => ⟨fun _ => ?_, fun q => absurd rfl q⟩⟩
    have e0 : gi [(x : Int), (y : Int), (z : Int)] (Int.toNat 0) = x := rfl
    have e1 : gi [(x : Int), (y : Int), (z : Int)] (Int.toNat 1) = y := rfl
    have e2 : gi [(x : Int), (y : Int), (z : Int)] (Int.toNat 2) = z := rfl
    unfold ybb
    rw [e0, e1, e2]
    refine ⟨by simp, by simp, ⟨by omega, by omega⟩, by simp, ⟨by omega, by omega⟩, ⟨by omega, by omega⟩, ?_⟩
    refine p_fam_theta (l := fun k => if k = 0 then x else if k = 1 then y else z) (fun k => ?_) (fun k => ?_) (H _ _ rfl ?_)
    · show 1 ≤ if k = 0 then x else if k = 1 then y else z
      split
      · exact a
      · split <;> assumption
    · show (if k = 0 then x else if k = 1 then y else z) ≤ 20
      split
      · omega
      · split <;> omega
    · rfl
end Go.Proofs.Ytdbpajnjhgocoaa

/- The reference's graphs; connected; the genus. -/
namespace Go.Proofs.Ytdbpajnjhgocoaa
open Go Go.RowKit Go.Shelf Go.Proofs.Try
set_option linter.unusedVariables false
set_option linter.unusedSimpArgs false
theorem p_r11_ends {kind : Int} {l : List Int} (h : Right kind l) {R : List (Int × Int) → Prop} : R (yfQ kind l) → yaX kind l R := by
  refine ycA h (P := fun kind l => R (yfQ kind l) → yaX kind l R) ?_ ?_ ?_ ?_ ?_ ?_ ?_ ?_ ?_
  · exact fun n a b H => p_ends_path a b H
  · exact fun n a b H => p_ends_cycle a b H
  · exact fun n a b H => p_ends_star (by omega) H
  · exact fun n a b H => ygd a b H
  · exact fun n a b H => p_ends_banana (by omega) H
  · exact fun n a b H => p_ends_wheel a (by omega) H
  · exact fun m n a b c H => yfR (by omega) (by omega) H
  · intro m n a b c H
    have hm : m ≤ 12 := Nat.le_trans (Nat.le_mul_of_pos_right m b) c
    have hn : n ≤ 12 := Nat.le_trans (Nat.le_mul_of_pos_left n a) c
    refine ⟨by simp, fun q => absurd q (by decide), fun _ => ⟨fun q => absurd q (by decide), fun _ => ⟨fun q => absurd q (by decide), fun _ => ⟨fun q => absurd q (by decide), fun _ => ⟨fun q => absurd q (by decide), fun _ => ⟨fun q => absurd q (by decide), fun _ => ⟨fun _ => ⟨by simp, ?_⟩, fun q => absurd rfl q⟩⟩⟩⟩⟩⟩⟩
    exact p_r11_gridEnds (m := m) (n := n) hm hn H
  · intro x y z a b c d H
    refine ⟨by simp, fun q => absurd q (by decide), fun _ => ⟨fun q => absurd q (by decide), fun _ => ⟨fun q => absurd q (by decide), fun _ => ⟨fun q => absurd q (by decide), fun _ => ⟨fun q => absurd q (by decide), fun _ => ⟨fun q => absurd q (by decide), fun _ => ⟨fun q => absurd q (by decide), fun _ => ⟨fun _ => ?_, fun q => absurd rfl q⟩⟩⟩⟩⟩⟩⟩⟩
    refine p_theta_ends (l := fun k => if k = 0 then x else if k = 1 then y else z) (fun k => ?_) (fun k => ?_) H
    · show 1 ≤ if k = 0 then x else if k = 1 then y else z
      split
      · exact a
      · split <;> assumption
    · show (if k = 0 then x else if k = 1 then y else z) ≤ 20
      split
      · omega
      · split <;> omega
theorem right_err {kind : Int} {l : List Int} (h : errK kind l = 0) : ¬ (kind < 0 ∨ 8 < kind) ∧ l.length = nszF kind ∧ ∀ x ∈ l, 1 ≤ x := by
  obtain ⟨h1, h2, h3, _⟩ := errK_zero h
  exact ⟨by omega, h2, h3⟩
theorem p_r11_Made {kind : Int} {l : List Int} (he : errK kind l = 0) {R : Int → List E3 → Prop} (h : R (vrtK kind l) (gK kind l)) : ydM kind l R := by
  obtain ⟨h1, h2, h3⟩ := right_err he
  have hr := ye2 he
  have hE := yhf hr
  refine yeR h1 h2 h3 fun v hv hv2 => ?_
  have e : v = vrtK kind l := hv2 (by have := hr.vrt; omega)
  refine p_r11_ends hr ?_
  rw [e, ygt hr]
  rw [ygt hr] at h
  exact p_r08_Make hE.one hE.few hE.ok (by have := hE.len; omega) hE.mult h
theorem p_r11_Make {kind : Int} {l : List Int} {R : Int → List E3 → Int → Prop} (he : errK kind l ≠ 0 → R 0 [] (errK kind l)) (h : errK kind l = 0 → R (vrtK kind l) (gK kind l) 0) : yd0 kind l R :=
  yho ⟨fun q => p_r11_Made q (h q), fun q => he q⟩
theorem mem_line {a n i : Nat} (h : i < n) : (((a + i : Nat) : Int), ((a + i : Nat) : Int) + 1) ∈ ycl a n := List.mem_map.2 ⟨i, List.mem_range.2 h, rfl⟩
theorem ye5 {m n i k : Nat} (hi : i < m) (hk : k < n) : ((i : Int), ((m + k : Nat) : Int)) ∈ ycc m n := by
  simp only [ycc, List.mem_flatMap, List.mem_range, List.mem_map]
  exact ⟨i, hi, _, List.mem_map.2 ⟨k, List.mem_range.2 hk, rfl⟩, rfl⟩
theorem mem_comp {n a b : Nat} (h : a < b) (hb : b < n) : ((a : Int), (b : Int)) ∈ compL n := by
  simp only [compL, List.mem_flatMap, List.mem_range, List.mem_map]
  refine ⟨a, by omega, (b : Int), List.mem_map.2 ⟨b - a - 1, List.mem_range.2 (by omega), ?_⟩, rfl⟩
  omega
theorem mem_grid {m n i j : Nat} (hi : i < m) (hj : j < n) {e : Int × Int} (h : e ∈ yds m n i j) : e ∈ gridL m n := by
  simp only [gridL, List.mem_flatMap, List.mem_range]
  exact ⟨i, hi, j, hj, h⟩
theorem ygu (a : Nat) : ∀ m, wayL (segL a m) = (List.range m).map fun j => (atV a j, ((a + j : Nat) : Int))
  | 0 => rfl
  | m + 1 => by rw [segL_snoc, yfv, ygu a m, List.range_succ, List.map_append]; rfl
theorem mem_way {a m j : Nat} (h : j < m) : (atV a j, ((a + j : Nat) : Int)) ∈ wayL (segL a m ++ [1]) := by
  rw [yfv, ygu, List.mem_append]
  exact .inl (List.mem_map.2 ⟨j, List.mem_range.2 h, rfl⟩)
theorem mem_way1 {a m : Nat} : (atV a m, 1) ∈ wayL (segL a m ++ [1]) := by
  rw [yfv, List.mem_append]
  exact .inr (by simp)
theorem thL_sub {l : Nat → Nat} {k : Nat} {e : Int × Int} (h : e ∈ wayL (segL (nxt l k) (l k - 1) ++ [1])) : ∀ {n : Nat}, k < n → e ∈ thL l n
  | n + 1, hn => by
    rw [thL, List.mem_append]
    rcases (show k < n ∨ k = n by omega) with q | rfl
    · exact .inl (thL_sub h q)
    · exact .inr h
theorem nxt_two (l : Nat → Nat) : ∀ k, 2 ≤ nxt l k
  | 0 => Nat.le_refl _
  | k + 1 => by have := nxt_two l k; simp only [nxt]; omega
theorem atV_nat {a j : Nat} (ha : 2 ≤ a) : ∃ u : Nat, atV a j = u ∧ u ≠ 1 ∧ (u < a + j) ∧ u ≤ a + j - 1 := by
  unfold atV
  split
  · exact ⟨0, rfl, by omega, by omega, by omega⟩
  · exact ⟨a + j - 1, rfl, by omega, by omega, by omega⟩
theorem conn_theta {l : Nat → Nat} (h1 : ∀ k, 1 ≤ l k) {v : Nat} (hv : v < nxt l 3) (h0 : v ≠ 0) : ∃ u, u < nxt l 3 ∧ (if u = 1 then 100 else u) < (if v = 1 then 100 else v) + (if v = 1 then nxt l 3 else 0) ∧ Joins (thL l 3) v u := by
  have hm : ∀ k, k < 3 → nxt l (k + 1) ≤ nxt l 3 := by
    intro k hk
    rcases (show k = 0 ∨ k = 1 ∨ k = 2 by omega) with rfl | rfl | rfl <;> simp only [nxt] <;> omega
  have h2 := nxt_two l
  by_cases q1 : v = 1
  · subst q1
    obtain ⟨u, hu, hu1, hu2, hu3⟩ := atV_nat (a := nxt l 0) (j := l 0 - 1) (h2 0)
    have hs : nxt l (0 + 1) = nxt l 0 + (l 0 - 1) := rfl
    have := hm 0 (by omega)
    refine ⟨u, by omega, ?_, .inr (thL_sub (k := 0) ?_ (by omega))⟩
    · rw [if_neg hu1, if_pos rfl, if_pos rfl]; omega
    · rw [← hu]; exact mem_way1
  · have hk : ∃ k, k < 3 ∧ nxt l k ≤ v ∧ v < nxt l (k + 1) := by
      rcases Nat.lt_or_ge v (nxt l 1) with q | q
      · exact ⟨0, by omega, by show 2 ≤ v; omega, q⟩
      · rcases Nat.lt_or_ge v (nxt l 2) with q2 | q2
        · exact ⟨1, by omega, q, q2⟩
        · exact ⟨2, by omega, q2, hv⟩
    obtain ⟨k, hk3, hk1, hk2⟩ := hk
    have hs : nxt l (k + 1) = nxt l k + (l k - 1) := rfl
    obtain ⟨u, hu, hu1, hu2, hu3⟩ := atV_nat (a := nxt l k) (j := v - nxt l k) (h2 k)
    refine ⟨u, by omega, ?_, .inr (thL_sub (k := k) ?_ hk3)⟩
    · rw [if_neg hu1, if_neg q1, if_neg q1]; omega
    · have := mem_way (a := nxt l k) (m := l k - 1) (j := v - nxt l k) (by omega)
      rw [hu, show nxt l k + (v - nxt l k) = v by omega] at this
      exact this
theorem yeU {d : Nat} {l : List (Int × Int)} (h : ∀ v, v < d → v ≠ 0 → ∃ u, u < v ∧ Joins l v u) : ∃ r : Nat → Nat, ∀ v, v < d → v ≠ 0 → ∃ u, u < d ∧ r u < r v ∧ Joins l v u :=
  ⟨id, fun v hv h0 => by obtain ⟨u, h1, h2⟩ := h v hv h0; exact ⟨u, by omega, h1, h2⟩⟩
theorem near_K {kind : Int} {l : List Int} (h : Right kind l) : ∃ r : Nat → Nat, ∀ v, v < (vrtK kind l).toNat → v ≠ 0 → ∃ u, u < (vrtK kind l).toNat ∧ r u < r v ∧ Joins (yfQ kind l) v u := by
  have hline : ∀ {a n v : Nat}, a < v → v ≤ a + n → (((v - 1 : Nat) : Int), (v : Int)) ∈ ycl a n := fun {a n v} h1 h2 => by
    have := mem_line (a := a) (n := n) (i := v - 1 - a) (by omega)
    rw [show ((a + (v - 1 - a) : Nat) : Int) + 1 = (v : Int) by omega, show ((a + (v - 1 - a) : Nat) : Int) = ((v - 1 : Nat) : Int) by omega] at this
    exact this
  refine ycA h (P := fun kind l => ∃ r : Nat → Nat, ∀ v, v < (vrtK kind l).toNat → v ≠ 0 → ∃ u, u < (vrtK kind l).toNat ∧ r u < r v ∧ Joins (yfQ kind l) v u) (fun n a b => yeU fun v hv h0 => ?_) (fun n a b => yeU fun v hv h0 => ?_) (fun n a b => yeU fun v hv h0 => ?_) (fun n a b => yeU fun v hv h0 => ?_) (fun n a b => yeU fun v hv h0 => ?_) (fun n a b => yeU fun v hv h0 => ?_) (fun m n a b c => ?_) (fun m n a b c => yeU fun v hv h0 => ?_) (fun x y z a b c d => ?_)
  · have hv : v < n := hv
    exact ⟨v - 1, by omega, .inr (hline (by omega) (by show v ≤ 0 + (n - 1); omega))⟩
  · have hv : v < n := hv
    exact ⟨v - 1, by omega, .inr (List.mem_append.2 (.inl (hline (by omega) (by show v ≤ 0 + (n - 1); omega))))⟩
  · have hv : v < n + 1 := hv
    refine ⟨0, by omega, .inr ?_⟩
    have := ye5 (m := 1) (n := n) (i := 0) (k := v - 1) (by omega) (by omega)
    rwa [show 1 + (v - 1) = v by omega] at this
  · have hv : v < n := hv
    exact ⟨0, by omega, .inr (mem_comp (by omega) hv)⟩
  · have e : (vrtK 4 [(n : Int)]).toNat = 2 := by
      unfold vrtK
      rw [if_pos rfl, if_neg (by show ¬ 50 < (n : Int); omega)]; rfl
    rw [e] at hv
    have : v = 1 := by omega
    subst this
    exact ⟨0, by omega, .inr (List.mem_replicate.2 ⟨by show n ≠ 0; omega, rfl⟩)⟩
  · have hv : v < n + 1 := hv
    refine ⟨0, by omega, .inr (List.mem_append.2 (.inl (List.mem_append.2 (.inl ?_))))⟩
    have := ye5 (m := 1) (n := n) (i := 0) (k := v - 1) (by omega) (by omega)
    rwa [show 1 + (v - 1) = v by omega] at this
  · refine ⟨fun v => if v = 0 then 0 else if v < m then 2 else 1, fun v hv h0 => ?_⟩
    have hv : v < m + n := hv
    show ∃ u, u < m + n ∧ _
    by_cases q : v < m
    · refine ⟨m, by omega, ?_, .inl ?_⟩
      · simp only; rw [if_neg (by omega), if_neg (by omega), if_neg h0, if_pos q]; omega
      · exact ye5 (m := m) (n := n) (i := v) (k := 0) q (by omega)
    · refine ⟨0, by omega, ?_, .inr ?_⟩
      · simp only; rw [if_pos True.intro, if_neg h0, if_neg q]; omega
      · have := ye5 (m := m) (n := n) (i := 0) (k := v - m) (by omega) (by omega)
        rwa [show m + (v - m) = v by omega] at this
  · have hd : (vrtK 7 [(m : Int), (n : Int)]).toNat = m * n := by
      show ((m : Int) * n).toNat = m * n
      rw [← Int.natCast_mul]; exact Int.toNat_natCast _
    rw [hd] at hv
    have hkv : v = (v / n) * n + v % n := by rw [Nat.mul_comm]; exact (Nat.div_add_mod v n).symm
    have hmod : v % n < n := Nat.mod_lt v (by omega)
    have hdv : v / n < m := Nat.div_lt_of_lt_mul (by rw [Nat.mul_comm]; omega)
    by_cases q : v % n = 0
    · have hi : 1 ≤ v / n := by
        rcases Nat.eq_zero_or_pos (v / n) with q2 | q2
        · rw [q2, q] at hkv; omega
        · exact q2
      obtain ⟨i, hi2⟩ : ∃ i, v / n = i + 1 := ⟨v / n - 1, by omega⟩
      rw [hi2, Nat.add_mul] at hkv
      refine ⟨v - n, by omega, .inr (mem_grid (m := m) (n := n) (i := i) (j := 0) (by omega) b ?_)⟩
      unfold yds
      rw [List.mem_append]
      refine .inr ?_
      show _ ∈ if i + 1 < m then _ else _
      rw [if_pos (by omega), List.mem_singleton, Prod.mk.injEq]
      show ((v - n : Nat) : Int) = ((i * n + 0 : Nat) : Int) ∧ (v : Int) = ((i * n + n + 0 : Nat) : Int)
      omega
    · refine ⟨v - 1, by omega, .inr (mem_grid (m := m) (n := n) (i := v / n) (j := v % n - 1) hdv (by omega) ?_)⟩
      unfold yds
      rw [List.mem_append]
      refine .inl ?_
      show _ ∈ if v % n - 1 + 1 < n then _ else _
      rw [if_pos (by omega), List.mem_singleton, Prod.mk.injEq]
      show ((v - 1 : Nat) : Int) = ((v / n * n + (v % n - 1) : Nat) : Int) ∧ (v : Int) = ((v / n * n + (v % n - 1) + 1 : Nat) : Int)
      omega
  · generalize hL : (fun k => max 1 (szF [(x : Int), (y : Int), (z : Int)] k)) = L
    have h0 : L 0 = x := by rw [← hL]; show max 1 x = x; omega
    have h1 : L 1 = y := by rw [← hL]; show max 1 y = y; omega
    have h2 : L 2 = z := by rw [← hL]; show max 1 z = z; omega
    have hge : ∀ k, 1 ≤ L k := fun k => by rw [← hL]; exact Nat.le_max_left _ _
    have e : yfQ 8 [(x : Int), (y : Int), (z : Int)] = thL L 3 := by
      show thL (fun k => szF [(x : Int), (y : Int), (z : Int)] k) 3 = _
      simp only [thL, nxt, h0, h1, h2]; rfl
    have hd : (vrtK 8 [(x : Int), (y : Int), (z : Int)]).toNat = nxt L 3 := by
      show ((x : Int) + y + z - 1).toNat = _
      simp only [nxt, h0, h1, h2]; omega
    rw [e, hd]
    refine ⟨fun v => (if v = 1 then 100 else v) + (if v = 1 then nxt L 3 else 0), fun v hv hv0 => ?_⟩
    obtain ⟨u, h3, h4, h5⟩ := conn_theta hge hv hv0
    refine ⟨u, h3, ?_, h5⟩
    simp only
    by_cases q : u = 1
    · subst q
      exfalso
      rw [if_pos rfl] at h4
      by_cases q2 : v = 1
      · subst q2
        rcases h5 with h5 | h5
        all_goals
          rcases (show ((1 : Int), (1 : Int)) ∈ thL L 3 from h5) with _
          have hh : ∀ e ∈ thL L 3, e.1 ≠ 1 := by
            intro e he
            have hw : ∀ k e, e ∈ wayL (segL (nxt L k) (L k - 1) ++ [1]) → e.1 ≠ 1 := by
              intro k e he
              rw [yfv, ygu, List.mem_append, List.mem_map, List.mem_singleton] at he
              rcases he with ⟨j, _, rfl⟩ | rfl
              · obtain ⟨u, hu, hu1, _⟩ := atV_nat (a := nxt L k) (j := j) (nxt_two L k)
                show atV (nxt L k) j ≠ 1
                rw [hu]; omega
              · obtain ⟨u, hu, hu1, _⟩ := atV_nat (a := nxt L k) (j := L k - 1) (nxt_two L k)
                show atV (nxt L k) (L k - 1) ≠ 1
                rw [hu]; omega
            simp only [thL, List.mem_append, List.not_mem_nil, false_or] at he
            rcases he with (he | he) | he
            · exact hw 0 e he
            · exact hw 1 e he
            · exact hw 2 e he
          exact hh _ h5 rfl
      · rw [if_neg q2, if_neg q2] at h4
        simp only [nxt, h0, h1, h2] at hv; omega
    · rw [if_neg q] at h4 ⊢
      rw [if_neg q]; exact h4
theorem connK {kind : Int} {l : List Int} (h : Right kind l) : ∀ q, q < (vrtK kind l).toNat → Conn (vrtK kind l).toNat (gK kind l) q := by
  have hE := yhf h
  obtain ⟨r, hr⟩ := near_K h
  exact conn_made hE.one hE.few hE.mult r hr
theorem gK_ok {kind : Int} {l : List Int} (h : Right kind l) : ycO (vrtK kind l).toNat (gK kind l) = 0 := by
  have hE := yhf h
  exact yhR hE.one hE.few hE.mult
theorem sumK {kind : Int} {l : List Int} (h : Right kind l) : ((gK kind l).map (·.2.2)).sum = ((yfQ kind l).length : Int) := sum_made _ (yhf h).ok
theorem yhH : ∀ (es : List E3), (∀ x ∈ es, 1 ≤ x.2.2) → (es.length : Int) ≤ (es.map (·.2.2)).sum
  | [], _ => by simp
  | x :: t, h => by
    have := yhH t fun y hy => h y (by simp [hy])
    have := h x (by simp)
    rw [List.length_cons, List.map_cons, List.sum_cons]; omega
theorem multK {kind : Int} {l : List Int} (h : Right kind l) : ∀ x ∈ gK kind l, 1 ≤ x.2.2 ∧ x.2.2 ≤ 50 := fun x hx => by
  obtain ⟨hE, _, _⟩ := ygo (gK_ok h)
  have := hE x hx; omega
theorem lenK {kind : Int} {l : List Int} (h : Right kind l) : (gK kind l).length ≤ 100 := by
  have h1 := yhH (gK kind l) fun x hx => (multK h x hx).1
  rw [sumK h] at h1
  have := (yhf h).len; omega
def genK (kind : Int) (l : List Int) : Int := ((yfQ kind l).length : Int) + 1 - vrtK kind l
theorem ygW {kind : Int} {l : List Int} {R : Int → Int → Prop} (hll : l.length ≤ 1000000) (he : errK kind l ≠ 0 → R 0 (errK kind l)) (h : Right kind l → R (genK kind l) 0) : ycf kind l R := by
  refine ydR hll (fun q => ⟨fun q2 => absurd q2 q, fun _ => he q⟩) fun hr => ⟨fun _ => ?_, fun q => absurd rfl q⟩
  have h := h hr
  unfold genK at h
  rw [← sumK hr] at h
  rw [ygt hr] at h ⊢
  exact p_graph_Genus (by have := lenK hr; omega) (gK_ok hr) (connK hr) h
end Go.Proofs.Ytdbpajnjhgocoaa

/- The cyclic groups and the spanning trees of the kinds. -/
namespace Go.Proofs.Ytdbpajnjhgocoaa
open Go Go.RowKit Go.Shelf Go.Proofs.Try
set_option linter.unusedVariables false
set_option linter.unusedSimpArgs false
def serF : Nat → Int → Int → Int
  | 0, a, _ => a
  | n + 1, a, b => serF n b (a + b)
def yeV : Nat → Int × Int → Int × Int
  | 0, p => p
  | n + 1, p => yeV n (p.2, p.1 + p.2)
theorem stepF_snoc : ∀ (n : Nat) (p : Int × Int), yeV (n + 1) p = ((yeV n p).2, (yeV n p).1 + (yeV n p).2)
  | 0, p => rfl
  | n + 1, p => by rw [yeV, stepF_snoc n]; rfl
theorem ygr : ∀ (n : Nat) (a b : Int), (yeV n (a, b)).1 = serF n a b
  | 0, a, b => rfl
  | n + 1, a, b => by rw [yeV, ygr n, serF]
theorem yeY {c : Int} (hc : 0 ≤ c) : ∀ (n : Nat) {a b : Int}, 0 ≤ a → 0 ≤ b → a ≤ c → b ≤ c → 0 ≤ (yeV n (a, b)).1 ∧ 0 ≤ (yeV n (a, b)).2 ∧ (yeV n (a, b)).1 ≤ c * 2 ^ n ∧ (yeV n (a, b)).2 ≤ c * 2 ^ n
  | 0, a, b, h1, h2, h3, h4 => by simp [yeV]; omega
  | n + 1, a, b, h1, h2, h3, h4 => by
    have := yeY (c := c * 2) (by omega) n (a := b) (b := a + b) h2 (by omega) (by omega) (by omega)
    rw [yeV]
    have e : c * 2 * 2 ^ n = c * 2 ^ (n + 1) := by rw [Int.pow_succ, Int.mul_assoc, Int.mul_comm 2]
    rw [e] at this
    exact this
theorem ser_loop {n : Nat} (hn : n ≤ 30) {a b : Int} (ha : 0 ≤ a ∧ a ≤ 2) (hb : 0 ≤ b ∧ b ≤ 2) {R : Int → Prop} (h : R (serF n a b)) {t : Int} (ht : t = n) :
    (∃ I2 : Nat → Int → Int → Int → Prop, (∃ m0, I2 m0 a b 0) ∧ ∀ (m2 : Nat) (a2 : Int) (b2 : Int) (v : Int), I2 m2 a2 b2 v → ((v < t → (In64 (a2 + b2) ∧ (In64 (v + 1) ∧ ∃ m3, m3 < m2 ∧ I2 m3 b2 (a2 + b2) (v + 1)))) ∧ (¬ (v < t) → R a2))) := by
  subst ht
  refine ⟨fun m a2 b2 v => ∃ k : Nat, v = k ∧ k + m = n ∧ (a2, b2) = yeV k (a, b), ⟨n, 0, rfl, by omega, rfl⟩, ?_⟩
  rintro m a2 b2 v ⟨k, rfl, hk, he⟩
  have hbd := yeY (c := 2) (by omega) k ha.1 hb.1 ha.2 hb.2
  rw [← he] at hbd
  simp only at hbd
  have hp : (2 : Int) * 2 ^ k ≤ 2 * 2 ^ 30 := by
    have : (2 : Nat) ^ k ≤ 2 ^ 30 := Nat.pow_le_pow_right (by omega) (by omega)
    have h2 : (2 : Int) ^ k ≤ 2 ^ 30 := by exact_mod_cast this
    omega
  refine ⟨fun hlt => ⟨⟨by omega, by omega⟩, ⟨by omega, by omega⟩, m - 1, by omega, k + 1, by omega, by omega, ?_⟩, fun hge => ?_⟩
  · rw [stepF_snoc, ← he]
  · have : k = n := by omega
    subst this
    have e : a2 = serF k a b := by rw [← ygr, ← he]
    rw [e]; exact h
theorem yeA {n : Nat} (hn : n ≤ 30) {a b : Int} (ha : 0 ≤ a ∧ a ≤ 2) (hb : 0 ≤ b ∧ b ≤ 2) {t : Int} (ht : t = n) {R : Int → Prop} (h : R (serF n a b)) : yb4 a b t R := ser_loop hn ha hb h ht
theorem yef {a b : Nat} {R : Int → Prop} (h : R ((Nat.gcd a b : Nat) : Int)) : yb3 a b R := by
  refine ⟨fun m x y => ∃ c d : Nat, x = c ∧ y = d ∧ m = d ∧ Nat.gcd c d = Nat.gcd a b, ⟨b, a, b, rfl, rfl, rfl, rfl⟩, ?_⟩
  rintro m x y ⟨c, d, rfl, rfl, rfl, hg⟩
  refine ⟨fun hlt => ⟨by omega, c % m, Nat.mod_lt c (by omega), m, c % m, rfl, ?_, rfl, ?_⟩, fun hge => ?_⟩
  · rw [Int.tmod_eq_emod_of_nonneg (by omega), Int.natCast_emod]
  · rw [← hg, Nat.gcd_comm m, Nat.gcd_comm c m]; exact (Nat.gcd_rec m c).symm
  · have : m = 0 := by omega
    subst this
    rw [Nat.gcd_zero_right] at hg
    rw [hg]; exact h
def gcdK (l : List Int) : Nat := Nat.gcd (Nat.gcd (szF l 0) (szF l 1)) (szF l 2)
def totK (l : List Int) : Int := (szF l 0 : Int) * szF l 1 + (szF l 0 : Int) * szF l 2 + (szF l 1 : Int) * szF l 2
def ordK (kind : Int) (l : List Int) : List Int :=
  if kind = 1 ∨ kind = 4 then [(szF l 0 : Int)]
  else if kind = 3 then List.replicate (szF l 0 - 2) (szF l 0 : Int)
  else if kind = 5 then (if szF l 0 % 2 = 1 then [serF (szF l 0) 2 1, serF (szF l 0) 2 1] else [serF (szF l 0) 0 1, 5 * serF (szF l 0) 0 1])
  else if kind = 6 then (if szF l 0 < 2 ∨ szF l 1 < 2 then [] else (List.replicate (szF l 1 - 2) (szF l 0 : Int) ++ List.replicate (szF l 0 - 2) (szF l 1 : Int)) ++ [(szF l 0 : Int) * szF l 1])
  else if kind = 8 then [(gcdK l : Int), totK l / (gcdK l : Int)]
  else []
def cycK (kind : Int) (l : List Int) : List Int := (ordK kind l).filter fun x => decide (x ≠ 1)
theorem ycd {L : List Int} (hl : L.length ≤ 1000) {R : List Int → Int → Prop} (h : R (L.filter fun x => decide (x ≠ 1)) 0) :
    (∃ I2 : Nat → (List Int) → Int → Prop, (∃ m0, I2 m0 ([]) 0) ∧ ∀ (m2 : Nat) (out : List Int) (v : Int), I2 m2 out v → 
    ((v < ((L.length : Nat) : Int) →
    ((0 ≤ v ∧ v < ((L.length : Nat) : Int)) ∧
    (((gi L v.toNat) = 1 →
    (In64 (v + 1) ∧
    ∃ m3, m3 < m2 ∧ I2 m3 out (v + 1))) ∧
    (¬ ((gi L v.toNat) = 1) →
    (out.length + 1 ≤ 1000000000 ∧
    (In64 (v + 1) ∧
    ∃ m4, m4 < m2 ∧ I2 m4 (out ++ [gi L v.toNat]) (v + 1))))))) ∧
    (¬ (v < ((L.length : Nat) : Int)) →
    R out 0))) := by
  refine ⟨fun m out v => Cnt L.length (fun k => out = (L.take k).filter fun x => decide (x ≠ 1)) m v, Cnt.start rfl, ?_⟩
  rintro m out _ ⟨k, rfl, rfl, hk, rfl⟩
  simp only [Int.toNat_natCast]
  refine ⟨fun hlt => ?_, fun hge => ?_⟩
  · have hkl : k < L.length := by omega
    have ht : L.take (k + 1) = L.take k ++ [gi L k] := by rw [List.take_add_one, List.getElem?_eq_getElem hkl, ybz hkl]; rfl
    refine ⟨⟨by omega, by omega⟩, fun q => Cnt.next hkl (by omega) ?_, fun q => ⟨?_, Cnt.next hkl (by omega) ?_⟩⟩
    · rw [ht, List.filter_append]; simp [q]
    · have := List.length_filter_le (fun x => decide (x ≠ 1)) (L.take k)
      rw [List.length_take] at this; omega
    · rw [ht, List.filter_append]; simp [q]
  · have e : k = L.length := by omega
    rw [e, List.take_length]; exact h
theorem yfw (n : Nat) : ((n : Int) - 2).toNat = n - 2 := by omega
theorem tmod2 (n : Nat) : ((n : Int).tmod 2 = 1) ↔ n % 2 = 1 := by
  rw [Int.tmod_eq_emod_of_nonneg (by omega)]; omega
theorem gcdK_pos {a b c : Nat} (ha : 1 ≤ a) : 0 < Nat.gcd (Nat.gcd a b) c := Nat.gcd_pos_of_pos_left c (Nat.gcd_pos_of_pos_left b ha)
theorem yci {a b : Nat} (ha : a ≤ 20) (hb : b ≤ 20) : 0 ≤ (a : Int) * b ∧ (a : Int) * b ≤ 400 := by
  have h : a * b ≤ 20 * 20 := Nat.mul_le_mul ha hb
  have e : (a : Int) * b = ((a * b : Nat) : Int) := (Int.natCast_mul a b).symm
  rw [e]; omega
theorem tdiv_pos {t g : Int} (ht : 0 ≤ t) : t.tdiv g = t / g := Int.tdiv_eq_ediv_of_nonneg ht
theorem ordK_len {kind : Int} {l : List Int} (h : Right kind l) : (ordK kind l).length ≤ 100 := by
  refine ycA h (P := fun kind l => (ordK kind l).length ≤ 100) (fun n a b => ?_) (fun n a b => ?_) (fun n a b => ?_) (fun n a b => ?_) (fun n a b => ?_) (fun n a b => ?_) (fun m n a b c => ?_) (fun m n a b c => ?_) (fun x y z a b c d => ?_)
  · exact Nat.zero_le _
  · show 1 ≤ 100; omega
  · exact Nat.zero_le _
  · show (List.replicate (n - 2) (n : Int)).length ≤ 100; rw [List.length_replicate]; omega
  · show 1 ≤ 100; omega
  · show (if n % 2 = 1 then [serF n 2 1, serF n 2 1] else [serF n 0 1, 5 * serF n 0 1]).length ≤ 100
    split <;> simp
  · show (if m < 2 ∨ n < 2 then [] else (List.replicate (n - 2) (m : Int) ++ List.replicate (m - 2) (n : Int)) ++ [(m : Int) * n]).length ≤ 100
    split
    · simp
    · simp; omega
  · exact Nat.zero_le _
  · show 2 ≤ 100; omega
theorem yhg {n : Nat} (hn : n ≤ 30) {a b : Int} (ha : 0 ≤ a ∧ a ≤ 2) (hb : 0 ≤ b ∧ b ≤ 2) : 0 ≤ serF n a b ∧ serF n a b ≤ 2 * 2 ^ 30 := by
  have := yeY (c := 2) (by omega) n ha.1 hb.1 ha.2 hb.2
  rw [ygr] at this
  have : (2 : Nat) ^ n ≤ 2 ^ 30 := Nat.pow_le_pow_right (by omega) (by omega)
  have h2 : (2 : Int) ^ n ≤ 2 ^ 30 := by exact_mod_cast this
  omega
theorem p_fam17 {a b c : Nat} (ha : 1 ≤ a) (ha2 : a ≤ 12) (hb2 : b ≤ 12) (hc2 : c ≤ 12) {R : List Int → Prop} (h : R (ordK 8 [(a : Int), (b : Int), (c : Int)])) : ybo [(a : Int), (b : Int), (c : Int)] R := by
  have e0 : gi [(a : Int), (b : Int), (c : Int)] (Int.toNat 0) = a := rfl
  have e1 : gi [(a : Int), (b : Int), (c : Int)] (Int.toNat 1) = b := rfl
  have e2 : gi [(a : Int), (b : Int), (c : Int)] (Int.toNat 2) = c := rfl
  unfold ybo
  rw [e0, e1, e2]
  have m1 := yci (a := a) (b := b) (by omega) (by omega)
  have m2 := yci (a := a) (b := c) (by omega) (by omega)
  have m3 := yci (a := b) (b := c) (by omega) (by omega)
  have hg := gcdK_pos (b := b) (c := c) ha
  refine ⟨by simp, by simp, by simp, yef (yef ?_)⟩
  rw [tdiv_pos (by omega)]
  have hT : 0 ≤ ((a : Int) * b + a * c + b * c) / ((Nat.gcd (Nat.gcd a b) c : Nat) : Int) := Int.ediv_nonneg (by omega) (by omega)
  have hT2 : ((a : Int) * b + a * c + b * c) / ((Nat.gcd (Nat.gcd a b) c : Nat) : Int) ≤ (a : Int) * b + a * c + b * c := Int.ediv_le_self _ (by omega)
  exact ⟨⟨by omega, by omega⟩, ⟨by omega, by omega⟩, ⟨by omega, by omega⟩, ⟨by omega, by omega⟩, ⟨by omega, by omega⟩, by omega, ⟨by omega, by omega⟩, h⟩
theorem yel {kind : Int} {l : List Int} {R : List Int → Int → Prop} (hll : l.length ≤ 1000000) (he : errK kind l ≠ 0 → R [] (errK kind l)) (h7 : Right kind l → kind = 7 → R [] 15) (h : Right kind l → kind ≠ 7 → R (cycK kind l) 0) : yba kind l R := by
  by_cases q : errK kind l = 0
  case neg => exact yaG hll (fun q2 => ⟨fun q2 => absurd q2 q, fun _ => he q⟩) fun q2 => absurd q2 q
  have hr := ye2 q
  have hL := ordK_len hr
  have h := h hr
  have h7 := h7 hr
  clear he
  revert q hll h hL h7
  refine ycA hr (P := fun kind l => l.length ≤ 1000000 → errK kind l = 0 → (ordK kind l).length ≤ 100 → (kind ≠ 7 → R (cycK kind l) 0) → (kind = 7 → R [] 15) → yba kind l R) ?_ ?_ ?_ ?_ ?_ ?_ ?_ ?_ ?_
  · refine fun n a b hll q hL H H7 => yaG hll (fun q2 => absurd q q2) fun _ => ⟨fun _ => ⟨fun _ => ycd (L := []) (by simp) (H (by decide)), fun q => absurd rfl q⟩, ?_⟩
    refine ⟨?_, ?_, ?_, ?_, ?_, ?_, ?_, ?_⟩ <;> exact fun q => absurd q (by decide)
  · refine fun n a b hll q hL H H7 => yaG hll (fun q2 => absurd q q2) fun _ => ⟨fun q => absurd q (by decide), fun _ => ⟨fun _ => ⟨⟨by decide, by show (1 : Int) ≤ 1; omega⟩, ycd (L := [(n : Int)]) (by simp) (H (by decide))⟩, fun q => absurd rfl q⟩, ?_⟩
    refine ⟨?_, ?_, ?_, ?_, ?_, ?_, ?_⟩ <;> exact fun q => absurd q (by decide)
  · refine fun n a b hll q hL H H7 => yaG hll (fun q2 => absurd q q2) fun _ => ⟨fun q => absurd q (by decide), fun q => absurd q (by decide), fun _ => ⟨fun _ => ycd (L := []) (by simp) (H (by decide)), fun q => absurd rfl q⟩, ?_⟩
    refine ⟨?_, ?_, ?_, ?_, ?_, ?_⟩ <;> exact fun q => absurd q (by decide)
  · refine fun n a b hll q hL H H7 => yaG hll (fun q2 => absurd q q2) fun _ => ⟨fun q => absurd q (by decide), fun q => absurd q (by decide), fun q => absurd q (by decide), fun _ => ⟨fun _ => ?_, fun q => absurd rfl q⟩, ?_⟩
    · refine ⟨by simp, ⟨?_, ?_⟩, ybT (n := n - 2) (by omega) (by exact yfw n) (ycd (by rw [List.length_replicate]; omega) (H (by decide)))⟩
      · show _ ≤ (n : Int) - 2; omega
      · show (n : Int) - 2 ≤ _; omega
    refine ⟨?_, ?_, ?_, ?_, ?_⟩ <;> exact fun q => absurd q (by decide)
  · refine fun n a b hll q hL H H7 => yaG hll (fun q2 => absurd q q2) fun _ => ⟨fun q => absurd q (by decide), fun q => absurd q (by decide), fun q => absurd q (by decide), fun q => absurd q (by decide), fun _ => ⟨fun _ => ⟨⟨by decide, by show (1 : Int) ≤ 1; omega⟩, ycd (L := [(n : Int)]) (by simp) (H (by decide))⟩, fun q => absurd rfl q⟩, ?_⟩
    refine ⟨?_, ?_, ?_, ?_⟩ <;> exact fun q => absurd q (by decide)
  · refine fun n a b hll q hL H H7 => yaG hll (fun q2 => absurd q q2) fun _ => ⟨fun q => absurd q (by decide), fun q => absurd q (by decide), fun q => absurd q (by decide), fun q => absurd q (by decide), fun q => absurd q (by decide), fun _ => ⟨fun _ => ?_, fun q => absurd rfl q⟩, ?_⟩
    · have H : R ((if n % 2 = 1 then [serF n 2 1, serF n 2 1] else [serF n 0 1, 5 * serF n 0 1]).filter fun x => decide (x ≠ 1)) 0 := H (by decide)
      refine ⟨by simp, by decide, fun q => ?_, fun q => ?_⟩
      · rw [if_pos ((tmod2 n).1 q)] at H
        exact yeA (n := n) (by omega) (by omega) (by omega) rfl (ybT (n := 2) (by omega) rfl (ycd (by simp) H))
      · rw [if_neg fun z => q ((tmod2 n).2 z)] at H
        have hs := yhg (n := n) (by omega) (a := 0) (b := 1) (by omega) (by omega)
        exact yeA (n := n) (by omega) (by omega) (by omega) rfl ⟨⟨by omega, by omega⟩, ycd (by simp) H⟩
    refine ⟨?_, ?_, ?_⟩ <;> exact fun q => absurd q (by decide)
  · refine fun m n a b c hll q hL H H7 => yaG hll (fun q2 => absurd q q2) fun _ => ⟨fun q => absurd q (by decide), fun q => absurd q (by decide), fun q => absurd q (by decide), fun q => absurd q (by decide), fun q => absurd q (by decide), fun q => absurd q (by decide), fun _ => ⟨fun _ => ?_, fun q => absurd rfl q⟩, ?_⟩
    · have H : R ((if m < 2 ∨ n < 2 then [] else (List.replicate (n - 2) (m : Int) ++ List.replicate (m - 2) (n : Int)) ++ [(m : Int) * n]).filter fun x => decide (x ≠ 1)) 0 := H (by decide)
      have e0 : gi [(m : Int), (n : Int)] (Int.toNat 0) = m := rfl
      have e1 : gi [(m : Int), (n : Int)] (Int.toNat 1) = n := rfl
      unfold ybJ
      rw [e0, e1]
      refine ⟨2 ≤ m ∧ 2 ≤ n, fun q => ?_, by simp, fun q => ?_, fun q => ⟨by simp, fun q2 => ?_, fun q2 => by omega⟩⟩
      · rw [if_neg (by omega)] at H
        have mm := yci (a := m) (b := n) (by omega) (by omega)
        refine ⟨by simp, by simp, ⟨by omega, by omega⟩, ⟨by omega, by omega⟩, ybT (n := n - 2) (by omega) (by exact yfw n) (ybT (n := m - 2) (by omega) (by exact yfw m) ?_)⟩
        exact ⟨by simp; omega, ⟨by omega, by omega⟩, by simp; omega, ycd (by simp; omega) H⟩
      · rw [if_pos (by omega)] at H
        exact ycd (L := []) (by simp) H
      · rw [if_pos (by omega)] at H
        exact ycd (L := []) (by simp) H
    refine ⟨?_, ?_⟩ <;> exact fun q => absurd q (by decide)
  · refine fun m n a b c hll q hL H H7 => yaG hll (fun q2 => absurd q q2) fun _ => ⟨fun q => absurd q (by decide), fun q => absurd q (by decide), fun q => absurd q (by decide), fun q => absurd q (by decide), fun q => absurd q (by decide), fun q => absurd q (by decide), fun q => absurd q (by decide), fun _ => ⟨fun _ => H7 rfl, fun q => absurd rfl q⟩, fun q => absurd q (by decide)⟩
  · refine fun x y z a b c d hll q hL H H7 => yaG hll (fun q2 => absurd q q2) fun _ => ⟨fun q => absurd q (by decide), fun q => absurd q (by decide), fun q => absurd q (by decide), fun q => absurd q (by decide), fun q => absurd q (by decide), fun q => absurd q (by decide), fun q => absurd q (by decide), fun q => absurd q (by decide), fun _ => ⟨fun _ => ?_, fun q => absurd rfl q⟩⟩
    exact p_fam17 a (by omega) (by omega) (by omega) (ycd (by simp [ordK]) (H (by decide)))
end Go.Proofs.Ytdbpajnjhgocoaa

/- The reference's orders and trees; the program's trees. -/
namespace Go.Proofs.Ytdbpajnjhgocoaa
open Go Go.RowKit Go.Shelf Go.Proofs.Try
set_option linter.unusedVariables false
set_option linter.unusedSimpArgs false
def ybX : List Int → Int
  | [] => 1
  | x :: t => x * ybX t
theorem ycZ : ∀ (a b : List Int), ybX (a ++ b) = ybX a * ybX b
  | [], b => by simp [ybX]
  | x :: t, b => by rw [List.cons_append, ybX, ybX, ycZ t b, Int.mul_assoc]
theorem ygq : ∀ n : Nat, (1 : Int) ^ n = 1
  | 0 => rfl
  | n + 1 => by rw [Int.pow_succ, ygq n]; rfl
theorem yey (x : Int) : ∀ n, ybX (List.replicate n x) = x ^ n
  | 0 => by simp [ybX]
  | n + 1 => by rw [List.replicate_succ, ybX, yey x n, Int.pow_succ, Int.mul_comm]
theorem yew : ∀ l : List Int, ybX (l.filter fun x => decide (x ≠ 1)) = ybX l
  | [] => rfl
  | x :: t => by
    rw [List.filter_cons]
    by_cases q : x = 1
    · subst q; rw [if_neg (by decide), yew t, ybX, Int.one_mul]
    · rw [if_pos (by simpa using q), ybX, ybX, yew t]
theorem ye6 : ∀ {l : List Int}, (∀ x ∈ l, 1 ≤ x) → 1 ≤ ybX l
  | [], _ => Int.le_refl _
  | x :: t, h => by
    have h1 := h x (by simp)
    have h2 := ye6 (l := t) fun y hy => h y (by simp [hy])
    have := Int.mul_le_mul h1 h2 (by decide) (by omega)
    rw [ybX]; omega
theorem prodF_take {l : List Int} (h : ∀ x ∈ l, 1 ≤ x) (k : Nat) : 1 ≤ ybX (l.take k) ∧ ybX (l.take k) ≤ ybX l := by
  have h1 : 1 ≤ ybX (l.take k) := ye6 fun x hx => h x (List.mem_of_mem_take hx)
  have h2 : 1 ≤ ybX (l.drop k) := ye6 fun x hx => h x (List.mem_of_mem_drop hx)
  refine ⟨h1, ?_⟩
  have e : ybX l = ybX (l.take k) * ybX (l.drop k) := by rw [← ycZ, List.take_append_drop]
  have := Int.mul_le_mul_of_nonneg_left h2 (show 0 ≤ ybX (l.take k) by omega)
  rw [Int.mul_one] at this
  rw [e]; exact this
def cntK (kind : Int) (l : List Int) : Int :=
  if kind = 1 ∨ kind = 4 then (szF l 0 : Int)
  else if kind = 3 then (szF l 0 : Int) ^ (szF l 0 - 2)
  else if kind = 5 then serF (2 * szF l 0) 2 1 - 2
  else if kind = 6 then (szF l 0 : Int) ^ (szF l 1 - 1) * (szF l 1 : Int) ^ (szF l 0 - 1)
  else if kind = 8 then totK l
  else 1
theorem yeW {a b n m : Nat} (h : a ≤ b) (h2 : n ≤ m) (hb : 1 ≤ b) : (a : Int) ^ n ≤ ((b ^ m : Nat) : Int) := by
  have : a ^ n ≤ b ^ m := Nat.le_trans (Nat.pow_le_pow_left h n) (Nat.pow_le_pow_right hb h2)
  have h3 : ((a ^ n : Nat) : Int) ≤ ((b ^ m : Nat) : Int) := Int.ofNat_le.2 this
  rwa [Int.natCast_pow] at h3
theorem yhc {a : Nat} (h : 1 ≤ a) (n : Nat) : 1 ≤ (a : Int) ^ n := by
  have := ye6 (l := List.replicate n (a : Int)) fun x hx => by rw [(List.mem_replicate.1 hx).2]; omega
  rwa [yey] at this
structure OrdOk (kind : Int) (l : List Int) : Prop where
  one : ∀ x ∈ ordK kind l, 1 ≤ x
  prod : ybX (ordK kind l) = cntK kind l
  few : cntK kind l ≤ 100000000000
theorem ordOk {kind : Int} {l : List Int} (h : Right kind l) : OrdOk kind l := by
  refine ycA h (P := OrdOk) (fun n a b => ?_) (fun n a b => ?_) (fun n a b => ?_) (fun n a b => ?_) (fun n a b => ?_) (fun n a b => ?_) (fun m n a b c => ?_) (fun m n a b c => ?_) (fun x y z a b c d => ?_)
  · exact ⟨fun x hx => absurd hx (by simp [ordK]), rfl, by show (1 : Int) ≤ 100000000000; decide⟩
  · refine ⟨fun x hx => ?_, ?_, ?_⟩
    · have hx : x ∈ [(n : Int)] := hx
      rw [List.mem_singleton] at hx; omega
    · show (n : Int) * 1 = n; omega
    · show (n : Int) ≤ _; omega
  · exact ⟨fun x hx => absurd hx (by simp [ordK]), rfl, by show (1 : Int) ≤ 100000000000; decide⟩
  · refine ⟨fun x hx => ?_, ?_, ?_⟩
    · have hx : x ∈ List.replicate (n - 2) (n : Int) := hx
      rw [(List.mem_replicate.1 hx).2]; omega
    · exact yey _ _
    · have := yeW (a := n) (b := 12) (n := n - 2) (m := 10) b (by omega) (by omega)
      exact Int.le_trans this (by decide)
  · refine ⟨fun x hx => ?_, ?_, ?_⟩
    · have hx : x ∈ [(n : Int)] := hx
      rw [List.mem_singleton] at hx; omega
    · show (n : Int) * 1 = n; omega
    · show (n : Int) ≤ _; omega
  · rcases (show n = 1 ∨ n = 2 ∨ n = 3 ∨ n = 4 ∨ n = 5 ∨ n = 6 ∨ n = 7 ∨ n = 8 ∨ n = 9 ∨ n = 10 ∨ n = 11 by omega) with rfl | rfl | rfl | rfl | rfl | rfl | rfl | rfl | rfl | rfl | rfl <;> exact ⟨by decide, by decide, by decide⟩
  · have ho : ordK 6 [(m : Int), (n : Int)] = (if m < 2 ∨ n < 2 then [] else (List.replicate (n - 2) (m : Int) ++ List.replicate (m - 2) (n : Int)) ++ [(m : Int) * n]) := rfl
    have hc : cntK 6 [(m : Int), (n : Int)] = (m : Int) ^ (n - 1) * (n : Int) ^ (m - 1) := rfl
    have pm := yhc a (n - 1)
    have pn := yhc b (m - 1)
    refine ⟨fun x hx => ?_, ?_, ?_⟩
    · rw [ho] at hx
      split at hx
      · simp at hx
      · simp only [List.mem_append, List.mem_replicate, List.mem_singleton] at hx
        rcases hx with (⟨_, rfl⟩ | ⟨_, rfl⟩) | rfl
        · omega
        · omega
        · have := Int.mul_le_mul (show (1 : Int) ≤ m by omega) (show (1 : Int) ≤ n by omega) (by decide) (by omega)
          omega
    · rw [ho, hc]
      split
      · rename_i q
        rcases q with q | q
        · have : m = 1 := by omega
          subst this
          simp [ybX, ygq]
        · have : n = 1 := by omega
          subst this
          simp [ybX, ygq]
      · rename_i q
        rw [ycZ, ycZ, yey, yey, ybX, ybX, Int.mul_one]
        obtain ⟨m', rfl⟩ : ∃ m', m = m' + 2 := ⟨m - 2, by omega⟩
        obtain ⟨n', rfl⟩ : ∃ n', n = n' + 2 := ⟨n - 2, by omega⟩
        have e1 : n' + 2 - 2 = n' := by omega
        have e2 : m' + 2 - 2 = m' := by omega
        have e3 : n' + 2 - 1 = n' + 1 := by omega
        have e4 : m' + 2 - 1 = m' + 1 := by omega
        rw [e1, e2, e3, e4, Int.pow_succ, Int.pow_succ]
        generalize ((m' + 2 : Nat) : Int) ^ n' = A
        generalize ((n' + 2 : Nat) : Int) ^ m' = B
        generalize ((m' + 2 : Nat) : Int) = C
        generalize ((n' + 2 : Nat) : Int) = D
        rw [Int.mul_assoc, Int.mul_assoc, Int.mul_left_comm B C D]
    · rw [hc]
      have h1 := yeW (a := m) (b := 12) (n := n - 1) (m := n - 1) (by omega) (by omega) (by omega)
      have h2 := yeW (a := n) (b := 12) (n := m - 1) (m := m - 1) (by omega) (by omega) (by omega)
      have h3 := Int.mul_le_mul h1 h2 (by omega) (by omega)
      rw [← Int.natCast_mul, ← Nat.pow_add] at h3
      have h4 : 12 ^ (n - 1 + (m - 1)) ≤ 12 ^ 10 := Nat.pow_le_pow_right (by omega) (by omega)
      have h5 : ((12 ^ (n - 1 + (m - 1)) : Nat) : Int) ≤ ((12 ^ 10 : Nat) : Int) := Int.ofNat_le.2 h4
      have h6 : ((12 ^ 10 : Nat) : Int) ≤ 100000000000 := by decide
      omega
  · exact ⟨fun x hx => absurd hx (by simp [ordK]), rfl, by show (1 : Int) ≤ 100000000000; decide⟩
  · have hg := gcdK_pos (b := y) (c := z) a
    have m1 := yci (a := x) (b := y) (by omega) (by omega)
    have m2 := yci (a := x) (b := z) (by omega) (by omega)
    have m3 := yci (a := y) (b := z) (by omega) (by omega)
    have m4 := Int.mul_le_mul (show (1 : Int) ≤ x by omega) (show (1 : Int) ≤ y by omega) (by decide) (by omega)
    have ht : totK [(x : Int), (y : Int), (z : Int)] = (x : Int) * y + x * z + y * z := rfl
    have hgk : gcdK [(x : Int), (y : Int), (z : Int)] = Nat.gcd (Nat.gcd x y) z := rfl
    have ho : ordK 8 [(x : Int), (y : Int), (z : Int)] = [(gcdK [(x : Int), (y : Int), (z : Int)] : Int), totK [(x : Int), (y : Int), (z : Int)] / (gcdK [(x : Int), (y : Int), (z : Int)] : Int)] := rfl
    have hd : ((Nat.gcd (Nat.gcd x y) z : Nat) : Int) ∣ (x : Int) * y + x * z + y * z := by
      have dx : ((Nat.gcd (Nat.gcd x y) z : Nat) : Int) ∣ (x : Int) := Int.natCast_dvd_natCast.2 (Nat.dvd_trans (Nat.gcd_dvd_left _ _) (Nat.gcd_dvd_left _ _))
      have dy : ((Nat.gcd (Nat.gcd x y) z : Nat) : Int) ∣ (y : Int) := Int.natCast_dvd_natCast.2 (Nat.dvd_trans (Nat.gcd_dvd_left _ _) (Nat.gcd_dvd_right _ _))
      exact Int.dvd_add (Int.dvd_add (Int.dvd_trans dx (Int.dvd_mul_right _ _)) (Int.dvd_trans dx (Int.dvd_mul_right _ _))) (Int.dvd_trans dy (Int.dvd_mul_right _ _))
    have hm := Int.mul_ediv_cancel' hd
    have hq : 1 ≤ ((x : Int) * y + x * z + y * z) / ((Nat.gcd (Nat.gcd x y) z : Nat) : Int) := by
      rcases Int.lt_or_le 0 (((x : Int) * y + x * z + y * z) / ((Nat.gcd (Nat.gcd x y) z : Nat) : Int)) with q | q
      · omega
      · have h0 : 0 ≤ ((x : Int) * y + x * z + y * z) / ((Nat.gcd (Nat.gcd x y) z : Nat) : Int) := Int.ediv_nonneg (by omega) (by omega)
        have h0 : ((x : Int) * y + x * z + y * z) / ((Nat.gcd (Nat.gcd x y) z : Nat) : Int) = 0 := by omega
        rw [h0] at hm
        omega
    refine ⟨fun w hw => ?_, ?_, ?_⟩
    · rw [ho, ht, hgk] at hw
      simp only [List.mem_cons, List.not_mem_nil, or_false] at hw
      rcases hw with rfl | rfl
      · omega
      · exact hq
    · rw [ho, ht, hgk, ybX, ybX, ybX, Int.mul_one, hm]; rfl
    · show totK [(x : Int), (y : Int), (z : Int)] ≤ _
      rw [ht]; omega
theorem cycK_two {kind : Int} {l : List Int} (h : Right kind l) : ∀ x ∈ cycK kind l, 2 ≤ x := fun x hx => by
  unfold cycK at hx
  rw [List.mem_filter] at hx
  have h1 := (ordOk h).one x hx.1
  have h2 : x ≠ 1 := by simpa using hx.2
  omega
theorem prod_cyc {kind : Int} {l : List Int} (h : Right kind l) : ybX (cycK kind l) = cntK kind l := by
  unfold cycK; rw [yew]; exact (ordOk h).prod
theorem cycK_len {kind : Int} {l : List Int} (h : Right kind l) : (cycK kind l).length ≤ 100 := Nat.le_trans (List.length_filter_le _ _) (ordK_len h)
theorem take_gi {L : List Int} {k : Nat} (h : k < L.length) : L.take (k + 1) = L.take k ++ [gi L k] := by rw [List.take_add_one, List.getElem?_eq_getElem h, ybz h]; rfl
theorem ygP {kind : Int} {l : List Int} {R : Int → Int → Prop} (hll : l.length ≤ 1000000) (he : errK kind l ≠ 0 → R 0 (errK kind l)) (h7 : Right kind l → kind = 7 → R 0 15) (h : Right kind l → kind ≠ 7 → R (cntK kind l) 0) : ybU kind l R := by
  refine yel hll (fun q => ⟨fun q2 => absurd q2 q, fun _ => he q⟩) (fun hr q => ⟨fun q2 => absurd q2 (by decide), fun _ => h7 hr q⟩) fun hr q => ⟨fun _ => ?_, fun q2 => absurd rfl q2⟩
  have h := h hr q
  have h2 := cycK_two hr
  have hp := prod_cyc hr
  have hlen := cycK_len hr
  have hf := (ordOk hr).few
  rw [← hp] at h hf
  refine ⟨fun m out v => Cnt (cycK kind l).length (fun k => out = ybX ((cycK kind l).take k)) m v, Cnt.start rfl, ?_⟩
  rintro m out _ ⟨k, rfl, rfl, hk, rfl⟩
  simp only [Int.toNat_natCast]
  refine ⟨fun hlt => ?_, fun hge => ?_⟩
  · have hkl : k < (cycK kind l).length := by omega
    have e : ybX ((cycK kind l).take k) * gi (cycK kind l) k = ybX ((cycK kind l).take (k + 1)) := by rw [take_gi hkl, ycZ, ybX, ybX, Int.mul_one]
    have hb := prodF_take (l := cycK kind l) (fun x hx => by have := h2 x hx; omega) (k + 1)
    rw [e]
    exact ⟨⟨by omega, by omega⟩, ⟨by omega, by omega⟩, Cnt.next hkl (by omega) rfl⟩
  · have e : k = (cycK kind l).length := by omega
    rw [e, List.take_length]; exact h
end Go.Proofs.Ytdbpajnjhgocoaa

/- The laws on families of graphs. -/
namespace Go.Proofs.Ytdbpajnjhgocoaa
open Go Go.RowKit Go.Shelf Go.Proofs.Try
set_option linter.unusedVariables false
set_option linter.unusedSimpArgs false
theorem yeN {a b : List (Int × Int)} {R : Bool → Prop} (hl : a.length ≤ 1000000000) (e : a = b) (h : R true) : ycg a b R := by
  subst e
  refine ⟨fun _ => ⟨Cnt a.length fun _ => True, Cnt.start trivial, ?_⟩, fun q => absurd rfl q⟩
  rintro m _ ⟨k, rfl, rfl, hk, -⟩
  exact ⟨fun hlt => ⟨⟨by omega, by omega⟩, ⟨by omega, by omega⟩, fun _ => Cnt.next (by omega) (by omega) trivial, fun q => absurd rfl q⟩, fun _ => h⟩
theorem yh2 {n : Int} {a b : List E3} {R : Bool → Prop} (hl : a.length ≤ 1000000000) (e : a = b) (h : R true) : ydL n a n b R := by
  subst e
  refine ⟨True, fun _ => ⟨Cnt a.length fun _ => True, Cnt.start trivial, ?_⟩, fun _ => ⟨fun _ => trivial, fun q => absurd rfl q⟩, fun q => absurd rfl q⟩
  rintro m _ ⟨k, rfl, rfl, hk, -⟩
  exact ⟨fun hlt => ⟨⟨by omega, by omega⟩, ⟨by omega, by omega⟩, fun _ => Cnt.next (by omega) (by omega) trivial, fun q => absurd rfl q⟩, fun _ => h⟩
theorem p_err0 {kind : Int} {l : List Int} (h : Right kind l) : errK kind l = 0 := by
  have hk := h.k
  have hv := h.vrt
  unfold errK
  rw [if_neg (by omega), if_neg (by rw [h.len]; simp), if_neg, if_neg (by omega)]
  rintro ⟨x, hx, hx1⟩
  obtain ⟨i, hi, rfl⟩ := List.mem_iff_getElem.1 hx
  have := h.one i (by rw [← h.len]; exact hi)
  rw [← ybz hi] at hx1
  omega
theorem mk_ok {kind : Int} {l : List Int} (hll : l.length ≤ 1000000) (h0 : errK kind l = 0) {R : Int → List E3 → Int → Prop} (h : R (vrtK kind l) (gK kind l) 0) : ybl kind l R :=
  ydR hll (fun q => absurd h0 q) fun _ => h
theorem tr_ok {kind : Int} {l : List Int} (hll : l.length ≤ 1000000) (h0 : errK kind l = 0) (h7 : kind ≠ 7) {R : Int → Int → Prop} (h : R (cntK kind l) 0) : ybU kind l R :=
  ygP hll (fun q => absurd h0 q) (fun _ q => absurd q h7) fun _ _ => h
theorem cy_ok {kind : Int} {l : List Int} (hll : l.length ≤ 1000000) (h0 : errK kind l = 0) (h7 : kind ≠ 7) {R : List Int → Int → Prop} (h : R (cycK kind l) 0) : yba kind l R :=
  yel hll (fun q => absurd h0 q) (fun _ q => absurd q h7) fun _ _ => h
theorem ge_ok {kind : Int} {l : List Int} (hll : l.length ≤ 1000000) (h0 : errK kind l = 0) {R : Int → Int → Prop} (h : R (genK kind l) 0) : ycf kind l R :=
  ygW hll (fun q => absurd h0 q) fun _ => h
theorem yeX {R : Bool → Prop} (h : R true) : yc4 R := by
  have w0 : errK 5 [4] = 0 := by decide
  have t0 : errK 8 [2, 2, 4] = 0 := by decide
  have b0 : errK 6 [2, 3] = 0 := by decide
  refine mk_ok (by decide) w0 (tr_ok (by decide) w0 (by decide) (cy_ok (by decide) w0 (by decide) (ge_ok (by decide) w0 (mk_ok (by decide) t0 (cy_ok (by decide) t0 (by decide) (tr_ok (by decide) b0 (by decide) (cy_ok (by decide) b0 (by decide) ?_)))))))
  have E : ((((((((0 : Int) + 0) + 0) + 0) + 0) + 0) + 0) + 0) = 0 := rfl
  refine ⟨True, fun _ => ?_, ⟨by decide, by decide⟩, ⟨by decide, by decide⟩, ⟨by decide, by decide⟩, ⟨by decide, by decide⟩, ⟨by decide, by decide⟩, ⟨by decide, by decide⟩, ⟨by decide, by decide⟩, fun _ => ⟨fun _ => ⟨fun _ => ⟨fun _ => trivial, fun q => absurd (by decide) q⟩, fun q => absurd (by decide) q⟩, fun q => absurd (by decide) q⟩, fun q => absurd rfl q⟩
  have r1 := ye2 w0
  have r2 := ye2 t0
  refine yhe (by have := lenK r1; omega) (multK r1) (yeN (by decide) (by decide) ⟨fun _ => ?_, fun q => absurd rfl q⟩)
  refine ⟨True, fun _ => ?_, fun _ => yhe (by have := lenK r2; omega) (multK r2) (yeN (by decide) (by decide) ⟨fun _ => trivial, fun q => absurd rfl q⟩), fun q => absurd (by decide) q⟩
  refine ycz (by decide) ?_
  rw [decide_eq_true (by decide : cycK 5 [4] = [3, 15])]
  refine ⟨fun _ => ycz (by decide) ?_, fun q => absurd rfl q⟩
  rw [decide_eq_true (by decide : cycK 8 [2, 2, 4] = [2, 10])]
  refine ⟨fun _ => ycz (by decide) ?_, fun q => absurd rfl q⟩
  rw [decide_eq_true (by decide : cycK 6 [2, 3] = [2, 6])]
  exact h
theorem p_makes {kind : Int} {l : List Int} : ycJ kind l fun r => r = true := by
  refine ⟨fun _ => yeX rfl, fun q => ?_⟩
  have hll : l.length ≤ 1000000 := by omega
  refine yeP (ygi (ydR hll (fun q => ?_) fun hr => ?_))
  · refine p_r11_Make (fun _ => ?_) fun q2 => absurd q2 q
    exact yeX ⟨fun _ => ⟨fun _ => ⟨fun _ => yh2 (by simp) rfl ⟨fun _ => decide_eq_true rfl, fun q => absurd rfl q⟩, fun q => absurd rfl q⟩, fun q => absurd rfl q⟩, fun q => absurd rfl q⟩
  · refine p_r11_Make (fun q => ?_) fun _ => ?_
    · exact absurd (p_err0 hr) q
    · exact yeX ⟨fun _ => ⟨fun _ => ⟨fun _ => yh2 (by have := lenK hr; omega) rfl ⟨fun _ => decide_eq_true rfl, fun q => absurd rfl q⟩, fun q => absurd rfl q⟩, fun q => absurd rfl q⟩, fun q => absurd rfl q⟩
end Go.Proofs.Ytdbpajnjhgocoaa
