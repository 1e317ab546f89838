/- The contract of result: the script is laid so that q does not fire; numbers out of range are an error. -/
import Derived.Test.YtnhmeckhlajeaaaLend
namespace Go.Proofs.Ytnhmeckhlajeaaa
open Go Go.RowKit Go.Shelf
set_option linter.unusedVariables false
set_option maxRecDepth 100000
set_option maxHeartbeats 1000000

/-- The script in which q does not fire. -/
def normS (s : List Int) (q : Nat) : List Int := s.map fun x => x - gi s q
theorem gi_norm {s : List Int} {q j : Nat} (h : j < s.length) : gi (normS s q) j = gi s j - gi s q := by
  rw [gi_of_lt (by simpa [normS] using h), gi_of_lt h]
  simp [normS]
structure ResNil (A1 : Option Addr) (l1 c1 : Nat) (A2 : Option Addr) (l2 c2 : Nat) : Prop where
  a1 : A1 = none
  l1 : l1 = 0
  c1 : c1 = 0
  a2 : A2 = none
  l2 : l2 = 0
  c2 : c2 = 0
structure ResOk (gd gs n cd cs : Nat) (d s : List Int) (A1 : Option Addr) (l1 c1 : Nat) (A2 : Option Addr) (l2 c2 : Nat) (w' : World) : Prop where
  a1 : A1 = some ⟨gd, 0, none⟩
  l1 : l1 = n
  c1 : c1 = cd
  a2 : A2 = some ⟨gs, 0, none⟩
  l2 : l2 = n
  c2 : c2 = cs
  row1 : IRow w' gd 3 cd d
  row2 : IRow w' gs 3 cs s
def ResPost (gd gs n cd cs q : Nat) (d s : List Int) (e : Int) (w : World) (A1 : Option Addr) (l1 c1 : Nat) (A2 : Option Addr) (l2 c2 : Nat) (er : Int) (w' : World) : Prop :=
  Keeps (fun j => j = gs) w w' ∧ ((e ≠ 0 ∧ er = e ∧ ResNil A1 l1 c1 A2 l2 c2) ∨ (e = 0 ∧ (checkF d n ≠ 0 ∨ checkF (normS s q) n ≠ 0) ∧ er = 11 ∧ ResNil A1 l1 c1 A2 l2 c2) ∨
    (e = 0 ∧ checkF d n = 0 ∧ checkF (normS s q) n = 0 ∧ er = 0 ∧ ResOk gd gs n cd cs d (normS s q) A1 l1 c1 A2 l2 c2 w'))
theorem result_any (X gd gs n : Nat) (A : Option Addr) (es : List E3) (cap cd cs q : Nat) (d s : List Int) (e : Int) (w : World) (hS : State w X gd gs n A es cap cd cs q d s e) (hq : q < n) (hn : n ≤ 12) (hbs : e = 0 → Bnd 100000000000 s) :
    Calls Try.prog 67 #[.pointer (some ⟨X, 0, none⟩)] w fun e' w' => ∃ A1 l1 c1 A2 l2 c2 er, e' = .returned (.tuple #[.slice A1 l1 c1, .slice A2 l2 c2, .int .i64 er]) ∧ ResPost gd gs n cd cs q d s e w A1 l1 c1 A2 l2 c2 er w' := by
  refine ok_reduced_state_result _ w (ResPost gd gs n cd cs q d s e w) ?_
  unfold sh_reduced_state_result
  obtain ⟨hX, hd, hs, hne, hdl, hsl⟩ := hS
  have hXs := hX.ne_ hs (by decide)
  refine ⟨e, hX.at_ 5 rfl, fun he => ?_, fun he => ⟨e, hX.drew.at_ 5 rfl, (Keeps.refl _ _).drew, .inl ⟨he, rfl, ⟨rfl, rfl, rfl, rfl, rfl, rfl⟩⟩⟩⟩
  have hbs := hbs he
  have ldq := ild (Row.drew hs) (i := (q : Int)) (by omega) (by omega)
  simp only [Int.toNat_natCast] at ldq
  refine ⟨_, _, _, hX.drew.at_ 4 rfl, _, hX.drew.at_ 2 rfl, ix_some (by omega) (by omega), _, ldq, _, _, _, hX.drew.at_ 4 rfl, ?_⟩
  refine ⟨fun m i w2 => ∃ (k : Nat) (l : List Int), m = n - k ∧ k ≤ n ∧ i = (k : Int) ∧ l.length = n ∧ (∀ j, j < n → gi l j = if j < k then gi s j - gi s q else gi s j) ∧ IRow w2 gs 3 cs l ∧ Keeps (fun j => j = gs) w w2, ⟨n, 0, s, rfl, by omega, rfl, hsl, fun j _ => by simp, Row.drew hs, (Keeps.refl _ _).drew⟩, ?_⟩
  rintro m i w2 ⟨k, l, rfl, hk, rfl, hll, hlf, hs2, K2⟩
  have hX2 := K2.row hX hXs
  have hd2 : IRow w2 gd 3 cd d := K2.row hd hne
  refine ⟨fun hlt => ?_, fun hge => ?_⟩
  · have ldk := ild hs2 (i := (k : Int)) (by omega) (by omega)
    simp only [Int.toNat_natCast] at ldk
    have h1 := hlf k (by omega)
    rw [if_neg (by omega)] at h1
    have h2 := hbs k
    have h3 := hbs q
    refine ⟨_, _, _, hX2.at_ 4 rfl, ix_some (by omega) (by omega), _, ldk, in64 (by omega), ix_some (by omega) (by omega), iwr hs2 (by omega) (by omega), fun w3 e3 => ⟨in64 (by omega), n - (k + 1), by omega, k + 1, l.set k (gi l k - gi s q), rfl, by omega, by omega, by simpa using hll, fun j hj => ?_, ?_, ?_⟩⟩
    · rw [gi_set (by omega)]
      split
      · rename_i e'; subst e'; rw [if_pos (by omega), h1]
      · rw [hlf j hj]
        by_cases h4 : j < k
        · rw [if_pos h4, if_pos (by omega)]
        · rw [if_neg h4, if_neg (by omega)]
    · rw [e3]; simpa using ist hs2 (k : Int) (gi l k - gi s q)
    · rw [e3]; exact K2.set_ rfl _ _
  · obtain rfl : k = n := by omega
    have hl : l = normS s q := gi_ext (by rw [hll]; simp [normS, hsl]) (fun j hj => by rw [hlf j (by omega), if_pos (by omega), gi_norm (by omega)])
    subst hl
    refine ⟨fun w' => w' = w2.drew ∧ checkF d k = 0 ∧ checkF (normS s q) k = 0, ?_, _, _, _, hX2.drew.at_ 3 rfl, _, by rw [add_zero0, add_zero_]; exact Row.cell hX2.drew (i := 0) rfl, ?_⟩
    · rintro w4 ⟨hw4, h1, h2⟩
      have hw4 := hw4.symm
      subst hw4
      exact ⟨_, _, _, hX2.drew.drew.at_ 3 rfl, _, _, _, hX2.drew.drew.at_ 4 rfl, K2.drew.drew, .inr (.inr ⟨he, h1, h2, rfl, ⟨rfl, hdl, rfl, rfl, hsl, rfl, Row.drew (Row.drew hd2), Row.drew (Row.drew hs2)⟩⟩)⟩
    · have hc1 := check_any (some ⟨gd, 0, none⟩) d cd (k : Int) w2.drew (IRow.ints (Row.drew hd2)) (by omega)
      have hc2 := check_any (some ⟨gs, 0, none⟩) (normS s q) cs (k : Int) w2.drew (IRow.ints (Row.drew hs2)) (by omega)
      rw [show (normS s q).length = s.length by simp [normS]] at hc2
      refine hc1.mono ?_
      rintro _ w5 ⟨rfl, h5⟩
      have h5 := h5.symm
      subst h5
      refine ⟨_, rfl, fun h0 => ⟨_, _, _, hX2.drew.at_ 4 rfl, _, by rw [add_zero0, add_zero_]; exact Row.cell hX2.drew (i := 0) rfl, hc2.mono ?_⟩, fun h0 => ⟨K2.drew, .inr (.inl ⟨he, .inl h0, rfl, ⟨rfl, rfl, rfl, rfl, rfl, rfl⟩⟩)⟩⟩
      rintro _ w6 ⟨rfl, h6⟩
      have h6 := h6.symm
      subst h6
      exact ⟨_, rfl, fun h1 => ⟨rfl, h0, h1⟩, fun h1 => ⟨K2.drew, .inr (.inl ⟨he, .inr h1, rfl, ⟨rfl, rfl, rfl, rfl, rfl, rfl⟩⟩)⟩⟩
end Go.Proofs.Ytnhmeckhlajeaaa
