/- The walks of the functions of package slices that the program uses, at slices of ints. -/
import Derived.Test.YtnhmeckhlajeaaaChips
import Derived.Laws.OwnMore
import Derived.Deep.Draws
namespace Go.Proofs.Ytnhmeckhlajeaaa
open Go.RowKit
set_option maxRecDepth 100000
set_option maxHeartbeats 400000

/-- Two lists are equal, compared one by one. -/
def sameF (a b : List Int) : Bool := decide (a = b)
theorem sameF_gi {a b : List Int} (hl : a.length = b.length) (h : ∀ k, k < a.length → gi a k = gi b k) : sameF a b = true := by
  unfold sameF; simp; exact gi_ext hl h
theorem sameF_ne {a b : List Int} {k : Nat} (h : gi a k ≠ gi b k) : sameF a b = false := by
  unfold sameF; simp; intro e; rw [e] at h; exact h rfl
theorem sameF_len {a b : List Int} (h : a.length ≠ b.length) : sameF a b = false := by
  unfold sameF; simp; intro e; rw [e] at h; exact h rfl

theorem equalD_any (A B : Option Addr) (a b : List Int) (ca cb : Nat) (w : World) (ha : Ints w A a) (hb : Ints w B b) (la : a.length ≤ 1000000000) :
    Calls Try.prog 19 #[.slice A a.length ca, .slice B b.length cb] w fun e w' => e = .returned (.bool (sameF a b)) ∧ Keeps (fun _ => False) w w' := by
  have HA := Lib.hid ha
  have HB := Lib.hid hb
  clear ha hb
  by_cases hl : a.length = b.length
  case neg =>
    have hn := neT (a := (a.length : Int)) (b := (b.length : Int)) (by omega)
    go_enter Try.func19, Try.ntmps19
    go_wp2
    go_ret
    exact ⟨ret_eq (by rw [sameF_len hl]; rfl), Keeps.refl _ _⟩
  have hn := neF (a := (a.length : Int)) (b := (b.length : Int)) (by omega)
  have HL := Lib.hid hl
  clear hl
  go_enter Try.func19, Try.ntmps19
  go_wp2
  go_loopw [13] (fun i wr => ∃ k : Nat, k ≤ a.length ∧ i = .int .i64 k ∧ Hid (∀ j, j < k → gi a j = gi b j) ∧ Pure w wr) (fun i _ => a.length - (intOf i).toNat)
  case atStart => exact ⟨0, Nat.zero_le _, rfl, fun j hj => absurd hj (by omega), Keeps.refl _ _⟩
  case round =>
    obtain ⟨k, hk, rfl, hall, hp⟩ := hrel
    by_cases hlt : k < a.length
    · obtain ⟨b1, o1, rfl, hb1, hc1⟩ := HA.out (by omega)
      obtain ⟨b2, o2, rfl, hb2, hc2⟩ := HB.out (by have := HL.out; omega)
      have c1 := hp.cell id (hc1 k hlt)
      have c2 := hp.cell id (hc2 k (by have := HL.out; omega))
      clear hc1 hc2
      have k2 : k < b.length := by have := HL.out; omega
      have i1 : (0 : Int) ≤ (k : Int) := by omega
      have i2 : (k : Int) < (a.length : Int) := by omega
      have i3 : (k : Int) < (b.length : Int) := by omega
      by_cases he : gi a k = gi b k
      · have hb' := neF he
        have HE := Lib.hid he
        clear he
        go_wp2
        go_region
        go_wp2
        go_roundw
        case rel =>
          refine ⟨k + 1, by omega, by go_num, ?_, hp.drew⟩
          intro j hj
          by_cases e : j = k
          · subst e; exact HE.out
          · exact hall.out j (by omega)
        case measure => simp [intOf]; omega
      · have hb' := neT he
        have HE := Lib.hid he
        clear he
        go_wp2
        go_region
        go_wp2
        go_ret
        exact ⟨ret_eq (by rw [sameF_ne HE.out]; rfl), hp.drew⟩
    · go_wp2
      go_ret
      refine ⟨ret_eq ?_, hp⟩
      rw [sameF_gi HL.out (fun j hj => hall.out j (by omega))]
      rfl

theorem equalS_any (A B : Option Addr) (a b : List Int) (ca cb : Nat) (w : World) (ha : Ints w A a) (hb : Ints w B b) (la : a.length ≤ 1000000000) :
    Calls Try.prog 20 #[.slice A a.length ca, .slice B b.length cb] w fun e w' => e = .returned (.bool (sameF a b)) ∧ Keeps (fun _ => False) w w' := by
  have HA := Lib.hid ha
  have HB := Lib.hid hb
  clear ha hb
  by_cases hl : a.length = b.length
  case neg =>
    have hn := neT (a := (a.length : Int)) (b := (b.length : Int)) (by omega)
    go_enter Try.func20, Try.ntmps20
    go_wp2
    go_ret
    exact ⟨ret_eq (by rw [sameF_len hl]; rfl), Keeps.refl _ _⟩
  have hn := neF (a := (a.length : Int)) (b := (b.length : Int)) (by omega)
  have HL := Lib.hid hl
  clear hl
  go_enter Try.func20, Try.ntmps20
  go_wp2
  go_loopw [13] (fun i wr => ∃ k : Nat, k ≤ a.length ∧ i = .int .i64 k ∧ Hid (∀ j, j < k → gi a j = gi b j) ∧ Pure w wr) (fun i _ => a.length - (intOf i).toNat)
  case atStart => exact ⟨0, Nat.zero_le _, rfl, fun j hj => absurd hj (by omega), Keeps.refl _ _⟩
  case round =>
    obtain ⟨k, hk, rfl, hall, hp⟩ := hrel
    by_cases hlt : k < a.length
    · obtain ⟨b1, o1, rfl, hb1, hc1⟩ := HA.out (by omega)
      obtain ⟨b2, o2, rfl, hb2, hc2⟩ := HB.out (by have := HL.out; omega)
      have c1 := hp.cell id (hc1 k hlt)
      have c2 := hp.cell id (hc2 k (by have := HL.out; omega))
      clear hc1 hc2
      have k2 : k < b.length := by have := HL.out; omega
      have i1 : (0 : Int) ≤ (k : Int) := by omega
      have i2 : (k : Int) < (a.length : Int) := by omega
      have i3 : (k : Int) < (b.length : Int) := by omega
      by_cases he : gi a k = gi b k
      · have hb' := neF he
        have HE := Lib.hid he
        clear he
        go_wp2
        go_region
        go_wp2
        go_roundw
        case rel =>
          refine ⟨k + 1, by omega, by go_num, ?_, hp.drew⟩
          intro j hj
          by_cases e : j = k
          · subst e; exact HE.out
          · exact hall.out j (by omega)
        case measure => simp [intOf]; omega
      · have hb' := neT he
        have HE := Lib.hid he
        clear he
        go_wp2
        go_region
        go_wp2
        go_ret
        exact ⟨ret_eq (by rw [sameF_ne HE.out]; rfl), hp.drew⟩
    · go_wp2
      go_ret
      refine ⟨ret_eq ?_, hp⟩
      rw [sameF_gi HL.out (fun j hj => hall.out j (by omega))]
      rfl

theorem equalI_any (A B : Option Addr) (a b : List Int) (ca cb : Nat) (w : World) (ha : Ints w A a) (hb : Ints w B b) (la : a.length ≤ 1000000000) :
    Calls Try.prog 33 #[.slice A a.length ca, .slice B b.length cb] w fun e w' => e = .returned (.bool (sameF a b)) ∧ Keeps (fun _ => False) w w' := by
  have HA := Lib.hid ha
  have HB := Lib.hid hb
  clear ha hb
  by_cases hl : a.length = b.length
  case neg =>
    have hn := neT (a := (a.length : Int)) (b := (b.length : Int)) (by omega)
    go_enter Try.func33, Try.ntmps33
    go_wp2
    go_ret
    exact ⟨ret_eq (by rw [sameF_len hl]; rfl), Keeps.refl _ _⟩
  have hn := neF (a := (a.length : Int)) (b := (b.length : Int)) (by omega)
  have HL := Lib.hid hl
  clear hl
  go_enter Try.func33, Try.ntmps33
  go_wp2
  go_loopw [13] (fun i wr => ∃ k : Nat, k ≤ a.length ∧ i = .int .i64 k ∧ Hid (∀ j, j < k → gi a j = gi b j) ∧ Pure w wr) (fun i _ => a.length - (intOf i).toNat)
  case atStart => exact ⟨0, Nat.zero_le _, rfl, fun j hj => absurd hj (by omega), Keeps.refl _ _⟩
  case round =>
    obtain ⟨k, hk, rfl, hall, hp⟩ := hrel
    by_cases hlt : k < a.length
    · obtain ⟨b1, o1, rfl, hb1, hc1⟩ := HA.out (by omega)
      obtain ⟨b2, o2, rfl, hb2, hc2⟩ := HB.out (by have := HL.out; omega)
      have c1 := hp.cell id (hc1 k hlt)
      have c2 := hp.cell id (hc2 k (by have := HL.out; omega))
      clear hc1 hc2
      have k2 : k < b.length := by have := HL.out; omega
      have i1 : (0 : Int) ≤ (k : Int) := by omega
      have i2 : (k : Int) < (a.length : Int) := by omega
      have i3 : (k : Int) < (b.length : Int) := by omega
      by_cases he : gi a k = gi b k
      · have hb' := neF he
        have HE := Lib.hid he
        clear he
        go_wp2
        go_region
        go_wp2
        go_roundw
        case rel =>
          refine ⟨k + 1, by omega, by go_num, ?_, hp.drew⟩
          intro j hj
          by_cases e : j = k
          · subst e; exact HE.out
          · exact hall.out j (by omega)
        case measure => simp [intOf]; omega
      · have hb' := neT he
        have HE := Lib.hid he
        clear he
        go_wp2
        go_region
        go_wp2
        go_ret
        exact ⟨ret_eq (by rw [sameF_ne HE.out]; rfl), hp.drew⟩
    · go_wp2
      go_ret
      refine ⟨ret_eq ?_, hp⟩
      rw [sameF_gi HL.out (fun j hj => hall.out j (by omega))]
      rfl


theorem own_row {w : World} {B e n : Nat} {v : Value} {xs : List Value} (h : w.ownsRow B e 1 v n xs) (hn : 0 < n) : ∃ g cap, v = .slice (some ⟨g, 0, none⟩) n cap ∧ B ≤ g ∧ Row w g e cap xs ∧ n ≤ cap ∧ cap ≤ maxLen := by
  rcases h.2 with ⟨_, h0⟩ | ⟨g, cap, cur, hv, hb, hg, hnc, hcm, hcs, htake⟩
  · omega
  · refine ⟨g, cap, hv, hb, ⟨cur, hg, by omega, ?_⟩, hnc, hcm⟩
    have := h.1
    rw [show xs.length = n * 1 by omega]
    exact htake
theorem ints_news {w : World} {b off : Nat} {xs : List Int} (h : ∀ k, k < xs.length → w.cell? ⟨b, off + k, none⟩ = some (.int .i64 (gi xs k))) : ∀ j u, (xs.map (Value.int .i64))[j]? = some u → w.cell? ((⟨b, off, none⟩ : Addr).add j) = some u := by
  intro j u hu
  have hj : j < xs.length := by
    rcases Nat.lt_or_ge j xs.length with h1 | h1
    · exact h1
    · rw [List.getElem?_eq_none (by simpa using h1)] at hu; cases hu
  rw [List.getElem?_map, List.getElem?_eq_getElem hj] at hu
  have hadd : (⟨b, off, none⟩ : Addr).add j = ⟨b, off + j, none⟩ := by unfold Addr.add; split <;> simp_all
  rw [hadd, h j hj, gi_of_lt hj]
  exact hu
theorem ints_one (xs : List Int) : ∀ u ∈ xs.map (Value.int .i64), u.oneCell' = true := by
  intro u hu
  simp at hu
  obtain ⟨a, _, rfl⟩ := hu
  rfl

theorem clone_any (A : Option Addr) (d : List Int) (ca : Nat) (w : World) (hd : Ints w A d) (h0 : 0 < d.length) (hl : d.length ≤ 1000000000) :
    Calls Try.prog 22 #[.slice A d.length ca] w fun e w' =>
      ∃ g cap, e = .returned (.slice (some ⟨g, 0, none⟩) d.length cap) ∧ w.heap.size ≤ g ∧ IRow w' g 3 cap d ∧ Pure w w' ∧ cap ≤ maxLen := by
  obtain ⟨i0, hi, hz0, hz1, hz2⟩ := info_parts int_info
  obtain ⟨b, off, rfl, hb, hc⟩ := hd h0
  have HC := Lib.hid hc
  clear hd hc
  have hnil : ∀ wx, (binOp .eql 26 (.slice (some ⟨b, off, none⟩) d.length ca) (.slice none 0 0)).run Try.prog wx = .ok (.bool false) wx := fun wx => Lib.run_eql_slice_nil (P := Try.prog) wx 26 3 (some ⟨b, off, none⟩) d.length ca 0 0 Try.underlying26
  have hown0 : (w.alloc (.cells #[] 3)).ownsRow w.heap.size 3 1 (.slice (some ⟨w.heap.size, 0, none⟩) 0 0) 0 [] := World.ownsRow_made w #[] 0 (Nat.le_refl _) (by unfold maxLen; omega) rfl
  have hnews := ints_news (w := w.alloc (.cells #[] 3)) (b := b) (off := off) (xs := d) (fun k hk => ((Keeps.refl (fun _ => False) w).alloc _).cell id (HC.out k hk))
  have HN := Lib.hid hnews
  clear hnews
  go_enter Try.func22, Try.ntmps22
  go_wp2_with (at_builtin; refine wpList_append_own _ rfl _ _ 26 rfl w.heap.size 3 i0 (.int .i64 0) 1 8 Try.underlying26 hi hz0 hz1 hz2 rfl (by decide) _ _ _ rfl hown0 ⟨b, off, none⟩ d.length ca (d.map (Value.int .i64)) rfl (by simp) HN.out (ints_one d) (by unfold maxLen; omega) (by omega) (by simp) ?_; intro v2 w2 hown2 hgrow2 _)
  obtain ⟨g, cap, hv, hg, hr, q1, q2⟩ := own_row hown2 (by omega)
  rw [hv]
  go_wp2
  go_ret
  refine ⟨g, cap, ret_eq (by simp), hg, by simpa [IRow] using hr, Keeps.grown (by repeat (first | exact Keeps.refl _ _ | assumption | refine Keeps.drew ?_ | refine Keeps.drewN ?_ _ | refine Keeps.alloc ?_ _ | refine Keeps.setRow ?_ (by simp) _ | refine Keeps.setRow ?_ (by simp; omega) _ | refine Keeps.setCell ?_ (by simp) _ | refine Keeps.setCell ?_ (by simp; omega) _)) hgrow2 (fun j e hj => ?_), by first | exact q1 | exact q2⟩
  cases e
  exact absurd hj (by simp)
end Go.Proofs.Ytnhmeckhlajeaaa
