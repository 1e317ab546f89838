/- The walks of package reduced: what is checked first, debts, the beginning of a state. -/
import Derived.Test.YtnhmeckhlajeaaaConn2
import Derived.Test.YtnhmeckhlajeaaaSlices
import Derived.Deep.RegionHeld3
namespace Go.Proofs.Ytnhmeckhlajeaaa
open Go.RowKit
set_option maxRecDepth 100000
set_option maxHeartbeats 1000000

/-- The error of a graph, a vertex and a divisor. -/
def givenF (n : Int) (es : List E3) (q : Int) (d : List Int) : Int :=
  if gcheckF n es = 0 then (if connF n es = true then (if 0 ≤ q ∧ q < n then checkF d n else 2) else 13) else gcheckF n es

theorem given_any (A D : Option Addr) (es : List E3) (d : List Int) (cap cd : Nat) (n q : Int) (w : World) (he : Edges w A es) (hel : es.length ≤ 1000000000) (hd : Ints w D d) (hdl : d.length ≤ 1000000000) :
    Calls Try.prog 63 #[.agg #[.int .i64 n, .slice A es.length cap], .int .i64 q, .slice D d.length cd] w fun e w' => e = .returned (.int .i64 (givenF n es q d)) ∧ Pure w w' := by
  by_cases hg : gcheckF n es = 0
  case neg =>
    have hb := neT hg
    have HG := Lib.hid hg
    clear hg
    go_enter Try.func63, Try.ntmps63
    go_wp2_with fail
    refine (connected_any A es cap n _ (he.keep (by repeat (first | exact Keeps.refl _ _ | assumption | refine Keeps.drew ?_ | refine Keeps.drewN ?_ _ | refine Keeps.alloc ?_ _ | refine Keeps.setRow ?_ (by simp) _ | refine Keeps.setRow ?_ (by simp; omega) _ | refine Keeps.setCell ?_ (by simp) _ | refine Keeps.setCell ?_ (by simp; omega) _))) hel).mono ?_
    rintro e w1 ⟨rfl, hp1⟩
    go_wp2
    go_ret
    exact ⟨ret_eq (int_eq (by rw [givenF, if_neg HG.out])), Pure.after (by repeat (first | exact Keeps.refl _ _ | assumption | refine Keeps.drew ?_ | refine Keeps.drewN ?_ _ | refine Keeps.alloc ?_ _ | refine Keeps.setRow ?_ (by simp) _ | refine Keeps.setRow ?_ (by simp; omega) _ | refine Keeps.setCell ?_ (by simp) _ | refine Keeps.setCell ?_ (by simp; omega) _)) hp1⟩
  have hb := neF hg
  by_cases hc : connF n es = true
  case neg =>
    have hc' : decide (gcheckF n es = 0 ∧ connF n es = true) = false := by simp [hg]; simpa using hc
    have HG := Lib.hid hg
    have HC := Lib.hid hc
    clear hg hc
    go_enter Try.func63, Try.ntmps63
    go_wp2_with fail
    refine (connected_any A es cap n _ (he.keep (by repeat (first | exact Keeps.refl _ _ | assumption | refine Keeps.drew ?_ | refine Keeps.drewN ?_ _ | refine Keeps.alloc ?_ _ | refine Keeps.setRow ?_ (by simp) _ | refine Keeps.setRow ?_ (by simp; omega) _ | refine Keeps.setCell ?_ (by simp) _ | refine Keeps.setCell ?_ (by simp; omega) _))) hel).mono ?_
    rintro e w1 ⟨rfl, hp1⟩
    rw [hc']
    clear hc'
    go_wp2
    go_ret
    exact ⟨ret_eq (int_eq (by rw [givenF, if_pos HG.out, if_neg HC.out])), Pure.after (by repeat (first | exact Keeps.refl _ _ | assumption | refine Keeps.drew ?_ | refine Keeps.drewN ?_ _ | refine Keeps.alloc ?_ _ | refine Keeps.setRow ?_ (by simp) _ | refine Keeps.setRow ?_ (by simp; omega) _ | refine Keeps.setCell ?_ (by simp) _ | refine Keeps.setCell ?_ (by simp; omega) _)) hp1⟩
  have hc' : decide (gcheckF n es = 0 ∧ connF n es = true) = true := by simp [hg, hc]
  have HG := Lib.hid hg
  have HC := Lib.hid hc
  clear hg hc
  by_cases hq : 0 ≤ q ∧ q < n
  · obtain ⟨hq0, hq1⟩ := hq
    have t1 : decide (q < 0) = false := by simp; omega
    have t2 : decide (n ≤ q) = false := by simp; omega
    go_enter Try.func63, Try.ntmps63
    go_wp2_with fail
    refine (connected_any A es cap n _ (he.keep (by repeat (first | exact Keeps.refl _ _ | assumption | refine Keeps.drew ?_ | refine Keeps.drewN ?_ _ | refine Keeps.alloc ?_ _ | refine Keeps.setRow ?_ (by simp) _ | refine Keeps.setRow ?_ (by simp; omega) _ | refine Keeps.setCell ?_ (by simp) _ | refine Keeps.setCell ?_ (by simp; omega) _))) hel).mono ?_
    rintro e w1 ⟨rfl, hp1⟩
    rw [hc']
    clear hc'
    have r0 := hp1.row (Row.new w #[.int .i64 n, .slice A es.length cap] 24) id
    have c0 := Row.cell r0 (i := 0) rfl
    have p1 : Pure w w1 := Pure.after (by repeat (first | exact Keeps.refl _ _ | assumption | refine Keeps.drew ?_ | refine Keeps.drewN ?_ _ | refine Keeps.alloc ?_ _ | refine Keeps.setRow ?_ (by simp) _ | refine Keeps.setRow ?_ (by simp; omega) _ | refine Keeps.setCell ?_ (by simp) _ | refine Keeps.setCell ?_ (by simp; omega) _)) hp1
    have hd1 := hd.keep p1
    go_wp2_with (go_at_call 84; refine (check_any D d cd n _ hd1 hdl).mono ?_; rintro e w' ⟨rfl, rfl⟩)
    go_ret
    exact ⟨ret_eq (int_eq (by rw [givenF, if_pos HG.out, if_pos HC.out, if_pos ⟨hq0, hq1⟩])), p1⟩
  · go_enter Try.func63, Try.ntmps63
    go_wp2_with fail
    refine (connected_any A es cap n _ (he.keep (by repeat (first | exact Keeps.refl _ _ | assumption | refine Keeps.drew ?_ | refine Keeps.drewN ?_ _ | refine Keeps.alloc ?_ _ | refine Keeps.setRow ?_ (by simp) _ | refine Keeps.setRow ?_ (by simp; omega) _ | refine Keeps.setCell ?_ (by simp) _ | refine Keeps.setCell ?_ (by simp; omega) _))) hel).mono ?_
    rintro e w1 ⟨rfl, hp1⟩
    rw [hc']
    clear hc'
    have r0 := hp1.row (Row.new w #[.int .i64 n, .slice A es.length cap] 24) id
    have c0 := Row.cell r0 (i := 0) rfl
    have p1 : Pure w w1 := Pure.after (by repeat (first | exact Keeps.refl _ _ | assumption | refine Keeps.drew ?_ | refine Keeps.drewN ?_ _ | refine Keeps.alloc ?_ _ | refine Keeps.setRow ?_ (by simp) _ | refine Keeps.setRow ?_ (by simp; omega) _ | refine Keeps.setCell ?_ (by simp) _ | refine Keeps.setCell ?_ (by simp; omega) _)) hp1
    go_wp2
    all_goals try (exfalso; omega)
    all_goals go_ret
    all_goals exact ⟨ret_eq (int_eq (by rw [givenF, if_pos HG.out, if_pos HC.out, if_neg hq])), p1⟩

/-- Has a vertex other than q a debt? -/
def owesF (q : Int) (d : List Int) : Bool := (List.range d.length).any fun v => decide ((v : Int) ≠ q ∧ gi d v < 0)
theorem owes_any (D : Option Addr) (d : List Int) (cd : Nat) (q : Int) (w : World) (hd : Ints w D d) (hdl : d.length ≤ 1000000000) :
    Calls Try.prog 75 #[.int .i64 q, .slice D d.length cd] w fun e w' => e = .returned (.bool (owesF q d)) ∧ Keeps (fun _ => False) w w' := by
  have HD := Lib.hid hd
  clear hd
  go_enter Try.func75, Try.ntmps75
  go_wp2
  go_loopw [9] (fun i wr => ∃ k : Nat, k ≤ d.length ∧ i = .int .i64 k ∧ Hid (∀ j, j < k → ¬ ((j : Int) ≠ q ∧ gi d j < 0)) ∧ Pure w wr) (fun i _ => d.length - (intOf i).toNat)
  case atStart => exact ⟨0, Nat.zero_le _, rfl, fun j hj => absurd hj (by omega), Keeps.refl _ _⟩
  case round =>
    obtain ⟨k, hk, rfl, hall, hp⟩ := hrel
    by_cases hlt : k < d.length
    · obtain ⟨b, off, rfl, hb, hc⟩ := HD.out (by omega)
      have c1 := hp.cell id (hc k hlt)
      clear hc
      by_cases hq : (k : Int) = q
      · have b1 := neF hq
        have HQ := Lib.hid hq
        clear hq
        go_wp2
        go_roundw
        case rel =>
          refine ⟨k + 1, by omega, by go_num, ?_, hp⟩
          intro j hj hh
          by_cases e : j = k
          · subst e; exact hh.1 HQ.out
          · exact hall.out j (by omega) hh
        case measure => simp [intOf]; omega
      · have b1 := neT hq
        have HQ := Lib.hid hq
        clear hq
        by_cases hn : gi d k < 0
        · have b2 : decide (gi d k < 0) = true := by simpa using hn
          have HN := Lib.hid hn
          clear hn
          go_wp2
          go_ret
          refine ⟨ret_eq ?_, hp⟩
          rw [show owesF q d = true from List.any_eq_true.2 ⟨k, List.mem_range.2 hlt, by simpa using ⟨HQ.out, HN.out⟩⟩]
          rfl
        · have b2 : decide (gi d k < 0) = false := by simpa using hn
          have HN := Lib.hid hn
          clear hn
          go_wp2
          go_roundw
          case rel =>
            refine ⟨k + 1, by omega, by go_num, ?_, hp⟩
            intro j hj hh
            by_cases e : j = k
            · subst e; exact HN.out hh.2
            · exact hall.out j (by omega) hh
          case measure => simp [intOf]; omega
    · go_wp2
      go_ret
      refine ⟨ret_eq ?_, hp⟩
      have hf : owesF q d = false := by
        unfold owesF
        rw [List.any_eq_false]
        intro v hv
        have := hall.out v (by rw [List.mem_range] at hv; omega)
        simpa using this
      rw [hf]
      rfl
end Go.Proofs.Ytnhmeckhlajeaaa
