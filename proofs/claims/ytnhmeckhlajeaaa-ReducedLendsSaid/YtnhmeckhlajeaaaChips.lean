/- The walks of package chips and of the small library functions that the checks use: what each returns, for all arguments. -/
import Derived.Test.YtnhmeckhlajeaaaProg
import Derived.Test.YtnhmeckhlajeaaaMem
import Derived.ChangeAlike
import Derived.Handy
import Derived.Deep.QuietTactic
import Derived.BigQuiet
import Derived.Deep.RegionHeld3
namespace Go.Proofs.Ytnhmeckhlajeaaa
open Go.RowKit
set_option maxRecDepth 100000
set_option maxHeartbeats 400000

theorem int_info : (Try.prog.info? 3).map (fun i => (i.zero, i.size, i.bytes)) = some (some (.int .i64 0), 1, 8) := by kernel_rfl

theorem make_ints (n : Nat) (hn : n ≤ 1000000) (w : World) :
    (Instr.makeSlice 25 (.int .i64 (n : Int)) (.int .i64 (n : Int))).run Try.prog w = .ok (.slice (some ⟨w.heap.size, 0, none⟩) n n) (w.alloc (.cells (Array.replicate n (.int .i64 0)) 3)) := by
  obtain ⟨i0, hi, hz, hs, hb⟩ := info_parts int_info
  exact run_make_one _ _ i0 _ Try.underlying25 hi hz hs (by omega) rfl n hn w

/-- Is an int a number of chips? -/
def inF (k : Int) : Bool := decide (-1048576 ≤ k ∧ k ≤ 1048576)
/-- The error of a number of vertices. -/
def vertsF (n : Int) : Int := if 1 ≤ n ∧ n ≤ 12 then 0 else 2
/-- The error of a divisor on n vertices. -/
def checkF (d : List Int) (n : Int) : Int :=
  if vertsF n = 0 then (if (d.length : Int) = n then (if d.all inF then 0 else 2) else 8) else 2

theorem within_any (k : Int) (w : World) :
    Calls Try.prog 129 #[.int .i64 k] w fun e w' => e = .returned (.bool (inF k)) ∧ w = w' := by
  go_enter Try.func129, Try.ntmps129
  go_wp2
  all_goals go_ret
  all_goals exact ⟨by simp [inF]; try omega, rfl⟩

theorem vertices_any (n : Int) (w : World) :
    Calls Try.prog 128 #[.int .i64 n] w fun e w' => e = .returned (.int .i64 (vertsF n)) ∧ w = w' := by
  go_enter Try.func128, Try.ntmps128
  go_wp2
  all_goals go_ret
  all_goals exact ⟨by simp [vertsF]; try omega, rfl⟩

theorem all_iff_gi (p : Int → Bool) (d : List Int) : d.all p = true ↔ ∀ j, j < d.length → p (gi d j) = true := by
  rw [List.all_eq_true]
  constructor
  · intro h j hj; exact h _ (gi_mem hj)
  · intro h x hx
    obtain ⟨j, hj, rfl⟩ := List.getElem_of_mem hx
    rw [← gi_of_lt hj]; exact h j hj

theorem check_any (A : Option Addr) (d : List Int) (cap : Nat) (n : Int) (w : World) (hd : Ints w A d) (hlen : d.length ≤ 1000000000) :
    Calls Try.prog 84 #[.slice A d.length cap, .int .i64 n] w fun e w' => e = .returned (.int .i64 (checkF d n)) ∧ w = w' := by
  have HD := Lib.hid hd
  clear hd
  by_cases h1 : vertsF n = 0
  case neg =>
    have b1 := neT h1
    go_enter Try.func84, Try.ntmps84
    go_wp2_with (first | (go_at_call 128; refine (vertices_any _ _).mono ?_; rintro e w' ⟨rfl, rfl⟩))
    go_ret
    refine ⟨ret_eq (int_eq ?_), rfl⟩
    rw [checkF, if_neg h1]
    unfold vertsF at *; split <;> simp_all
  have b1 := neF h1
  have Hv := Lib.hid h1
  clear h1
  by_cases h2 : (d.length : Int) = n
  case neg =>
    have b2 := neT h2
    go_enter Try.func84, Try.ntmps84
    go_wp2_with (first | (go_at_call 128; refine (vertices_any _ _).mono ?_; rintro e w' ⟨rfl, rfl⟩))
    go_ret
    refine ⟨ret_eq (int_eq ?_), rfl⟩
    rw [checkF, if_pos Hv.out, if_neg h2]
  have b2 := neF h2
  have Hn := Lib.hid h2
  clear h2
  go_enter Try.func84, Try.ntmps84
  go_wp2_with (first | (go_at_call 128; refine (vertices_any _ _).mono ?_; rintro e w' ⟨rfl, rfl⟩))
  go_loopw [19] (fun i wr => ∃ k : Nat, k ≤ d.length ∧ i = .int .i64 k ∧ Hid (∀ j, j < k → inF (gi d j) = true) ∧ Same wr w) (fun i _ => d.length - (intOf i).toNat)
  case atStart => exact ⟨0, Nat.zero_le _, rfl, fun j hj => absurd hj (by omega), .refl _⟩
  case round =>
    obtain ⟨k, hk, rfl, Hall, hw⟩ := hrel
    obtain rfl : wr = w := hw.out
    clear hw
    by_cases hlt : k < d.length
    · obtain ⟨b, off, rfl, hb, hc⟩ := HD.out (by omega)
      have hck := hc k hlt
      clear hc
      go_wp2_with (first | (go_at_call 129; refine (within_any _ _).mono ?_; rintro e w' ⟨rfl, rfl⟩))
      · go_ret
        have h3 : (!inF (gi d k)) = true := by assumption
        refine ⟨ret_eq (int_eq ?_), rfl⟩
        rw [checkF, if_pos Hv.out, if_pos Hn.out, if_neg]
        rw [all_iff_gi]
        intro h4
        rw [h4 k hlt] at h3
        simp at h3
      · have h3 : (!inF (gi d k)) = false := by assumption
        go_roundw
        case rel =>
          refine ⟨k + 1, by omega, by go_num, ?_, .refl _⟩
          intro j hj
          by_cases e : j = k
          · subst e; simpa using h3
          · exact Hall.out j (by omega)
        case measure => simp [intOf]; omega
    · go_wp2
      go_ret
      refine ⟨ret_eq (int_eq ?_), rfl⟩
      rw [checkF, if_pos Hv.out, if_pos Hn.out, if_pos]
      rw [all_iff_gi]
      intro j hj
      exact Hall.out j (by omega)

/-! The order of ints, and of pairs of ints. -/
def cmpF (a b : Int) : Int := if a < b then -1 else if b < a then 1 else 0
theorem isNaN_any (a : Int) (w : World) : Calls Try.prog 130 #[.int .i64 a] w fun e w' => e = .returned (.bool false) ∧ w = w' := by
  go_enter Try.func130, Try.ntmps130
  go_wp2
  go_ret
  exact ⟨by simp, rfl⟩
theorem compare_any (a b : Int) (w : World) : Calls Try.prog 159 #[.int .i64 a, .int .i64 b] w fun e w' => e = .returned (.int .i64 (cmpF a b)) ∧ w = w' := by
  go_enter Try.func159, Try.ntmps159
  go_wp2_with (first | (go_at_call 130; refine (isNaN_any _ _).mono ?_; rintro e w' ⟨rfl, rfl⟩))
  all_goals go_ret
  all_goals refine ⟨ret_eq (int_eq ?_), rfl⟩
  all_goals unfold cmpF
  all_goals (split <;> try split)
  all_goals omega
theorem vertex_any (n v : Int) (w : World) : Calls Try.prog 139 #[.int .i64 n, .int .i64 v] w fun e w' => e = .returned (.bool (decide (0 ≤ v ∧ v < n))) ∧ w = w' := by
  go_enter Try.func139, Try.ntmps139
  go_wp2
  all_goals go_ret
  all_goals exact ⟨by simp; try omega, rfl⟩

def orF (x y : Int) : Int := if x ≠ 0 then x else y
theorem or_two (b off : Nat) (x y : Int) (w : World) (h0 : w.cell? ⟨b, off, none⟩ = some (.int .i64 x)) (h1 : w.cell? ⟨b, off + 1, none⟩ = some (.int .i64 y)) :
    Calls Try.prog 158 #[.slice (some ⟨b, off, none⟩) 2 2] w fun e w' => e = .returned (.int .i64 (orF x y)) ∧ w = w' := by
  go_enter Try.func158, Try.ntmps158
  go_wp2
  refine wp_loop_rounds 3 ?_
  repeat any_goals (rw [rounds_succ]; go_wp2)
  all_goals go_ret
  all_goals refine ⟨ret_eq (int_eq ?_), rfl⟩
  all_goals (unfold orF; simp_all)
end Go.Proofs.Ytnhmeckhlajeaaa
