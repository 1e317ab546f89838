/- The walk of graph.Check. -/
import Derived.Test.YtnhmeckhlajeaaaChips
namespace Go.Proofs.Ytnhmeckhlajeaaa
open Go.RowKit
set_option maxRecDepth 100000
set_option maxHeartbeats 400000

def pcmpF (a b c d : Int) : Int := orF (cmpF a c) (cmpF b d)

theorem pcompare_any (a b c d : Int) (w : World) : Calls Try.prog 140 #[.agg #[.int .i64 a, .int .i64 b], .agg #[.int .i64 c, .int .i64 d]] w fun e w' =>
    e = .returned (.int .i64 (pcmpF a b c d)) ∧ Pure w w' := by
  go_enter Try.func140, Try.ntmps140
  go_wp2
  go_region_held3 (fun w' => w'.cell? ⟨w.heap.size, 0, none⟩ = some (.int .i64 a) ∧ w'.cell? ⟨w.heap.size, 1, none⟩ = some (.int .i64 b) ∧ w'.cell? ⟨w.heap.size + 1, 0, none⟩ = some (.int .i64 c) ∧ w'.cell? ⟨w.heap.size + 1, 1, none⟩ = some (.int .i64 d)) (simp [go_sem, World.cell?_alloc_past])
    (first
      | (go_at_call 159; refine (compare_any _ _ _).mono ?_; rintro e w' ⟨rfl, rfl⟩)
      | (go_at_call 158; refine (or_two _ _ (cmpF a c) (cmpF b d) _ (by simp [go_sem]) (by simp [go_sem])).mono ?_; rintro e w' ⟨rfl, rfl⟩))
  go_wp2
  go_ret
  exact ⟨rfl, (by repeat (first | exact Keeps.refl _ _ | assumption | refine Keeps.drew ?_ | refine Keeps.drewN ?_ _ | refine Keeps.alloc ?_ _ | refine Keeps.setRow ?_ (by simp) _ | refine Keeps.setRow ?_ (by simp; omega) _ | refine Keeps.setCell ?_ (by simp) _ | refine Keeps.setCell ?_ (by simp; omega) _))⟩

/-- The error of edges behind an edge from a to b. -/
def gchk (n : Int) : Int → Int → List E3 → Int
  | _, _, [] => 0
  | a, b, x :: t =>
    if (0 ≤ x.1 ∧ x.1 < n) ∧ (0 ≤ x.2.1 ∧ x.2.1 < n) ∧ 1 ≤ x.2.2 ∧ x.2.2 ≤ 50 then
      (if x.1 ≤ x.2.1 ∧ pcmpF a b x.1 x.2.1 < 0 then gchk n x.1 x.2.1 t else 9)
    else 2
/-- The error of a graph. -/
def gcheckF (n : Int) (es : List E3) : Int := if 1 ≤ n ∧ n ≤ 12 then gchk n (-1) (-1) es else 2

theorem gcheck_any (A : Option Addr) (es : List E3) (cap : Nat) (n : Int) (w : World) (hd : Edges w A es) (hlen : es.length ≤ 1000000000) :
    Calls Try.prog 104 #[.agg #[.int .i64 n, .slice A es.length cap]] w fun e w' => e = .returned (.int .i64 (gcheckF n es)) ∧ Pure w w' := by
  have HD := Lib.hid hd
  clear hd
  by_cases h1 : 1 ≤ n ∧ n ≤ 12
  case neg =>
    go_enter Try.func104, Try.ntmps104
    go_wp2
    all_goals try (exfalso; omega)
    all_goals go_ret
    all_goals exact ⟨ret_eq (by rw [gcheckF, if_neg h1]; rfl), (by repeat (first | exact Keeps.refl _ _ | assumption | refine Keeps.drew ?_ | refine Keeps.drewN ?_ _ | refine Keeps.alloc ?_ _ | refine Keeps.setRow ?_ (by simp) _ | refine Keeps.setRow ?_ (by simp; omega) _ | refine Keeps.setCell ?_ (by simp) _ | refine Keeps.setCell ?_ (by simp; omega) _))⟩
  obtain ⟨h1, h2⟩ := h1
  have hb1 : decide (n < 1) = false := by simp; omega
  have hb2 : decide (12 < n) = false := by simp; omega
  have hg : Hid (gcheckF n es = gchk n (-1) (-1) (es.drop 0)) := by rw [gcheckF, if_pos ⟨h1, h2⟩]; rfl
  go_enter Try.func104, Try.ntmps104
  go_wp2
  have hr1 := Row.alloc (Row.new w #[.int .i64 n, .slice A es.length cap] 24) (.cells #[.int .i64 (-1), .int .i64 (-1)] 155)
  have hr2 := Row.new (w.alloc (.cells #[.int .i64 n, .slice A es.length cap] 24)) #[.int .i64 (-1), .int .i64 (-1)] 155
  have hk0 : Pure w ((w.alloc (.cells #[.int .i64 n, .slice A es.length cap] 24)).alloc (.cells #[.int .i64 (-1), .int .i64 (-1)] 155)) := (by repeat (first | exact Keeps.refl _ _ | assumption | refine Keeps.drew ?_ | refine Keeps.drewN ?_ _ | refine Keeps.alloc ?_ _ | refine Keeps.setRow ?_ (by simp) _ | refine Keeps.setRow ?_ (by simp; omega) _ | refine Keeps.setCell ?_ (by simp) _ | refine Keeps.setCell ?_ (by simp; omega) _))
  simp only [World.size_alloc] at hr1 hr2
  go_loopw [19] (fun i wr => ∃ (k : Nat) (la lb : Int), k ≤ es.length ∧ i = .int .i64 k ∧ Row wr w.heap.size 24 2 [.int .i64 n, .slice A es.length cap] ∧ Row wr (w.heap.size + 1) 155 2 [.int .i64 la, .int .i64 lb] ∧ Pure w wr ∧ Hid (gcheckF n es = gchk n la lb (es.drop k))) (fun i _ => es.length - (intOf i).toNat)
  case atStart => exact ⟨0, -1, -1, Nat.zero_le _, rfl, hr1, hr2, hk0, hg⟩
  case round =>
    clear hg hr1 hr2 hk0
    obtain ⟨k, la, lb, hk, rfl, hr1, hr2, hp, hg⟩ := hrel
    by_cases hlt : k < es.length
    · obtain ⟨b, off, rfl, hb, hc⟩ := HD.out (by omega)
      obtain ⟨c0, c1, c2⟩ := hc k hlt
      clear hc
      replace c0 := hp.cell id c0
      replace c1 := hp.cell id c1
      replace c2 := hp.cell id c2
      have r10 := Row.cell hr1 (i := 0) rfl
      have r20 := Row.cell hr2 (i := 0) rfl
      have r21 := Row.cell hr2 (i := 1) rfl
      have f20 := Row.frozen hr2 0
      have f21 := Row.frozen hr2 1
      have hsz := hr2.lt
      have hsz0 := hr1.lt
      have hbw : b < wr.heap.size := Nat.lt_of_lt_of_le hb hp.size
      have e1 : Row ((wr.alloc (.cells #[.int .i64 (ge es k).1, .int .i64 (ge es k).2.1, .int .i64 (ge es k).2.2] 117)).alloc (.cells #[.int .i64 (ge es k).1, .int .i64 (ge es k).2.1] 155)) (wr.heap.size + 1) 155 2 [.int .i64 (ge es k).1, .int .i64 (ge es k).2.1] := by
        have := Row.new (wr.alloc (.cells #[.int .i64 (ge es k).1, .int .i64 (ge es k).2.1, .int .i64 (ge es k).2.2] 117)) #[.int .i64 (ge es k).1, .int .i64 (ge es k).2.1] 155
        rw [World.size_alloc] at this; exact this
      have e2 := Row.alloc (Row.alloc hr1 (.cells #[.int .i64 (ge es k).1, .int .i64 (ge es k).2.1, .int .i64 (ge es k).2.2] 117)) (.cells #[.int .i64 (ge es k).1, .int .i64 (ge es k).2.1] 155)
      have e3 := Row.alloc (Row.alloc hr2 (.cells #[.int .i64 (ge es k).1, .int .i64 (ge es k).2.1, .int .i64 (ge es k).2.2] 117)) (.cells #[.int .i64 (ge es k).1, .int .i64 (ge es k).2.1] 155)
      have e4 : Pure w ((wr.alloc (.cells #[.int .i64 (ge es k).1, .int .i64 (ge es k).2.1, .int .i64 (ge es k).2.2] 117)).alloc (.cells #[.int .i64 (ge es k).1, .int .i64 (ge es k).2.1] 155)) := (by repeat (first | exact Keeps.refl _ _ | assumption | refine Keeps.drew ?_ | refine Keeps.drewN ?_ _ | refine Keeps.alloc ?_ _ | refine Keeps.setRow ?_ (by simp) _ | refine Keeps.setRow ?_ (by simp; omega) _ | refine Keeps.setCell ?_ (by simp) _ | refine Keeps.setCell ?_ (by simp; omega) _))
      have hne : ¬ w.heap.size + 1 < w.heap.size := by omega
      go_wp2_with (first | (go_at_call 139; refine (vertex_any _ _ _).mono ?_; rintro e w' ⟨rfl, rfl⟩) | (go_at_call 140; refine (pcompare_any _ _ _ _ _).mono ?_; rintro e w1 ⟨rfl, hp1⟩; have k1 := hp1.row e1 id; have k2 := hp1.row e2 id; have k3 := hp1.row e3 id; have k4 := Pure.after e4 hp1; clear e1 e2 e3 e4 hp1; have q0 := Row.cell k1 (i := 0) rfl; have q1 := Row.cell k1 (i := 1) rfl; have q2 := Row.frozen k3 0; have q3 := Row.frozen k3 1; have q4 := Row.cell k3 (i := 0) rfl; have q5 := Row.cell k3 (i := 1) rfl))
      all_goals (first
        | (go_ret
           refine ⟨ret_eq (int_eq ?_), (by repeat (first | exact Keeps.refl _ _ | assumption | refine Keeps.drew ?_ | refine Keeps.drewN ?_ _ | refine Keeps.alloc ?_ _ | refine Keeps.setRow ?_ (by simp) _ | refine Keeps.setRow ?_ (by simp; omega) _ | refine Keeps.setCell ?_ (by simp) _ | refine Keeps.setCell ?_ (by simp; omega) _))⟩
           rw [hg.out, ge_drop hlt, gchk]
           first
             | rw [if_neg (by omega)]
             | rw [if_pos (by omega), if_neg (by omega)])
        | (refine ⟨⟨k + 1, (ge es k).1, (ge es k).2.1, by omega, by go_num, (k2.far (by simp) _).far (by simp) _, (k3.set_ 0 _).set_ 1 _, (k4.setCell (fun h => absurd h (by simp)) _).setCell (fun h => absurd h (by simp)) _, ?_⟩, by simp [intOf]; omega⟩
           show gcheckF n es = _
           rw [hg.out, ge_drop hlt, gchk, if_pos (by omega), if_pos (by omega)]))
    · go_wp2
      go_ret
      refine ⟨ret_eq (int_eq ?_), hp⟩
      rw [hg.out, List.drop_eq_nil_of_le (by omega), gchk]
end Go.Proofs.Ytnhmeckhlajeaaa
