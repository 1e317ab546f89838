/- Shallow forms of functions, made by program (sh.py), each with the proof that the code does so. -/
import Derived.Test.YtnhmeckhlajeaaaTy
namespace Go.Proofs.Ytnhmeckhlajeaaa
open Go Go.RowKit Go.Shelf
set_option linter.unusedVariables false
set_option maxRecDepth 100000
set_option maxHeartbeats 1000000
/-- sandpile/sandpileref08.edge: what its code does. -/
def sh_r08_edge (d : Int) (Ad : Option Addr) (ld : Nat) (cd : Nat) (i : Int) (w : World) (R : Int → World → Prop) : Prop :=
(∀ (g : Nat) (w2 : World), New w g w2 #[(Value.int .i64 d), (Value.slice Ad ld cd)] 24 →
(Ix Ad ld i ∧
(∃ x : Int, ∃ x2 : Int, ∃ x3 : Int, Cells w2 (ixA Ad i 3) 0 [(Value.int .i64 x), (Value.int .i64 x2), (Value.int .i64 x3)] ∧
(∀ (g2 : Nat) (w3 : World), New w2 g2 w3 #[(Value.int .i64 0), (Value.int .i64 0), (Value.int .i64 0)] 117 →
(g2 ≠ g ∧
∀ w4, w4 = w3.setCells g2 0 [(Value.int .i64 x), (Value.int .i64 x2), (Value.int .i64 x3)] →
(∃ J2 : World → Prop, (∀ (w5 : World), J2 w5 → ((x2 < x →
R 9 w5) ∧
(¬ (x2 < x) →
((0 < i →
(In64 (i - 1) ∧
(Ix Ad ld (i - 1) ∧
(∃ x4 : Int, ∃ x5 : Int, ∃ x6 : Int, Cells w5 (ixA Ad (i - 1) 3) 0 [(Value.int .i64 x4), (Value.int .i64 x5), (Value.int .i64 x6)] ∧
(∀ (g3 : Nat) (w6 : World), New w5 g3 w6 #[(Value.int .i64 0), (Value.int .i64 0), (Value.int .i64 0)] 117 →
(g3 ≠ g ∧
g3 ≠ g2 ∧
∀ w7, w7 = w6.setCells g3 0 [(Value.int .i64 x4), (Value.int .i64 x5), (Value.int .i64 x6)] →
((x < x4 →
R 9 w7) ∧
(¬ (x < x4) →
((x = x4 →
((x2 ≤ x5 →
R 9 w7) ∧
(¬ (x2 ≤ x5) →
R 0 w7))) ∧
(¬ (x = x4) →
R 0 w7)))))))))) ∧
(¬ (0 < i) →
R 0 w5))))) ∧
(Calls Try.prog 98 #[(Value.agg #[(Value.int .i64 d), (Value.slice Ad ld cd)]), (Value.int .i64 x)] w4 fun e w8 => ∃ r2 : Bool, e = .returned (Value.bool (r2)) ∧
Kp w4 w8 g ∧
Kp w4 w8 g2 ∧
((r2 = true →
(Calls Try.prog 98 #[(Value.agg #[(Value.int .i64 d), (Value.slice Ad ld cd)]), (Value.int .i64 x2)] w8 fun e w9 => ∃ r3 : Bool, e = .returned (Value.bool (r3)) ∧
Kp w8 w9 g ∧
Kp w8 w9 g2 ∧
((r3 = true →
((x3 < 1 →
R 2 w9) ∧
(¬ (x3 < 1) →
((50 < x3 →
R 2 w9) ∧
(¬ (50 < x3) →
J2 w9))))) ∧
(¬ (r3 = true) →
R 2 w9)))) ∧
(¬ (r2 = true) →
R 2 w8)))))))))
theorem ok_r08_edge (d : Int) (Ad : Option Addr) (ld : Nat) (cd : Nat) (i : Int) (w : World) (R : Int → World → Prop) (h : sh_r08_edge d Ad ld cd i w R) :
    Calls Try.prog 154 #[(Value.agg #[(Value.int .i64 d), (Value.slice Ad ld cd)]), (Value.int .i64 i)] w fun e w' => ∃ r : Int, e = .returned (Value.int .i64 r) ∧ R r w' := by
  unfold sh_r08_edge at h
  refine calls_sh (l := [(Value.agg #[(Value.int .i64 d), (Value.slice Ad ld cd)]), (Value.int .i64 i)]) Try.func154 rfl Try.ntmps154 (Nat.le_of_ble_eq_true rfl) ?_
  refine wt_seq ?_
  refine wl_region wd_wide ?_
  refine rl_n rfl rfl rfl rfl (n_box (v := (Value.agg #[(Value.int .i64 d), (Value.slice Ad ld cd)])) rfl ?_)
  intro g w2 hN
  replace h := h g w2 hN
  have rB : Row w2 g 24 2 [(Value.int .i64 d), (Value.slice Ad ld cd)] := hN.row
  clear hN
  refine ⟨Stb.none _, ?_⟩
  refine rl_q rfl rfl rfl (v_assign (v := (Value.int .i64 0)) rfl) ?_
  refine rl_end ?_
  refine wt_seq ?_
  refine wl_region wd_wide ?_
  refine rl_q rfl rfl rfl (v_faddr rfl Try.underlying24 rfl info_22) ?_
  refine rl_q rfl rfl rfl (v_load rfl Try.underlying22 rfl (Row.cell rB (i := 1) rfl)) ?_
  refine rl_q rfl rfl rfl (v_move (v := (Value.int .i64 i)) rfl) ?_
  obtain ⟨hx, h⟩ := h
  refine rl_q rfl rfl rfl (v_iaddr rfl rfl Try.underlying22 info_117 hx) ?_
  obtain ⟨x, x2, x3, hc, h⟩ := h
  refine rl_q rfl rfl rfl (v_loadn (vs := [(Value.int .i64 x), (Value.int .i64 x2), (Value.int .i64 x3)]) rfl Try.underlying117 rfl info_117 hc) ?_
  refine rl_n rfl rfl rfl rfl (n_alloc info_117 ?_)
  intro g2 w3 hN2
  replace h := h g2 w3 hN2
  replace rB := rB.kp (hN2.kp _)
  have rB2 : Row w3 g2 117 3 [(Value.int .i64 0), (Value.int .i64 0), (Value.int .i64 0)] := hN2.row
  clear hN2
  refine ⟨Stb.none _, ?_⟩
  obtain ⟨hb, h⟩ := h
  refine rl_n0 rfl rfl rfl (n_storen (b := g2) (o := 0) (cells := #[(Value.int .i64 x), (Value.int .i64 x2), (Value.int .i64 x3)]) rfl rfl info_117 rfl rfl (there_row rB2 (Nat.le_of_ble_eq_true rfl)) ?_)
  intro w4 ew
  replace h := h w4 ew
  replace rB2 : Row w4 g2 117 3 [(Value.int .i64 x), (Value.int .i64 x2), (Value.int .i64 x3)] := (by rw [ew]; exact row_setn [(Value.int .i64 x), (Value.int .i64 x2), (Value.int .i64 x3)] 0 rB2)
  replace rB : Row w4 g 24 2 [(Value.int .i64 d), (Value.slice Ad ld cd)] := rB.kp (by rw [ew]; exact kp_setn hb _ _)
  clear ew
  refine ⟨Stb.none _, ?_⟩
  refine rl_end ?_
  refine wt_seq ?_
  refine wt_seq ?_
  obtain ⟨J2, hJ, h⟩ := h
  refine wt_cutT1 (fun E ds w' => J2 w' ∧ ds = [] ∧ E 1 = (Value.int .i64 i) ∧ E 2 = (Value.pointer (some (⟨g, 0, none⟩ : Addr))) ∧ E 5 = (Value.pointer (some (⟨g2, 0, none⟩ : Addr))) ∧ Row w' g 24 2 [(Value.int .i64 d), (Value.slice Ad ld cd)] ∧ Row w' g2 117 3 [(Value.int .i64 x), (Value.int .i64 x2), (Value.int .i64 x3)]) ?_ ?_
  · rintro E ds w5 ⟨h, rfl, hE1, hE2, hE5, rB, rB2⟩
    replace h := hJ w5 h
    refine wt_seq ?_
    refine wt_seq ?_
    refine wl_region wd_wide ?_
    refine rl_q rfl rfl rfl (v_faddr hE5 Try.underlying117 rfl info_3) ?_
    refine rl_q rfl rfl rfl (v_load rfl Try.underlying3 rfl (Row.cell rB2 (i := 0) rfl)) ?_
    refine rl_q rfl rfl rfl (v_faddr hE5 Try.underlying117 rfl info_3) ?_
    refine rl_q rfl rfl rfl (v_load rfl Try.underlying3 rfl (Row.cell rB2 (i := 1) rfl)) ?_
    refine rl_q rfl rfl rfl (v_gtr rfl rfl) ?_
    refine rl_end ?_
    by_cases hp : x2 < x
    · replace h := h.1 hp
      refine wt_cond_t (congrArg Value.bool (decide_eq_true hp)) ?_
      refine wt_seq ?_
      refine wl_region wd_wide ?_
      refine rl_q rfl rfl rfl (v_assign (v := (Value.int .i64 9)) rfl) ?_
      refine rl_end ?_
      exact wt_ret1 rfl rfl ⟨_, rfl, h⟩
    · replace h := h.2 hp
      refine wt_cond_f (congrArg Value.bool (decide_eq_false hp)) ?_
      refine wt_skip ?_
      refine wt_seq ?_
      refine wt_seq ?_
      refine wl_region wd_wide ?_
      refine rl_q rfl rfl rfl (v_move (v := (Value.int .i64 i)) hE1) ?_
      refine rl_q rfl rfl rfl (v_gtr rfl rfl) ?_
      refine rl_end ?_
      by_cases hp2 : 0 < i
      · replace h := h.1 hp2
        refine wt_cond_t (congrArg Value.bool (decide_eq_true hp2)) ?_
        refine wt_seq ?_
        refine wl_region wd_wide ?_
        refine rl_q rfl rfl rfl (v_faddr hE2 Try.underlying24 rfl info_22) ?_
        refine rl_q rfl rfl rfl (v_load rfl Try.underlying22 rfl (Row.cell rB (i := 1) rfl)) ?_
        refine rl_q rfl rfl rfl (v_move (v := (Value.int .i64 i)) hE1) ?_
        obtain ⟨hi, h⟩ := h
        refine rl_q rfl rfl rfl (v_sub rfl rfl hi) ?_
        obtain ⟨hx2, h⟩ := h
        refine rl_q rfl rfl rfl (v_iaddr rfl rfl Try.underlying22 info_117 hx2) ?_
        obtain ⟨x4, x5, x6, hc2, h⟩ := h
        refine rl_q rfl rfl rfl (v_loadn (vs := [(Value.int .i64 x4), (Value.int .i64 x5), (Value.int .i64 x6)]) rfl Try.underlying117 rfl info_117 hc2) ?_
        refine rl_n rfl rfl rfl rfl (n_alloc info_117 ?_)
        intro g3 w6 hN3
        replace h := h g3 w6 hN3
        replace rB := rB.kp (hN3.kp _)
        replace rB2 := rB2.kp (hN3.kp _)
        have rB3 : Row w6 g3 117 3 [(Value.int .i64 0), (Value.int .i64 0), (Value.int .i64 0)] := hN3.row
        clear hN3
        refine ⟨Stb.none _, ?_⟩
        obtain ⟨hb2, h⟩ := h
        obtain ⟨hb3, h⟩ := h
        refine rl_n0 rfl rfl rfl (n_storen (b := g3) (o := 0) (cells := #[(Value.int .i64 x4), (Value.int .i64 x5), (Value.int .i64 x6)]) rfl rfl info_117 rfl rfl (there_row rB3 (Nat.le_of_ble_eq_true rfl)) ?_)
        intro w7 ew2
        replace h := h w7 ew2
        replace rB3 : Row w7 g3 117 3 [(Value.int .i64 x4), (Value.int .i64 x5), (Value.int .i64 x6)] := (by rw [ew2]; exact row_setn [(Value.int .i64 x4), (Value.int .i64 x5), (Value.int .i64 x6)] 0 rB3)
        replace rB : Row w7 g 24 2 [(Value.int .i64 d), (Value.slice Ad ld cd)] := rB.kp (by rw [ew2]; exact kp_setn hb2 _ _)
        replace rB2 : Row w7 g2 117 3 [(Value.int .i64 x), (Value.int .i64 x2), (Value.int .i64 x3)] := rB2.kp (by rw [ew2]; exact kp_setn hb3 _ _)
        clear ew2
        refine ⟨Stb.none _, ?_⟩
        refine rl_end ?_
        refine wt_seq ?_
        refine wl_region wd_wide ?_
        refine rl_q rfl rfl rfl (v_faddr hE5 Try.underlying117 rfl info_3) ?_
        refine rl_q rfl rfl rfl (v_load rfl Try.underlying3 rfl (Row.cell rB2 (i := 0) rfl)) ?_
        refine rl_q rfl rfl rfl (v_faddr rfl Try.underlying117 rfl info_3) ?_
        refine rl_q rfl rfl rfl (v_load rfl Try.underlying3 rfl (Row.cell rB3 (i := 0) rfl)) ?_
        refine rl_q rfl rfl rfl (v_lss rfl rfl) ?_
        refine rl_q rfl rfl rfl (v_move (v := (Value.bool (decide (x < x4)))) rfl) ?_
        by_cases hp3 : x < x4
        · replace h := h.1 hp3
          refine rl_p (wanted_n rfl (yE_of rfl (congrArg Value.bool (decide_eq_true hp3))) rfl) rfl ?_
          refine rl_p (wanted_n rfl (yE_of rfl (congrArg Value.bool (decide_eq_true hp3))) rfl) rfl ?_
          refine rl_p (wanted_n rfl (yE_of rfl (congrArg Value.bool (decide_eq_true hp3))) rfl) rfl ?_
          refine rl_p (wanted_n rfl (yE_of rfl (congrArg Value.bool (decide_eq_true hp3))) rfl) rfl ?_
          refine rl_p (wanted_n rfl (yE_of rfl (congrArg Value.bool (decide_eq_true hp3))) rfl) rfl ?_
          refine rl_p (wanted_n rfl (yE_of rfl (congrArg Value.bool (decide_eq_true hp3))) rfl) rfl ?_
          refine rl_p (wanted_u rfl rfl) rfl ?_
          refine rl_p (wanted_u rfl rfl) rfl ?_
          refine rl_p (wanted_u rfl rfl) rfl ?_
          refine rl_p (wanted_u rfl rfl) rfl ?_
          refine rl_p (wanted_u rfl rfl) rfl ?_
          refine rl_p (wanted_n rfl (yE_of rfl (congrArg Value.bool (decide_eq_true hp3))) rfl) rfl ?_
          refine rl_q rfl rfl rfl (v_pick_t (v := (Value.bool (true))) (congrArg Value.bool (decide_eq_true hp3)) rfl) ?_
          refine rl_end ?_
          refine wt_cond_t rfl ?_
          refine wt_seq ?_
          refine wl_region wd_wide ?_
          refine rl_q rfl rfl rfl (v_assign (v := (Value.int .i64 9)) rfl) ?_
          refine rl_end ?_
          exact wt_ret1 rfl rfl ⟨_, rfl, h⟩
        · replace h := h.2 hp3
          refine rl_q (wanted_g rfl (yE_of rfl (congrArg Value.bool (decide_eq_false hp3)))) rfl rfl (v_faddr hE5 Try.underlying117 rfl info_3) ?_
          refine rl_q (wanted_g rfl (yE_of rfl (congrArg Value.bool (decide_eq_false hp3)))) rfl rfl (v_load rfl Try.underlying3 rfl (Row.cell rB2 (i := 0) rfl)) ?_
          refine rl_q (wanted_g rfl (yE_of rfl (congrArg Value.bool (decide_eq_false hp3)))) rfl rfl (v_faddr rfl Try.underlying117 rfl info_3) ?_
          refine rl_q (wanted_g rfl (yE_of rfl (congrArg Value.bool (decide_eq_false hp3)))) rfl rfl (v_load rfl Try.underlying3 rfl (Row.cell rB3 (i := 0) rfl)) ?_
          refine rl_q (wanted_g rfl (yE_of rfl (congrArg Value.bool (decide_eq_false hp3)))) rfl rfl (v_eql rfl rfl) ?_
          refine rl_q (wanted_g rfl (yE_of rfl (congrArg Value.bool (decide_eq_false hp3)))) rfl rfl (v_move (v := (Value.bool (decide (x = x4)))) rfl) ?_
          by_cases hp4 : x = x4
          · replace h := h.1 hp4
            refine rl_q (wanted_g rfl (yE_of rfl (congrArg Value.bool (decide_eq_true hp4)))) rfl rfl (v_faddr hE5 Try.underlying117 rfl info_3) ?_
            refine rl_q (wanted_g rfl (yE_of rfl (congrArg Value.bool (decide_eq_true hp4)))) rfl rfl (v_load rfl Try.underlying3 rfl (Row.cell rB2 (i := 1) rfl)) ?_
            refine rl_q (wanted_g rfl (yE_of rfl (congrArg Value.bool (decide_eq_true hp4)))) rfl rfl (v_faddr rfl Try.underlying117 rfl info_3) ?_
            refine rl_q (wanted_g rfl (yE_of rfl (congrArg Value.bool (decide_eq_true hp4)))) rfl rfl (v_load rfl Try.underlying3 rfl (Row.cell rB3 (i := 1) rfl)) ?_
            refine rl_q (wanted_g rfl (yE_of rfl (congrArg Value.bool (decide_eq_true hp4)))) rfl rfl (v_leq rfl rfl) ?_
            refine rl_q (wanted_g rfl (yE_of rfl (congrArg Value.bool (decide_eq_false hp3)))) rfl rfl (v_pick_t (v := (Value.bool (decide (x2 ≤ x5)))) (congrArg Value.bool (decide_eq_true hp4)) rfl) ?_
            refine rl_q rfl rfl rfl (v_pick_f (v := (Value.bool (decide (x2 ≤ x5)))) (congrArg Value.bool (decide_eq_false hp3)) rfl) ?_
            refine rl_end ?_
            by_cases hp5 : x2 ≤ x5
            · replace h := h.1 hp5
              refine wt_cond_t (congrArg Value.bool (decide_eq_true hp5)) ?_
              refine wt_seq ?_
              refine wl_region wd_wide ?_
              refine rl_q rfl rfl rfl (v_assign (v := (Value.int .i64 9)) rfl) ?_
              refine rl_end ?_
              exact wt_ret1 rfl rfl ⟨_, rfl, h⟩
            · replace h := h.2 hp5
              refine wt_cond_f (congrArg Value.bool (decide_eq_false hp5)) ?_
              refine wt_skip ?_
              refine wt_seq ?_
              refine wl_region wd_wide ?_
              refine rl_q rfl rfl rfl (v_assign (v := (Value.int .i64 0)) rfl) ?_
              refine rl_end ?_
              exact wt_ret1 rfl rfl ⟨_, rfl, h⟩
          · replace h := h.2 hp4
            refine rl_p (wanted_n rfl (yE_of rfl (congrArg Value.bool (decide_eq_false hp4))) rfl) rfl ?_
            refine rl_p (wanted_n rfl (yE_of rfl (congrArg Value.bool (decide_eq_false hp4))) rfl) rfl ?_
            refine rl_p (wanted_n rfl (yE_of rfl (congrArg Value.bool (decide_eq_false hp4))) rfl) rfl ?_
            refine rl_p (wanted_n rfl (yE_of rfl (congrArg Value.bool (decide_eq_false hp4))) rfl) rfl ?_
            refine rl_p (wanted_n rfl (yE_of rfl (congrArg Value.bool (decide_eq_false hp4))) rfl) rfl ?_
            refine rl_q (wanted_g rfl (yE_of rfl (congrArg Value.bool (decide_eq_false hp3)))) rfl rfl (v_pick_f (v := (Value.bool (false))) (congrArg Value.bool (decide_eq_false hp4)) rfl) ?_
            refine rl_q rfl rfl rfl (v_pick_f (v := (Value.bool (false))) (congrArg Value.bool (decide_eq_false hp3)) rfl) ?_
            refine rl_end ?_
            refine wt_cond_f rfl ?_
            refine wt_skip ?_
            refine wt_seq ?_
            refine wl_region wd_wide ?_
            refine rl_q rfl rfl rfl (v_assign (v := (Value.int .i64 0)) rfl) ?_
            refine rl_end ?_
            exact wt_ret1 rfl rfl ⟨_, rfl, h⟩
      · replace h := h.2 hp2
        refine wt_cond_f (congrArg Value.bool (decide_eq_false hp2)) ?_
        refine wt_skip ?_
        refine wt_seq ?_
        refine wl_region wd_wide ?_
        refine rl_q rfl rfl rfl (v_assign (v := (Value.int .i64 0)) rfl) ?_
        refine rl_end ?_
        exact wt_ret1 rfl rfl ⟨_, rfl, h⟩
  clear hJ
  intro j
  refine wl_region wd_wide ?_
  refine rl_q rfl rfl rfl (v_loadn (vs := [(Value.int .i64 d), (Value.slice Ad ld cd)]) rfl Try.underlying24 rfl info_24 ⟨Row.cell rB (i := 0) rfl, Row.cell rB (i := 1) rfl, trivial⟩) ?_
  refine rl_q rfl rfl rfl (v_faddr rfl Try.underlying117 rfl info_3) ?_
  refine rl_q rfl rfl rfl (v_load rfl Try.underlying3 rfl (Row.cell rB2 (i := 0) rfl)) ?_
  refine rl_n rfl rfl rfl rfl (n_call0 rfl (am2 rfl rfl) enter_98 (h.mono ?_))
  rintro _ w8 ⟨r2, rfl, hk, hk2, h⟩
  replace rB := rB.kp hk
  replace rB2 := rB2.kp hk2
  refine ⟨_, rfl, Stb.none _, ?_⟩
  refine rl_q rfl rfl rfl (v_not rfl) ?_
  refine rl_q rfl rfl rfl (v_move (v := (Value.bool (!(r2)))) rfl) ?_
  by_cases hp6 : r2 = true
  · replace h := h.1 hp6
    refine rl_q (wanted_g rfl (yE_of rfl (congrArg Value.bool (congrArg Bool.not hp6)))) rfl rfl (v_loadn (vs := [(Value.int .i64 d), (Value.slice Ad ld cd)]) rfl Try.underlying24 rfl info_24 ⟨Row.cell rB (i := 0) rfl, Row.cell rB (i := 1) rfl, trivial⟩) ?_
    refine rl_q (wanted_g rfl (yE_of rfl (congrArg Value.bool (congrArg Bool.not hp6)))) rfl rfl (v_faddr rfl Try.underlying117 rfl info_3) ?_
    refine rl_q (wanted_g rfl (yE_of rfl (congrArg Value.bool (congrArg Bool.not hp6)))) rfl rfl (v_load rfl Try.underlying3 rfl (Row.cell rB2 (i := 1) rfl)) ?_
    refine rl_n (wanted_g rfl (yE_of rfl (congrArg Value.bool (congrArg Bool.not hp6)))) rfl rfl rfl (n_call0 rfl (am2 rfl rfl) enter_98 (h.mono ?_))
    rintro _ w9 ⟨r3, rfl, hk3, hk4, h⟩
    replace rB := rB.kp hk3
    replace rB2 := rB2.kp hk4
    refine ⟨_, rfl, Stb.none _, ?_⟩
    refine rl_q (wanted_g rfl (yE_of rfl (congrArg Value.bool (congrArg Bool.not hp6)))) rfl rfl (v_not rfl) ?_
    refine rl_q rfl rfl rfl (v_pick_f (v := (Value.bool (!(r3)))) (congrArg Value.bool (congrArg Bool.not hp6)) rfl) ?_
    refine rl_q rfl rfl rfl (v_move (v := (Value.bool (!(r3)))) rfl) ?_
    by_cases hp7 : r3 = true
    · replace h := h.1 hp7
      refine rl_q (wanted_g rfl (yE_of rfl (congrArg Value.bool (congrArg Bool.not hp7)))) rfl rfl (v_faddr rfl Try.underlying117 rfl info_3) ?_
      refine rl_q (wanted_g rfl (yE_of rfl (congrArg Value.bool (congrArg Bool.not hp7)))) rfl rfl (v_load rfl Try.underlying3 rfl (Row.cell rB2 (i := 2) rfl)) ?_
      refine rl_q (wanted_g rfl (yE_of rfl (congrArg Value.bool (congrArg Bool.not hp7)))) rfl rfl (v_lss rfl rfl) ?_
      refine rl_q rfl rfl rfl (v_pick_f (v := (Value.bool (decide (x3 < 1)))) (congrArg Value.bool (congrArg Bool.not hp7)) rfl) ?_
      refine rl_q rfl rfl rfl (v_move (v := (Value.bool (decide (x3 < 1)))) rfl) ?_
      by_cases hp8 : x3 < 1
      · replace h := h.1 hp8
        refine rl_p (wanted_n rfl (yE_of rfl (congrArg Value.bool (decide_eq_true hp8))) rfl) rfl ?_
        refine rl_p (wanted_n rfl (yE_of rfl (congrArg Value.bool (decide_eq_true hp8))) rfl) rfl ?_
        refine rl_p (wanted_n rfl (yE_of rfl (congrArg Value.bool (decide_eq_true hp8))) rfl) rfl ?_
        refine rl_q rfl rfl rfl (v_pick_t (v := (Value.bool (true))) (congrArg Value.bool (decide_eq_true hp8)) rfl) ?_
        refine rl_end ?_
        refine wt_cond_t rfl ?_
        refine wt_seq ?_
        refine wl_region wd_wide ?_
        refine rl_q rfl rfl rfl (v_assign (v := (Value.int .i64 2)) rfl) ?_
        refine rl_end ?_
        exact wt_ret1 rfl rfl ⟨_, rfl, h⟩
      · replace h := h.2 hp8
        refine rl_q (wanted_g rfl (yE_of rfl (congrArg Value.bool (decide_eq_false hp8)))) rfl rfl (v_faddr rfl Try.underlying117 rfl info_3) ?_
        refine rl_q (wanted_g rfl (yE_of rfl (congrArg Value.bool (decide_eq_false hp8)))) rfl rfl (v_load rfl Try.underlying3 rfl (Row.cell rB2 (i := 2) rfl)) ?_
        refine rl_q (wanted_g rfl (yE_of rfl (congrArg Value.bool (decide_eq_false hp8)))) rfl rfl (v_gtr rfl rfl) ?_
        refine rl_q rfl rfl rfl (v_pick_f (v := (Value.bool (decide (50 < x3)))) (congrArg Value.bool (decide_eq_false hp8)) rfl) ?_
        refine rl_end ?_
        by_cases hp9 : 50 < x3
        · replace h := h.1 hp9
          refine wt_cond_t (congrArg Value.bool (decide_eq_true hp9)) ?_
          refine wt_seq ?_
          refine wl_region wd_wide ?_
          refine rl_q rfl rfl rfl (v_assign (v := (Value.int .i64 2)) rfl) ?_
          refine rl_end ?_
          exact wt_ret1 rfl rfl ⟨_, rfl, h⟩
        · replace h := h.2 hp9
          refine wt_cond_f (congrArg Value.bool (decide_eq_false hp9)) ?_
          refine wt_skip ?_
          exact j _ _ _ ⟨h, rfl, rfl, rfl, rfl, rB, rB2⟩
    · replace h := h.2 hp7
      refine rl_p (wanted_n rfl (yE_of rfl (congrArg Value.bool (congrArg Bool.not (Bool.eq_false_iff.2 hp7)))) rfl) rfl ?_
      refine rl_p (wanted_n rfl (yE_of rfl (congrArg Value.bool (congrArg Bool.not (Bool.eq_false_iff.2 hp7)))) rfl) rfl ?_
      refine rl_p (wanted_n rfl (yE_of rfl (congrArg Value.bool (congrArg Bool.not (Bool.eq_false_iff.2 hp7)))) rfl) rfl ?_
      refine rl_q rfl rfl rfl (v_pick_t (v := (Value.bool (true))) (congrArg Value.bool (congrArg Bool.not (Bool.eq_false_iff.2 hp7))) rfl) ?_
      refine rl_q rfl rfl rfl (v_move (v := (Value.bool (true))) rfl) ?_
      refine rl_p (wanted_n rfl (yE_of rfl rfl) rfl) rfl ?_
      refine rl_p (wanted_n rfl (yE_of rfl rfl) rfl) rfl ?_
      refine rl_p (wanted_n rfl (yE_of rfl rfl) rfl) rfl ?_
      refine rl_q rfl rfl rfl (v_pick_t (v := (Value.bool (true))) rfl rfl) ?_
      refine rl_end ?_
      refine wt_cond_t rfl ?_
      refine wt_seq ?_
      refine wl_region wd_wide ?_
      refine rl_q rfl rfl rfl (v_assign (v := (Value.int .i64 2)) rfl) ?_
      refine rl_end ?_
      exact wt_ret1 rfl rfl ⟨_, rfl, h⟩
  · replace h := h.2 hp6
    refine rl_p (wanted_n rfl (yE_of rfl (congrArg Value.bool (congrArg Bool.not (Bool.eq_false_iff.2 hp6)))) rfl) rfl ?_
    refine rl_p (wanted_n rfl (yE_of rfl (congrArg Value.bool (congrArg Bool.not (Bool.eq_false_iff.2 hp6)))) rfl) rfl ?_
    refine rl_p (wanted_n rfl (yE_of rfl (congrArg Value.bool (congrArg Bool.not (Bool.eq_false_iff.2 hp6)))) rfl) rfl ?_
    refine rl_p (wanted_n rfl (yE_of rfl (congrArg Value.bool (congrArg Bool.not (Bool.eq_false_iff.2 hp6)))) rfl) rfl ?_
    refine rl_p (wanted_n rfl (yE_of rfl (congrArg Value.bool (congrArg Bool.not (Bool.eq_false_iff.2 hp6)))) rfl) rfl ?_
    refine rl_q rfl rfl rfl (v_pick_t (v := (Value.bool (true))) (congrArg Value.bool (congrArg Bool.not (Bool.eq_false_iff.2 hp6))) rfl) ?_
    refine rl_q rfl rfl rfl (v_move (v := (Value.bool (true))) rfl) ?_
    refine rl_p (wanted_n rfl (yE_of rfl rfl) rfl) rfl ?_
    refine rl_p (wanted_n rfl (yE_of rfl rfl) rfl) rfl ?_
    refine rl_p (wanted_n rfl (yE_of rfl rfl) rfl) rfl ?_
    refine rl_q rfl rfl rfl (v_pick_t (v := (Value.bool (true))) rfl rfl) ?_
    refine rl_q rfl rfl rfl (v_move (v := (Value.bool (true))) rfl) ?_
    refine rl_p (wanted_n rfl (yE_of rfl rfl) rfl) rfl ?_
    refine rl_p (wanted_n rfl (yE_of rfl rfl) rfl) rfl ?_
    refine rl_p (wanted_n rfl (yE_of rfl rfl) rfl) rfl ?_
    refine rl_q rfl rfl rfl (v_pick_t (v := (Value.bool (true))) rfl rfl) ?_
    refine rl_end ?_
    refine wt_cond_t rfl ?_
    refine wt_seq ?_
    refine wl_region wd_wide ?_
    refine rl_q rfl rfl rfl (v_assign (v := (Value.int .i64 2)) rfl) ?_
    refine rl_end ?_
    exact wt_ret1 rfl rfl ⟨_, rfl, h⟩

/-- sandpile/sandpileref08.Vertex: what its code does. -/
def sh_r08_Vertex (g : Int) (Ag : Option Addr) (lg : Nat) (cg : Nat) (v : Int) (w : World) (R : Bool → World → Prop) : Prop :=
(∀ (g2 : Nat) (w2 : World), New w g2 w2 #[(Value.int .i64 g), (Value.slice Ag lg cg)] 24 →
((0 ≤ v →
R (decide (v < g)) w2) ∧
(¬ (0 ≤ v) →
R false w2)))
theorem ok_r08_Vertex (g : Int) (Ag : Option Addr) (lg : Nat) (cg : Nat) (v : Int) (w : World) (R : Bool → World → Prop) (h : sh_r08_Vertex g Ag lg cg v w R) :
    Calls Try.prog 98 #[(Value.agg #[(Value.int .i64 g), (Value.slice Ag lg cg)]), (Value.int .i64 v)] w fun e w' => ∃ r : Bool, e = .returned (Value.bool (r)) ∧ R r w' := by
  unfold sh_r08_Vertex at h
  refine calls_sh (l := [(Value.agg #[(Value.int .i64 g), (Value.slice Ag lg cg)]), (Value.int .i64 v)]) Try.func98 rfl Try.ntmps98 (Nat.le_of_ble_eq_true rfl) ?_
  refine wt_seq ?_
  refine wl_region wd_wide ?_
  refine rl_n rfl rfl rfl rfl (n_box (v := (Value.agg #[(Value.int .i64 g), (Value.slice Ag lg cg)])) rfl ?_)
  intro g2 w2 hN
  replace h := h g2 w2 hN
  have rB : Row w2 g2 24 2 [(Value.int .i64 g), (Value.slice Ag lg cg)] := hN.row
  clear hN
  refine ⟨Stb.none _, ?_⟩
  refine rl_q rfl rfl rfl (v_assign (v := (Value.bool (false))) rfl) ?_
  refine rl_end ?_
  refine wt_seq ?_
  refine wl_region wd_wide ?_
  refine rl_q rfl rfl rfl (v_move (v := (Value.int .i64 v)) rfl) ?_
  refine rl_q rfl rfl rfl (v_geq rfl rfl) ?_
  refine rl_q rfl rfl rfl (v_move (v := (Value.bool (decide (0 ≤ v)))) rfl) ?_
  by_cases hp : 0 ≤ v
  · replace h := h.1 hp
    refine rl_q (wanted_g rfl (yE_of rfl (congrArg Value.bool (decide_eq_true hp)))) rfl rfl (v_move (v := (Value.int .i64 v)) rfl) ?_
    refine rl_q (wanted_g rfl (yE_of rfl (congrArg Value.bool (decide_eq_true hp)))) rfl rfl (v_faddr rfl Try.underlying24 rfl info_3) ?_
    refine rl_q (wanted_g rfl (yE_of rfl (congrArg Value.bool (decide_eq_true hp)))) rfl rfl (v_load rfl Try.underlying3 rfl (Row.cell rB (i := 0) rfl)) ?_
    refine rl_q (wanted_g rfl (yE_of rfl (congrArg Value.bool (decide_eq_true hp)))) rfl rfl (v_lss rfl rfl) ?_
    refine rl_q rfl rfl rfl (v_pick_t (v := (Value.bool (decide (v < g)))) (congrArg Value.bool (decide_eq_true hp)) rfl) ?_
    refine rl_q rfl rfl rfl (v_assign (v := (Value.bool (decide (v < g)))) rfl) ?_
    refine rl_end ?_
    exact wt_ret1 rfl rfl ⟨_, rfl, h⟩
  · replace h := h.2 hp
    refine rl_p (wanted_n rfl (yE_of rfl (congrArg Value.bool (decide_eq_false hp))) rfl) rfl ?_
    refine rl_p (wanted_n rfl (yE_of rfl (congrArg Value.bool (decide_eq_false hp))) rfl) rfl ?_
    refine rl_p (wanted_n rfl (yE_of rfl (congrArg Value.bool (decide_eq_false hp))) rfl) rfl ?_
    refine rl_p (wanted_n rfl (yE_of rfl (congrArg Value.bool (decide_eq_false hp))) rfl) rfl ?_
    refine rl_q rfl rfl rfl (v_pick_f (v := (Value.bool (false))) (congrArg Value.bool (decide_eq_false hp)) rfl) ?_
    refine rl_q rfl rfl rfl (v_assign (v := (Value.bool (false))) rfl) ?_
    refine rl_end ?_
    exact wt_ret1 rfl rfl ⟨_, rfl, h⟩

/-- sandpile/sandpileref08.Check: what its code does. -/
def sh_r08_Check (g : Int) (Ag : Option Addr) (lg : Nat) (cg : Nat) (w : World) (R : Int → World → Prop) : Prop :=
(∀ (g2 : Nat) (w2 : World), New w g2 w2 #[(Value.int .i64 g), (Value.slice Ag lg cg)] 24 →
(∃ J2 : World → Prop, (∀ (w3 : World), J2 w3 → (∃ I2 : Nat → Int → World → Prop, (∃ m0, I2 m0 0 w3) ∧ ∀ (m1 : Nat) (i : Int) (w4 : World), I2 m1 i w4 → 
((i < ((lg : Nat) : Int) →
(Calls Try.prog 154 #[(Value.agg #[(Value.int .i64 g), (Value.slice Ag lg cg)]), (Value.int .i64 i)] w4 fun e w5 => ∃ r2 : Int, e = .returned (Value.int .i64 r2) ∧
Kp w4 w5 g2 ∧
((r2 = 0 →
(In64 (i + 1) ∧
∃ m2, m2 < m1 ∧ I2 m2 (i + 1) w5)) ∧
(¬ (r2 = 0) →
R r2 w5)))) ∧
(¬ (i < ((lg : Nat) : Int)) →
R 0 w4)))) ∧
((g < 1 →
R 2 w2) ∧
(¬ (g < 1) →
((12 < g →
R 2 w2) ∧
(¬ (12 < g) →
J2 w2))))))
theorem ok_r08_Check (g : Int) (Ag : Option Addr) (lg : Nat) (cg : Nat) (w : World) (R : Int → World → Prop) (h : sh_r08_Check g Ag lg cg w R) :
    Calls Try.prog 120 #[(Value.agg #[(Value.int .i64 g), (Value.slice Ag lg cg)])] w fun e w' => ∃ r : Int, e = .returned (Value.int .i64 r) ∧ R r w' := by
  unfold sh_r08_Check at h
  refine calls_sh (l := [(Value.agg #[(Value.int .i64 g), (Value.slice Ag lg cg)])]) Try.func120 rfl Try.ntmps120 (Nat.le_of_ble_eq_true rfl) ?_
  refine wt_seq ?_
  refine wl_region wd_wide ?_
  refine rl_n rfl rfl rfl rfl (n_box (v := (Value.agg #[(Value.int .i64 g), (Value.slice Ag lg cg)])) rfl ?_)
  intro g2 w2 hN
  replace h := h g2 w2 hN
  have rB : Row w2 g2 24 2 [(Value.int .i64 g), (Value.slice Ag lg cg)] := hN.row
  clear hN
  refine ⟨Stb.none _, ?_⟩
  refine rl_q rfl rfl rfl (v_assign (v := (Value.int .i64 0)) rfl) ?_
  refine rl_end ?_
  refine wt_seq ?_
  refine wt_seq ?_
  obtain ⟨J2, hJ, h⟩ := h
  refine wt_cutT1 (fun E ds w' => J2 w' ∧ ds = [] ∧ E 1 = (Value.pointer (some (⟨g2, 0, none⟩ : Addr))) ∧ Row w' g2 24 2 [(Value.int .i64 g), (Value.slice Ag lg cg)]) ?_ ?_
  · rintro E ds w3 ⟨h, rfl, hE1, rB⟩
    replace h := hJ w3 h
    refine wt_seq ?_
    refine wt_seq ?_
    refine wl_region wd_wide ?_
    refine rl_q rfl rfl rfl (v_assign (v := (Value.int .i64 0)) rfl) ?_
    refine rl_end ?_
    refine wt_block ?_
    obtain ⟨I2, ⟨m0, h0⟩, hr⟩ := h
    refine wt_loop (fun m E ds w' => ∃ i : Int, I2 m i w' ∧ ds = [] ∧ E 1 = (Value.pointer (some (⟨g2, 0, none⟩ : Addr))) ∧ E 3 = (Value.int .i64 i) ∧ Row w' g2 24 2 [(Value.int .i64 g), (Value.slice Ag lg cg)]) m0 ⟨_, h0, rfl, hE1, rfl, rB⟩ ?_
    clear h0
    rintro m1 E ds w4 ⟨i, h, rfl, hE1, hE3, rB⟩ again
    replace h := hr m1 i w4 h
    clear hr
    refine wt_seq ?_
    refine wt_seq ?_
    refine wl_region wd_wide ?_
    refine rl_q rfl rfl rfl (v_move (v := (Value.int .i64 i)) hE3) ?_
    refine rl_q rfl rfl rfl (v_faddr hE1 Try.underlying24 rfl info_22) ?_
    refine rl_q rfl rfl rfl (v_load rfl Try.underlying22 rfl (Row.cell rB (i := 1) rfl)) ?_
    refine rl_q rfl rfl rfl (v_len rfl Try.underlying22) ?_
    refine rl_q rfl rfl rfl (v_lss rfl rfl) ?_
    refine rl_end ?_
    by_cases hp : i < ((lg : Nat) : Int)
    · replace h := h.1 hp
      refine wt_cond_t (congrArg Value.bool (decide_eq_true hp)) ?_
      refine wt_skip ?_
      refine wt_seq ?_
      refine wt_block ?_
      refine wt_seq ?_
      refine wl_region wd_wide ?_
      refine rl_q rfl rfl rfl (v_loadn (vs := [(Value.int .i64 g), (Value.slice Ag lg cg)]) hE1 Try.underlying24 rfl info_24 ⟨Row.cell rB (i := 0) rfl, Row.cell rB (i := 1) rfl, trivial⟩) ?_
      refine rl_q rfl rfl rfl (v_move (v := (Value.int .i64 i)) hE3) ?_
      refine rl_n rfl rfl rfl rfl (n_call0 rfl (am2 rfl rfl) enter_154 (h.mono ?_))
      rintro _ w5 ⟨r2, rfl, hk, h⟩
      replace rB := rB.kp hk
      refine ⟨_, rfl, Stb.none _, ?_⟩
      refine rl_q rfl rfl rfl (v_assign (v := (Value.int .i64 r2)) rfl) ?_
      refine rl_end ?_
      refine wt_seq ?_
      refine wl_region wd_wide ?_
      refine rl_q rfl rfl rfl (v_move (v := (Value.int .i64 r2)) rfl) ?_
      refine rl_q rfl rfl rfl (v_neq rfl rfl) ?_
      refine rl_end ?_
      by_cases hp2 : r2 = 0
      · replace h := h.1 hp2
        refine wt_cond_f (congrArg Value.bool (congrArg Bool.not (decide_eq_true hp2))) ?_
        refine wt_skip ?_
        refine wt_inBlock ?_
        refine wl_region wd_wide ?_
        refine rl_q rfl rfl rfl (v_move (v := (Value.int .i64 i)) hE3) ?_
        obtain ⟨hi, h⟩ := h
        refine rl_q rfl rfl rfl (v_add rfl rfl hi) ?_
        refine rl_q rfl rfl rfl (v_assign (v := (Value.int .i64 (i + 1))) rfl) ?_
        refine rl_end ?_
        obtain ⟨mq, hlt, h⟩ := h
        exact again mq _ _ _ ⟨_, h, rfl, hE1, rfl, rB⟩ hlt
      · replace h := h.2 hp2
        refine wt_cond_t (congrArg Value.bool (congrArg Bool.not (decide_eq_false hp2))) ?_
        refine wt_seq ?_
        refine wl_region wd_wide ?_
        refine rl_q rfl rfl rfl (v_move (v := (Value.int .i64 r2)) rfl) ?_
        refine rl_q rfl rfl rfl (v_assign (v := (Value.int .i64 r2)) rfl) ?_
        refine rl_end ?_
        exact wt_ret1 rfl rfl ⟨_, rfl, h⟩
    · replace h := h.2 hp
      refine wt_cond_f (congrArg Value.bool (decide_eq_false hp)) ?_
      refine wt_exit rfl ?_
      refine wt_seq ?_
      refine wl_region wd_wide ?_
      refine rl_q rfl rfl rfl (v_assign (v := (Value.int .i64 0)) rfl) ?_
      refine rl_end ?_
      exact wt_ret1 rfl rfl ⟨_, rfl, h⟩
  clear hJ
  intro j
  refine wl_region wd_wide ?_
  refine rl_q rfl rfl rfl (v_faddr rfl Try.underlying24 rfl info_3) ?_
  refine rl_q rfl rfl rfl (v_load rfl Try.underlying3 rfl (Row.cell rB (i := 0) rfl)) ?_
  refine rl_q rfl rfl rfl (v_lss rfl rfl) ?_
  refine rl_q rfl rfl rfl (v_move (v := (Value.bool (decide (g < 1)))) rfl) ?_
  by_cases hp3 : g < 1
  · replace h := h.1 hp3
    refine rl_p (wanted_n rfl (yE_of rfl (congrArg Value.bool (decide_eq_true hp3))) rfl) rfl ?_
    refine rl_p (wanted_n rfl (yE_of rfl (congrArg Value.bool (decide_eq_true hp3))) rfl) rfl ?_
    refine rl_p (wanted_n rfl (yE_of rfl (congrArg Value.bool (decide_eq_true hp3))) rfl) rfl ?_
    refine rl_q rfl rfl rfl (v_pick_t (v := (Value.bool (true))) (congrArg Value.bool (decide_eq_true hp3)) rfl) ?_
    refine rl_end ?_
    refine wt_cond_t rfl ?_
    refine wt_seq ?_
    refine wl_region wd_wide ?_
    refine rl_q rfl rfl rfl (v_assign (v := (Value.int .i64 2)) rfl) ?_
    refine rl_end ?_
    exact wt_ret1 rfl rfl ⟨_, rfl, h⟩
  · replace h := h.2 hp3
    refine rl_q (wanted_g rfl (yE_of rfl (congrArg Value.bool (decide_eq_false hp3)))) rfl rfl (v_faddr rfl Try.underlying24 rfl info_3) ?_
    refine rl_q (wanted_g rfl (yE_of rfl (congrArg Value.bool (decide_eq_false hp3)))) rfl rfl (v_load rfl Try.underlying3 rfl (Row.cell rB (i := 0) rfl)) ?_
    refine rl_q (wanted_g rfl (yE_of rfl (congrArg Value.bool (decide_eq_false hp3)))) rfl rfl (v_gtr rfl rfl) ?_
    refine rl_q rfl rfl rfl (v_pick_f (v := (Value.bool (decide (12 < g)))) (congrArg Value.bool (decide_eq_false hp3)) rfl) ?_
    refine rl_end ?_
    by_cases hp4 : 12 < g
    · replace h := h.1 hp4
      refine wt_cond_t (congrArg Value.bool (decide_eq_true hp4)) ?_
      refine wt_seq ?_
      refine wl_region wd_wide ?_
      refine rl_q rfl rfl rfl (v_assign (v := (Value.int .i64 2)) rfl) ?_
      refine rl_end ?_
      exact wt_ret1 rfl rfl ⟨_, rfl, h⟩
    · replace h := h.2 hp4
      refine wt_cond_f (congrArg Value.bool (decide_eq_false hp4)) ?_
      refine wt_skip ?_
      exact j _ _ _ ⟨h, rfl, rfl, rB⟩

/-- sandpile/sandpileref08.Between: what its code does. -/
def sh_r08_Between (g : Int) (Ag : Option Addr) (lg : Nat) (cg : Nat) (a : Int) (b : Int) (w : World) (R : Int → World → Prop) : Prop :=
(∀ (g2 : Nat) (w2 : World), New w g2 w2 #[(Value.int .i64 g), (Value.slice Ag lg cg)] 24 →
(∃ I2 : Nat → Int → World → Prop, (∃ m0, I2 m0 0 w2) ∧ ∀ (m1 : Nat) (i : Int) (w3 : World), I2 m1 i w3 → 
((i < ((lg : Nat) : Int) →
(Ix Ag lg i ∧
(∃ x : Int, ∃ x2 : Int, ∃ x3 : Int, Cells w3 (ixA Ag i 3) 0 [(Value.int .i64 x), (Value.int .i64 x2), (Value.int .i64 x3)] ∧
(∀ (g3 : Nat) (w4 : World), New w3 g3 w4 #[(Value.int .i64 0), (Value.int .i64 0), (Value.int .i64 0)] 117 →
(g3 ≠ g2 ∧
∀ w5, w5 = w4.setCells g3 0 [(Value.int .i64 x), (Value.int .i64 x2), (Value.int .i64 x3)] →
((x = (mnF a b) →
((x2 = (mxF a b) →
R x3 w5) ∧
(¬ (x2 = (mxF a b)) →
(In64 (i + 1) ∧
∃ m2, m2 < m1 ∧ I2 m2 (i + 1) w5)))) ∧
(¬ (x = (mnF a b)) →
(In64 (i + 1) ∧
∃ m3, m3 < m1 ∧ I2 m3 (i + 1) w5)))))))) ∧
(¬ (i < ((lg : Nat) : Int)) →
R 0 w3))))
theorem ok_r08_Between (g : Int) (Ag : Option Addr) (lg : Nat) (cg : Nat) (a : Int) (b : Int) (w : World) (R : Int → World → Prop) (h : sh_r08_Between g Ag lg cg a b w R) :
    Calls Try.prog 136 #[(Value.agg #[(Value.int .i64 g), (Value.slice Ag lg cg)]), (Value.int .i64 a), (Value.int .i64 b)] w fun e w' => ∃ r : Int, e = .returned (Value.int .i64 r) ∧ R r w' := by
  unfold sh_r08_Between at h
  refine calls_sh (l := [(Value.agg #[(Value.int .i64 g), (Value.slice Ag lg cg)]), (Value.int .i64 a), (Value.int .i64 b)]) Try.func136 rfl Try.ntmps136 (Nat.le_of_ble_eq_true rfl) ?_
  refine wt_seq ?_
  refine wl_region wd_wide ?_
  refine rl_n rfl rfl rfl rfl (n_box (v := (Value.agg #[(Value.int .i64 g), (Value.slice Ag lg cg)])) rfl ?_)
  intro g2 w2 hN
  replace h := h g2 w2 hN
  have rB : Row w2 g2 24 2 [(Value.int .i64 g), (Value.slice Ag lg cg)] := hN.row
  clear hN
  refine ⟨Stb.none _, ?_⟩
  refine rl_q rfl rfl rfl (v_assign (v := (Value.int .i64 0)) rfl) ?_
  refine rl_end ?_
  refine wt_seq ?_
  refine wt_seq ?_
  refine wl_region wd_wide ?_
  refine rl_q rfl rfl rfl (v_assign (v := (Value.int .i64 0)) rfl) ?_
  refine rl_end ?_
  refine wt_block ?_
  obtain ⟨I2, ⟨m0, h0⟩, hr⟩ := h
  refine wt_loop (fun m E ds w' => ∃ i : Int, I2 m i w' ∧ ds = [] ∧ E 1 = (Value.int .i64 a) ∧ E 2 = (Value.int .i64 b) ∧ E 3 = (Value.pointer (some (⟨g2, 0, none⟩ : Addr))) ∧ E 7 = (Value.int .i64 i) ∧ Row w' g2 24 2 [(Value.int .i64 g), (Value.slice Ag lg cg)]) m0 ⟨_, h0, rfl, rfl, rfl, rfl, rfl, rB⟩ ?_
  clear h0
  rintro m1 E ds w3 ⟨i, h, rfl, hE1, hE2, hE3, hE7, rB⟩ again
  replace h := hr m1 i w3 h
  clear hr
  refine wt_seq ?_
  refine wt_seq ?_
  refine wl_region wd_wide ?_
  refine rl_q rfl rfl rfl (v_move (v := (Value.int .i64 i)) hE7) ?_
  refine rl_q rfl rfl rfl (v_faddr hE3 Try.underlying24 rfl info_22) ?_
  refine rl_q rfl rfl rfl (v_load rfl Try.underlying22 rfl (Row.cell rB (i := 1) rfl)) ?_
  refine rl_q rfl rfl rfl (v_len rfl Try.underlying22) ?_
  refine rl_q rfl rfl rfl (v_lss rfl rfl) ?_
  refine rl_end ?_
  by_cases hp : i < ((lg : Nat) : Int)
  · replace h := h.1 hp
    refine wt_cond_t (congrArg Value.bool (decide_eq_true hp)) ?_
    refine wt_skip ?_
    refine wt_seq ?_
    refine wt_block ?_
    refine wt_seq ?_
    refine wl_region wd_wide ?_
    refine rl_q rfl rfl rfl (v_faddr hE3 Try.underlying24 rfl info_22) ?_
    refine rl_q rfl rfl rfl (v_load rfl Try.underlying22 rfl (Row.cell rB (i := 1) rfl)) ?_
    refine rl_q rfl rfl rfl (v_move (v := (Value.int .i64 i)) hE7) ?_
    obtain ⟨hx, h⟩ := h
    refine rl_q rfl rfl rfl (v_iaddr rfl rfl Try.underlying22 info_117 hx) ?_
    obtain ⟨x, x2, x3, hc, h⟩ := h
    refine rl_q rfl rfl rfl (v_loadn (vs := [(Value.int .i64 x), (Value.int .i64 x2), (Value.int .i64 x3)]) rfl Try.underlying117 rfl info_117 hc) ?_
    refine rl_n rfl rfl rfl rfl (n_alloc info_117 ?_)
    intro g3 w4 hN2
    replace h := h g3 w4 hN2
    replace rB := rB.kp (hN2.kp _)
    have rB2 : Row w4 g3 117 3 [(Value.int .i64 0), (Value.int .i64 0), (Value.int .i64 0)] := hN2.row
    clear hN2
    refine ⟨Stb.none _, ?_⟩
    obtain ⟨hb, h⟩ := h
    refine rl_n0 rfl rfl rfl (n_storen (b := g3) (o := 0) (cells := #[(Value.int .i64 x), (Value.int .i64 x2), (Value.int .i64 x3)]) rfl rfl info_117 rfl rfl (there_row rB2 (Nat.le_of_ble_eq_true rfl)) ?_)
    intro w5 ew
    replace h := h w5 ew
    replace rB2 : Row w5 g3 117 3 [(Value.int .i64 x), (Value.int .i64 x2), (Value.int .i64 x3)] := (by rw [ew]; exact row_setn [(Value.int .i64 x), (Value.int .i64 x2), (Value.int .i64 x3)] 0 rB2)
    replace rB : Row w5 g2 24 2 [(Value.int .i64 g), (Value.slice Ag lg cg)] := rB.kp (by rw [ew]; exact kp_setn hb _ _)
    clear ew
    refine ⟨Stb.none _, ?_⟩
    refine rl_end ?_
    refine wt_seq ?_
    refine wl_region wd_wide ?_
    refine rl_q rfl rfl rfl (v_faddr rfl Try.underlying117 rfl info_3) ?_
    refine rl_q rfl rfl rfl (v_load rfl Try.underlying3 rfl (Row.cell rB2 (i := 0) rfl)) ?_
    refine rl_q rfl rfl rfl (v_move (v := (Value.int .i64 a)) hE1) ?_
    refine rl_q rfl rfl rfl (v_move (v := (Value.int .i64 b)) hE2) ?_
    refine rl_q rfl rfl rfl (v_min2 rfl rfl) ?_
    refine rl_q rfl rfl rfl (v_eql rfl rfl) ?_
    refine rl_q rfl rfl rfl (v_move (v := (Value.bool (decide (x = (mnF a b))))) rfl) ?_
    by_cases hp2 : x = (mnF a b)
    · replace h := h.1 hp2
      refine rl_q (wanted_g rfl (yE_of rfl (congrArg Value.bool (decide_eq_true hp2)))) rfl rfl (v_faddr rfl Try.underlying117 rfl info_3) ?_
      refine rl_q (wanted_g rfl (yE_of rfl (congrArg Value.bool (decide_eq_true hp2)))) rfl rfl (v_load rfl Try.underlying3 rfl (Row.cell rB2 (i := 1) rfl)) ?_
      refine rl_q (wanted_g rfl (yE_of rfl (congrArg Value.bool (decide_eq_true hp2)))) rfl rfl (v_move (v := (Value.int .i64 a)) hE1) ?_
      refine rl_q (wanted_g rfl (yE_of rfl (congrArg Value.bool (decide_eq_true hp2)))) rfl rfl (v_move (v := (Value.int .i64 b)) hE2) ?_
      refine rl_q (wanted_g rfl (yE_of rfl (congrArg Value.bool (decide_eq_true hp2)))) rfl rfl (v_max2 rfl rfl) ?_
      refine rl_q (wanted_g rfl (yE_of rfl (congrArg Value.bool (decide_eq_true hp2)))) rfl rfl (v_eql rfl rfl) ?_
      refine rl_q rfl rfl rfl (v_pick_t (v := (Value.bool (decide (x2 = (mxF a b))))) (congrArg Value.bool (decide_eq_true hp2)) rfl) ?_
      refine rl_end ?_
      by_cases hp3 : x2 = (mxF a b)
      · replace h := h.1 hp3
        refine wt_cond_t (congrArg Value.bool (decide_eq_true hp3)) ?_
        refine wt_seq ?_
        refine wl_region wd_wide ?_
        refine rl_q rfl rfl rfl (v_faddr rfl Try.underlying117 rfl info_3) ?_
        refine rl_q rfl rfl rfl (v_load rfl Try.underlying3 rfl (Row.cell rB2 (i := 2) rfl)) ?_
        refine rl_q rfl rfl rfl (v_assign (v := (Value.int .i64 x3)) rfl) ?_
        refine rl_end ?_
        exact wt_ret1 rfl rfl ⟨_, rfl, h⟩
      · replace h := h.2 hp3
        refine wt_cond_f (congrArg Value.bool (decide_eq_false hp3)) ?_
        refine wt_skip ?_
        refine wt_inBlock ?_
        refine wl_region wd_wide ?_
        refine rl_q rfl rfl rfl (v_move (v := (Value.int .i64 i)) hE7) ?_
        obtain ⟨hi, h⟩ := h
        refine rl_q rfl rfl rfl (v_add rfl rfl hi) ?_
        refine rl_q rfl rfl rfl (v_assign (v := (Value.int .i64 (i + 1))) rfl) ?_
        refine rl_end ?_
        obtain ⟨mq, hlt, h⟩ := h
        exact again mq _ _ _ ⟨_, h, rfl, hE1, hE2, hE3, rfl, rB⟩ hlt
    · replace h := h.2 hp2
      refine rl_p (wanted_n rfl (yE_of rfl (congrArg Value.bool (decide_eq_false hp2))) rfl) rfl ?_
      refine rl_p (wanted_n rfl (yE_of rfl (congrArg Value.bool (decide_eq_false hp2))) rfl) rfl ?_
      refine rl_p (wanted_n rfl (yE_of rfl (congrArg Value.bool (decide_eq_false hp2))) rfl) rfl ?_
      refine rl_p (wanted_n rfl (yE_of rfl (congrArg Value.bool (decide_eq_false hp2))) rfl) rfl ?_
      refine rl_p (wanted_n rfl (yE_of rfl (congrArg Value.bool (decide_eq_false hp2))) rfl) rfl ?_
      refine rl_p (wanted_n rfl (yE_of rfl (congrArg Value.bool (decide_eq_false hp2))) rfl) rfl ?_
      refine rl_q rfl rfl rfl (v_pick_f (v := (Value.bool (false))) (congrArg Value.bool (decide_eq_false hp2)) rfl) ?_
      refine rl_end ?_
      refine wt_cond_f rfl ?_
      refine wt_skip ?_
      refine wt_inBlock ?_
      refine wl_region wd_wide ?_
      refine rl_q rfl rfl rfl (v_move (v := (Value.int .i64 i)) hE7) ?_
      obtain ⟨hi2, h⟩ := h
      refine rl_q rfl rfl rfl (v_add rfl rfl hi2) ?_
      refine rl_q rfl rfl rfl (v_assign (v := (Value.int .i64 (i + 1))) rfl) ?_
      refine rl_end ?_
      obtain ⟨mq, hlt, h⟩ := h
      exact again mq _ _ _ ⟨_, h, rfl, hE1, hE2, hE3, rfl, rB⟩ hlt
  · replace h := h.2 hp
    refine wt_cond_f (congrArg Value.bool (decide_eq_false hp)) ?_
    refine wt_exit rfl ?_
    refine wt_seq ?_
    refine wl_region wd_wide ?_
    refine rl_q rfl rfl rfl (v_assign (v := (Value.int .i64 0)) rfl) ?_
    refine rl_end ?_
    exact wt_ret1 rfl rfl ⟨_, rfl, h⟩

/-- sandpile/sandpileref08.Reached: what its code does. -/
def sh_r08_Reached (g : Int) (Ag : Option Addr) (lg : Nat) (cg : Nat) (v : Int) (w : World) (R : Option Addr → Nat → Nat → World → Prop) : Prop :=
(∀ (g2 : Nat) (w2 : World), New w g2 w2 #[(Value.int .i64 g), (Value.slice Ag lg cg)] 24 →
((0 ≤ g ∧ g ≤ 1000000) ∧
∀ (g3 : Nat) (w3 : World), New w2 g3 w3 (Array.replicate g.toNat (Value.bool (false))) 4 →
(Ix (some ⟨g3, 0, none⟩) g.toNat v ∧
(Wr w3 (ixA (some ⟨g3, 0, none⟩) v 1) ∧
(ixA (some ⟨g3, 0, none⟩) v 1).block ≠ g2 ∧
∀ w4, w4 = w3.setCell (ixA (some ⟨g3, 0, none⟩) v 1) (Value.bool (true)) →
(∃ I2 : Nat → Int → World → Prop, (∃ m0, I2 m0 0 w4) ∧ ∀ (m1 : Nat) (round : Int) (w5 : World), I2 m1 round w5 → 
((round < g →
(∃ I3 : Nat → Int → World → Prop, (∃ m0, I3 m0 0 w5) ∧ ∀ (m2 : Nat) (a : Int) (w6 : World), I3 m2 a w6 → 
((a < g →
(∃ I4 : Nat → Int → World → Prop, (∃ m0, I4 m0 0 w6) ∧ ∀ (m3 : Nat) (b : Int) (w7 : World), I4 m3 b w7 → 
((b < g →
(Ix (some ⟨g3, 0, none⟩) g.toNat a ∧
(∃ x : Bool, w7.cell? (ixA (some ⟨g3, 0, none⟩) a 1) = some (Value.bool (x)) ∧
((x = true →
(Calls Try.prog 136 #[(Value.agg #[(Value.int .i64 g), (Value.slice Ag lg cg)]), (Value.int .i64 a), (Value.int .i64 b)] w7 fun e w8 => ∃ r : Int, e = .returned (Value.int .i64 r) ∧
Kp w7 w8 g2 ∧
((0 < r →
(Ix (some ⟨g3, 0, none⟩) g.toNat b ∧
(Wr w8 (ixA (some ⟨g3, 0, none⟩) b 1) ∧
(ixA (some ⟨g3, 0, none⟩) b 1).block ≠ g2 ∧
∀ w9, w9 = w8.setCell (ixA (some ⟨g3, 0, none⟩) b 1) (Value.bool (true)) →
(In64 (b + 1) ∧
∃ m4, m4 < m3 ∧ I4 m4 (b + 1) w9)))) ∧
(¬ (0 < r) →
(In64 (b + 1) ∧
∃ m5, m5 < m3 ∧ I4 m5 (b + 1) w8))))) ∧
(¬ (x = true) →
(In64 (b + 1) ∧
∃ m6, m6 < m3 ∧ I4 m6 (b + 1) w7)))))) ∧
(¬ (b < g) →
(In64 (a + 1) ∧
∃ m7, m7 < m2 ∧ I3 m7 (a + 1) w7))))) ∧
(¬ (a < g) →
(In64 (round + 1) ∧
∃ m8, m8 < m1 ∧ I2 m8 (round + 1) w6))))) ∧
(¬ (round < g) →
R (some ⟨g3, 0, none⟩) g.toNat g.toNat w5)))))))
theorem ok_r08_Reached (g : Int) (Ag : Option Addr) (lg : Nat) (cg : Nat) (v : Int) (w : World) (R : Option Addr → Nat → Nat → World → Prop) (h : sh_r08_Reached g Ag lg cg v w R) :
    Calls Try.prog 169 #[(Value.agg #[(Value.int .i64 g), (Value.slice Ag lg cg)]), (Value.int .i64 v)] w fun e w' => ∃ Ar : Option Addr, ∃ lr : Nat, ∃ cr : Nat, e = .returned (Value.slice Ar lr cr) ∧ R Ar lr cr w' := by
  unfold sh_r08_Reached at h
  refine calls_sh (l := [(Value.agg #[(Value.int .i64 g), (Value.slice Ag lg cg)]), (Value.int .i64 v)]) Try.func169 rfl Try.ntmps169 (Nat.le_of_ble_eq_true rfl) ?_
  refine wt_seq ?_
  refine wl_region wd_wide ?_
  refine rl_n rfl rfl rfl rfl (n_box (v := (Value.agg #[(Value.int .i64 g), (Value.slice Ag lg cg)])) rfl ?_)
  intro g2 w2 hN
  replace h := h g2 w2 hN
  have rB : Row w2 g2 24 2 [(Value.int .i64 g), (Value.slice Ag lg cg)] := hN.row
  clear hN
  refine ⟨Stb.none _, ?_⟩
  refine rl_q rfl rfl rfl (v_assign (v := (Value.slice none 0 0)) rfl) ?_
  refine rl_end ?_
  refine wt_seq ?_
  refine wl_region wd_wide ?_
  refine rl_q rfl rfl rfl (v_faddr rfl Try.underlying24 rfl info_3) ?_
  refine rl_q rfl rfl rfl (v_load rfl Try.underlying3 rfl (Row.cell rB (i := 0) rfl)) ?_
  obtain ⟨hn, h⟩ := h
  refine rl_n rfl rfl rfl rfl (n_make rfl rfl Try.underlying102 info_4 (by decide) rfl hn ?_)
  intro g3 w3 hN2
  replace h := h g3 w3 hN2
  replace rB := rB.kp (hN2.kp _)
  clear hN2
  refine ⟨Stb.none _, ?_⟩
  refine rl_q rfl rfl rfl (v_assign (v := (Value.slice (some ⟨g3, 0, none⟩) g.toNat g.toNat)) rfl) ?_
  refine rl_end ?_
  refine wt_seq ?_
  refine wl_region wd_wide ?_
  refine rl_q rfl rfl rfl (v_move (v := (Value.slice (some ⟨g3, 0, none⟩) g.toNat g.toNat)) rfl) ?_
  refine rl_q rfl rfl rfl (v_move (v := (Value.int .i64 v)) rfl) ?_
  obtain ⟨hx, h⟩ := h
  refine rl_q rfl rfl rfl (v_iaddr rfl rfl Try.underlying102 info_4 hx) ?_
  obtain ⟨hw, h⟩ := h
  obtain ⟨hb, h⟩ := h
  refine rl_n0 rfl rfl rfl (n_store (v := (Value.bool (true))) rfl rfl rfl info_4 hw ?_)
  intro w4 ew
  replace h := h w4 ew
  replace rB : Row w4 g2 24 2 [(Value.int .i64 g), (Value.slice Ag lg cg)] := rB.kp (by rw [ew]; exact kp_set hb)
  clear ew
  refine ⟨Stb.none _, ?_⟩
  refine rl_end ?_
  refine wt_seq ?_
  refine wt_seq ?_
  refine wl_region wd_wide ?_
  refine rl_q rfl rfl rfl (v_assign (v := (Value.int .i64 0)) rfl) ?_
  refine rl_end ?_
  refine wt_block ?_
  obtain ⟨I2, ⟨m0, h0⟩, hr⟩ := h
  refine wt_loop (fun m E ds w' => ∃ round : Int, I2 m round w' ∧ ds = [] ∧ E 2 = (Value.pointer (some (⟨g2, 0, none⟩ : Addr))) ∧ E 5 = (Value.slice (some ⟨g3, 0, none⟩) g.toNat g.toNat) ∧ E 6 = (Value.int .i64 round) ∧ Row w' g2 24 2 [(Value.int .i64 g), (Value.slice Ag lg cg)]) m0 ⟨_, h0, rfl, rfl, rfl, rfl, rB⟩ ?_
  clear h0
  rintro m1 E ds w5 ⟨round, h, rfl, hE2, hE5, hE6, rB⟩ again
  replace h := hr m1 round w5 h
  clear hr
  refine wt_seq ?_
  refine wt_seq ?_
  refine wl_region wd_wide ?_
  refine rl_q rfl rfl rfl (v_move (v := (Value.int .i64 round)) hE6) ?_
  refine rl_q rfl rfl rfl (v_faddr hE2 Try.underlying24 rfl info_3) ?_
  refine rl_q rfl rfl rfl (v_load rfl Try.underlying3 rfl (Row.cell rB (i := 0) rfl)) ?_
  refine rl_q rfl rfl rfl (v_lss rfl rfl) ?_
  refine rl_end ?_
  by_cases hp : round < g
  · replace h := h.1 hp
    refine wt_cond_t (congrArg Value.bool (decide_eq_true hp)) ?_
    refine wt_skip ?_
    refine wt_seq ?_
    refine wt_block ?_
    refine wt_seq ?_
    refine wl_region wd_wide ?_
    refine rl_q rfl rfl rfl (v_assign (v := (Value.int .i64 0)) rfl) ?_
    refine rl_end ?_
    refine wt_block ?_
    obtain ⟨I3, ⟨m0, h0⟩, hr⟩ := h
    refine wt_loop (fun m E ds w' => ∃ a : Int, I3 m a w' ∧ ds = [] ∧ E 2 = (Value.pointer (some (⟨g2, 0, none⟩ : Addr))) ∧ E 5 = (Value.slice (some ⟨g3, 0, none⟩) g.toNat g.toNat) ∧ E 6 = (Value.int .i64 round) ∧ E 7 = (Value.int .i64 a) ∧ Row w' g2 24 2 [(Value.int .i64 g), (Value.slice Ag lg cg)]) m0 ⟨_, h0, rfl, hE2, hE5, hE6, rfl, rB⟩ ?_
    clear h0
    rintro m2 E ds w6 ⟨a, h, rfl, hE2, hE5, hE6, hE7, rB⟩ again2
    replace h := hr m2 a w6 h
    clear hr
    refine wt_seq ?_
    refine wt_seq ?_
    refine wl_region wd_wide ?_
    refine rl_q rfl rfl rfl (v_move (v := (Value.int .i64 a)) hE7) ?_
    refine rl_q rfl rfl rfl (v_faddr hE2 Try.underlying24 rfl info_3) ?_
    refine rl_q rfl rfl rfl (v_load rfl Try.underlying3 rfl (Row.cell rB (i := 0) rfl)) ?_
    refine rl_q rfl rfl rfl (v_lss rfl rfl) ?_
    refine rl_end ?_
    by_cases hp2 : a < g
    · replace h := h.1 hp2
      refine wt_cond_t (congrArg Value.bool (decide_eq_true hp2)) ?_
      refine wt_skip ?_
      refine wt_seq ?_
      refine wt_block ?_
      refine wt_seq ?_
      refine wl_region wd_wide ?_
      refine rl_q rfl rfl rfl (v_assign (v := (Value.int .i64 0)) rfl) ?_
      refine rl_end ?_
      refine wt_block ?_
      obtain ⟨I4, ⟨m0, h0⟩, hr⟩ := h
      refine wt_loop (fun m E ds w' => ∃ b : Int, I4 m b w' ∧ ds = [] ∧ E 2 = (Value.pointer (some (⟨g2, 0, none⟩ : Addr))) ∧ E 5 = (Value.slice (some ⟨g3, 0, none⟩) g.toNat g.toNat) ∧ E 6 = (Value.int .i64 round) ∧ E 7 = (Value.int .i64 a) ∧ E 8 = (Value.int .i64 b) ∧ Row w' g2 24 2 [(Value.int .i64 g), (Value.slice Ag lg cg)]) m0 ⟨_, h0, rfl, hE2, hE5, hE6, hE7, rfl, rB⟩ ?_
      clear h0
      rintro m3 E ds w7 ⟨b, h, rfl, hE2, hE5, hE6, hE7, hE8, rB⟩ again3
      replace h := hr m3 b w7 h
      clear hr
      refine wt_seq ?_
      refine wt_seq ?_
      refine wl_region wd_wide ?_
      refine rl_q rfl rfl rfl (v_move (v := (Value.int .i64 b)) hE8) ?_
      refine rl_q rfl rfl rfl (v_faddr hE2 Try.underlying24 rfl info_3) ?_
      refine rl_q rfl rfl rfl (v_load rfl Try.underlying3 rfl (Row.cell rB (i := 0) rfl)) ?_
      refine rl_q rfl rfl rfl (v_lss rfl rfl) ?_
      refine rl_end ?_
      by_cases hp3 : b < g
      · replace h := h.1 hp3
        refine wt_cond_t (congrArg Value.bool (decide_eq_true hp3)) ?_
        refine wt_skip ?_
        refine wt_seq ?_
        refine wt_block ?_
        refine wt_seq ?_
        refine wl_region wd_wide ?_
        refine rl_q rfl rfl rfl (v_move (v := (Value.slice (some ⟨g3, 0, none⟩) g.toNat g.toNat)) hE5) ?_
        refine rl_q rfl rfl rfl (v_move (v := (Value.int .i64 a)) hE7) ?_
        obtain ⟨hx2, h⟩ := h
        refine rl_q rfl rfl rfl (v_iaddr rfl rfl Try.underlying102 info_4 hx2) ?_
        obtain ⟨x, hc, h⟩ := h
        refine rl_q rfl rfl rfl (v_load rfl Try.underlying4 rfl hc) ?_
        refine rl_q rfl rfl rfl (v_move (v := (Value.bool (x))) rfl) ?_
        by_cases hp4 : x = true
        · replace h := h.1 hp4
          refine rl_q (wanted_g rfl (yE_of rfl (congrArg Value.bool hp4))) rfl rfl (v_loadn (vs := [(Value.int .i64 g), (Value.slice Ag lg cg)]) hE2 Try.underlying24 rfl info_24 ⟨Row.cell rB (i := 0) rfl, Row.cell rB (i := 1) rfl, trivial⟩) ?_
          refine rl_q (wanted_g rfl (yE_of rfl (congrArg Value.bool hp4))) rfl rfl (v_move (v := (Value.int .i64 a)) hE7) ?_
          refine rl_q (wanted_g rfl (yE_of rfl (congrArg Value.bool hp4))) rfl rfl (v_move (v := (Value.int .i64 b)) hE8) ?_
          refine rl_n (wanted_g rfl (yE_of rfl (congrArg Value.bool hp4))) rfl rfl rfl (n_call0 rfl (am3 rfl rfl rfl) enter_136 (h.mono ?_))
          rintro _ w8 ⟨r, rfl, hk, h⟩
          replace rB := rB.kp hk
          refine ⟨_, rfl, Stb.none _, ?_⟩
          refine rl_q (wanted_g rfl (yE_of rfl (congrArg Value.bool hp4))) rfl rfl (v_gtr rfl rfl) ?_
          refine rl_q rfl rfl rfl (v_pick_t (v := (Value.bool (decide (0 < r)))) (congrArg Value.bool hp4) rfl) ?_
          refine rl_end ?_
          by_cases hp5 : 0 < r
          · replace h := h.1 hp5
            refine wt_cond_t (congrArg Value.bool (decide_eq_true hp5)) ?_
            refine wl_region wd_wide ?_
            refine rl_q rfl rfl rfl (v_move (v := (Value.slice (some ⟨g3, 0, none⟩) g.toNat g.toNat)) hE5) ?_
            refine rl_q rfl rfl rfl (v_move (v := (Value.int .i64 b)) hE8) ?_
            obtain ⟨hx3, h⟩ := h
            refine rl_q rfl rfl rfl (v_iaddr rfl rfl Try.underlying102 info_4 hx3) ?_
            obtain ⟨hw2, h⟩ := h
            obtain ⟨hb2, h⟩ := h
            refine rl_n0 rfl rfl rfl (n_store (v := (Value.bool (true))) rfl rfl rfl info_4 hw2 ?_)
            intro w9 ew2
            replace h := h w9 ew2
            replace rB : Row w9 g2 24 2 [(Value.int .i64 g), (Value.slice Ag lg cg)] := rB.kp (by rw [ew2]; exact kp_set hb2)
            clear ew2
            refine ⟨Stb.none _, ?_⟩
            refine rl_end ?_
            refine wt_inBlock ?_
            refine wl_region wd_wide ?_
            refine rl_q rfl rfl rfl (v_move (v := (Value.int .i64 b)) hE8) ?_
            obtain ⟨hi, h⟩ := h
            refine rl_q rfl rfl rfl (v_add rfl rfl hi) ?_
            refine rl_q rfl rfl rfl (v_assign (v := (Value.int .i64 (b + 1))) rfl) ?_
            refine rl_end ?_
            obtain ⟨mq, hlt, h⟩ := h
            exact again3 mq _ _ _ ⟨_, h, rfl, hE2, hE5, hE6, hE7, rfl, rB⟩ hlt
          · replace h := h.2 hp5
            refine wt_cond_f (congrArg Value.bool (decide_eq_false hp5)) ?_
            refine wt_skip ?_
            refine wt_inBlock ?_
            refine wl_region wd_wide ?_
            refine rl_q rfl rfl rfl (v_move (v := (Value.int .i64 b)) hE8) ?_
            obtain ⟨hi2, h⟩ := h
            refine rl_q rfl rfl rfl (v_add rfl rfl hi2) ?_
            refine rl_q rfl rfl rfl (v_assign (v := (Value.int .i64 (b + 1))) rfl) ?_
            refine rl_end ?_
            obtain ⟨mq, hlt, h⟩ := h
            exact again3 mq _ _ _ ⟨_, h, rfl, hE2, hE5, hE6, hE7, rfl, rB⟩ hlt
        · replace h := h.2 hp4
          refine rl_p (wanted_n rfl (yE_of rfl (congrArg Value.bool (Bool.eq_false_iff.2 hp4))) rfl) rfl ?_
          refine rl_p (wanted_n rfl (yE_of rfl (congrArg Value.bool (Bool.eq_false_iff.2 hp4))) rfl) rfl ?_
          refine rl_p (wanted_n rfl (yE_of rfl (congrArg Value.bool (Bool.eq_false_iff.2 hp4))) rfl) rfl ?_
          refine rl_p (wanted_n rfl (yE_of rfl (congrArg Value.bool (Bool.eq_false_iff.2 hp4))) rfl) rfl ?_
          refine rl_p (wanted_n rfl (yE_of rfl (congrArg Value.bool (Bool.eq_false_iff.2 hp4))) rfl) rfl ?_
          refine rl_q rfl rfl rfl (v_pick_f (v := (Value.bool (false))) (congrArg Value.bool (Bool.eq_false_iff.2 hp4)) rfl) ?_
          refine rl_end ?_
          refine wt_cond_f rfl ?_
          refine wt_skip ?_
          refine wt_inBlock ?_
          refine wl_region wd_wide ?_
          refine rl_q rfl rfl rfl (v_move (v := (Value.int .i64 b)) hE8) ?_
          obtain ⟨hi3, h⟩ := h
          refine rl_q rfl rfl rfl (v_add rfl rfl hi3) ?_
          refine rl_q rfl rfl rfl (v_assign (v := (Value.int .i64 (b + 1))) rfl) ?_
          refine rl_end ?_
          obtain ⟨mq, hlt, h⟩ := h
          exact again3 mq _ _ _ ⟨_, h, rfl, hE2, hE5, hE6, hE7, rfl, rB⟩ hlt
      · replace h := h.2 hp3
        refine wt_cond_f (congrArg Value.bool (decide_eq_false hp3)) ?_
        refine wt_exit rfl ?_
        refine wt_inBlock ?_
        refine wl_region wd_wide ?_
        refine rl_q rfl rfl rfl (v_move (v := (Value.int .i64 a)) hE7) ?_
        obtain ⟨hi4, h⟩ := h
        refine rl_q rfl rfl rfl (v_add rfl rfl hi4) ?_
        refine rl_q rfl rfl rfl (v_assign (v := (Value.int .i64 (a + 1))) rfl) ?_
        refine rl_end ?_
        obtain ⟨mq, hlt, h⟩ := h
        exact again2 mq _ _ _ ⟨_, h, rfl, hE2, hE5, hE6, rfl, rB⟩ hlt
    · replace h := h.2 hp2
      refine wt_cond_f (congrArg Value.bool (decide_eq_false hp2)) ?_
      refine wt_exit rfl ?_
      refine wt_inBlock ?_
      refine wl_region wd_wide ?_
      refine rl_q rfl rfl rfl (v_move (v := (Value.int .i64 round)) hE6) ?_
      obtain ⟨hi5, h⟩ := h
      refine rl_q rfl rfl rfl (v_add rfl rfl hi5) ?_
      refine rl_q rfl rfl rfl (v_assign (v := (Value.int .i64 (round + 1))) rfl) ?_
      refine rl_end ?_
      obtain ⟨mq, hlt, h⟩ := h
      exact again mq _ _ _ ⟨_, h, rfl, hE2, hE5, rfl, rB⟩ hlt
  · replace h := h.2 hp
    refine wt_cond_f (congrArg Value.bool (decide_eq_false hp)) ?_
    refine wt_exit rfl ?_
    refine wt_seq ?_
    refine wl_region wd_wide ?_
    refine rl_q rfl rfl rfl (v_move (v := (Value.slice (some ⟨g3, 0, none⟩) g.toNat g.toNat)) hE5) ?_
    refine rl_q rfl rfl rfl (v_assign (v := (Value.slice (some ⟨g3, 0, none⟩) g.toNat g.toNat)) rfl) ?_
    refine rl_end ?_
    exact wt_ret1 rfl rfl ⟨_, _, _, rfl, h⟩

/-- sandpile/sandpileref08.Parts: what its code does. -/
def sh_r08_Parts (g : Int) (Ag : Option Addr) (lg : Nat) (cg : Nat) (w : World) (R : Int → World → Prop) : Prop :=
(∀ (g2 : Nat) (w2 : World), New w g2 w2 #[(Value.int .i64 g), (Value.slice Ag lg cg)] 24 →
((0 ≤ g ∧ g ≤ 1000000) ∧
∀ (g3 : Nat) (w3 : World), New w2 g3 w3 (Array.replicate g.toNat (Value.bool (false))) 4 →
(∃ I2 : Nat → Int → Int → World → Prop, (∃ m0, I2 m0 0 0 w3) ∧ ∀ (m1 : Nat) (n : Int) (v : Int) (w4 : World), I2 m1 n v w4 → 
((v < g →
(Ix (some ⟨g3, 0, none⟩) g.toNat v ∧
(∃ x : Bool, w4.cell? (ixA (some ⟨g3, 0, none⟩) v 1) = some (Value.bool (x)) ∧
((x = true →
(In64 (v + 1) ∧
∃ m2, m2 < m1 ∧ I2 m2 n (v + 1) w4)) ∧
(¬ (x = true) →
(In64 (n + 1) ∧
(Calls Try.prog 169 #[(Value.agg #[(Value.int .i64 g), (Value.slice Ag lg cg)]), (Value.int .i64 v)] w4 fun e w5 => ∃ Ar : Option Addr, ∃ lr : Nat, ∃ cr : Nat, e = .returned (Value.slice Ar lr cr) ∧
Kp w4 w5 g2 ∧
(∃ I3 : Nat → Int → World → Prop, (∃ m0, I3 m0 0 w5) ∧ ∀ (m3 : Nat) (u : Int) (w6 : World), I3 m3 u w6 → 
((u < g →
(Ix (some ⟨g3, 0, none⟩) g.toNat u ∧
(∃ x2 : Bool, w6.cell? (ixA (some ⟨g3, 0, none⟩) u 1) = some (Value.bool (x2)) ∧
((x2 = true →
(Ix (some ⟨g3, 0, none⟩) g.toNat u ∧
(Wr w6 (ixA (some ⟨g3, 0, none⟩) u 1) ∧
(ixA (some ⟨g3, 0, none⟩) u 1).block ≠ g2 ∧
∀ w7, w7 = w6.setCell (ixA (some ⟨g3, 0, none⟩) u 1) (Value.bool (true)) →
(In64 (u + 1) ∧
∃ m4, m4 < m3 ∧ I3 m4 (u + 1) w7)))) ∧
(¬ (x2 = true) →
(Ix Ar lr u ∧
(∃ x3 : Bool, w6.cell? (ixA Ar u 1) = some (Value.bool (x3)) ∧
(Ix (some ⟨g3, 0, none⟩) g.toNat u ∧
(Wr w6 (ixA (some ⟨g3, 0, none⟩) u 1) ∧
(ixA (some ⟨g3, 0, none⟩) u 1).block ≠ g2 ∧
∀ w8, w8 = w6.setCell (ixA (some ⟨g3, 0, none⟩) u 1) (Value.bool (x3)) →
(In64 (u + 1) ∧
∃ m5, m5 < m3 ∧ I3 m5 (u + 1) w8)))))))))) ∧
(¬ (u < g) →
(In64 (v + 1) ∧
∃ m6, m6 < m1 ∧ I2 m6 (n + 1) (v + 1) w6))))))))))) ∧
(¬ (v < g) →
R n w4)))))
theorem ok_r08_Parts (g : Int) (Ag : Option Addr) (lg : Nat) (cg : Nat) (w : World) (R : Int → World → Prop) (h : sh_r08_Parts g Ag lg cg w R) :
    Calls Try.prog 155 #[(Value.agg #[(Value.int .i64 g), (Value.slice Ag lg cg)])] w fun e w' => ∃ r : Int, e = .returned (Value.int .i64 r) ∧ R r w' := by
  unfold sh_r08_Parts at h
  refine calls_sh (l := [(Value.agg #[(Value.int .i64 g), (Value.slice Ag lg cg)])]) Try.func155 rfl Try.ntmps155 (Nat.le_of_ble_eq_true rfl) ?_
  refine wt_seq ?_
  refine wl_region wd_wide ?_
  refine rl_n rfl rfl rfl rfl (n_box (v := (Value.agg #[(Value.int .i64 g), (Value.slice Ag lg cg)])) rfl ?_)
  intro g2 w2 hN
  replace h := h g2 w2 hN
  have rB : Row w2 g2 24 2 [(Value.int .i64 g), (Value.slice Ag lg cg)] := hN.row
  clear hN
  refine ⟨Stb.none _, ?_⟩
  refine rl_q rfl rfl rfl (v_assign (v := (Value.int .i64 0)) rfl) ?_
  refine rl_end ?_
  refine wt_seq ?_
  refine wl_region wd_wide ?_
  refine rl_q rfl rfl rfl (v_assign (v := (Value.int .i64 0)) rfl) ?_
  refine rl_end ?_
  refine wt_seq ?_
  refine wl_region wd_wide ?_
  refine rl_q rfl rfl rfl (v_faddr rfl Try.underlying24 rfl info_3) ?_
  refine rl_q rfl rfl rfl (v_load rfl Try.underlying3 rfl (Row.cell rB (i := 0) rfl)) ?_
  obtain ⟨hn, h⟩ := h
  refine rl_n rfl rfl rfl rfl (n_make rfl rfl Try.underlying102 info_4 (by decide) rfl hn ?_)
  intro g3 w3 hN2
  replace h := h g3 w3 hN2
  replace rB := rB.kp (hN2.kp _)
  clear hN2
  refine ⟨Stb.none _, ?_⟩
  refine rl_q rfl rfl rfl (v_assign (v := (Value.slice (some ⟨g3, 0, none⟩) g.toNat g.toNat)) rfl) ?_
  refine rl_end ?_
  refine wt_seq ?_
  refine wt_seq ?_
  refine wl_region wd_wide ?_
  refine rl_q rfl rfl rfl (v_assign (v := (Value.int .i64 0)) rfl) ?_
  refine rl_end ?_
  refine wt_block ?_
  obtain ⟨I2, ⟨m0, h0⟩, hr⟩ := h
  refine wt_loop (fun m E ds w' => ∃ n : Int, ∃ v : Int, I2 m n v w' ∧ ds = [] ∧ E 1 = (Value.pointer (some (⟨g2, 0, none⟩ : Addr))) ∧ E 3 = (Value.int .i64 n) ∧ E 4 = (Value.slice (some ⟨g3, 0, none⟩) g.toNat g.toNat) ∧ E 5 = (Value.int .i64 v) ∧ Row w' g2 24 2 [(Value.int .i64 g), (Value.slice Ag lg cg)]) m0 ⟨_, _, h0, rfl, rfl, rfl, rfl, rfl, rB⟩ ?_
  clear h0
  rintro m1 E ds w4 ⟨n, v, h, rfl, hE1, hE3, hE4, hE5, rB⟩ again
  replace h := hr m1 n v w4 h
  clear hr
  refine wt_seq ?_
  refine wt_seq ?_
  refine wl_region wd_wide ?_
  refine rl_q rfl rfl rfl (v_move (v := (Value.int .i64 v)) hE5) ?_
  refine rl_q rfl rfl rfl (v_faddr hE1 Try.underlying24 rfl info_3) ?_
  refine rl_q rfl rfl rfl (v_load rfl Try.underlying3 rfl (Row.cell rB (i := 0) rfl)) ?_
  refine rl_q rfl rfl rfl (v_lss rfl rfl) ?_
  refine rl_end ?_
  by_cases hp : v < g
  · replace h := h.1 hp
    refine wt_cond_t (congrArg Value.bool (decide_eq_true hp)) ?_
    refine wt_skip ?_
    refine wt_seq ?_
    refine wt_block ?_
    refine wt_seq ?_
    refine wt_seq ?_
    refine wl_region wd_wide ?_
    refine rl_q rfl rfl rfl (v_move (v := (Value.slice (some ⟨g3, 0, none⟩) g.toNat g.toNat)) hE4) ?_
    refine rl_q rfl rfl rfl (v_move (v := (Value.int .i64 v)) hE5) ?_
    obtain ⟨hx, h⟩ := h
    refine rl_q rfl rfl rfl (v_iaddr rfl rfl Try.underlying102 info_4 hx) ?_
    obtain ⟨x, hc, h⟩ := h
    refine rl_q rfl rfl rfl (v_load rfl Try.underlying4 rfl hc) ?_
    refine rl_end ?_
    by_cases hp2 : x = true
    · replace h := h.1 hp2
      refine wt_cond_t (congrArg Value.bool hp2) ?_
      refine wt_exit rfl ?_
      refine wl_region wd_wide ?_
      refine rl_q rfl rfl rfl (v_move (v := (Value.int .i64 v)) hE5) ?_
      obtain ⟨hi, h⟩ := h
      refine rl_q rfl rfl rfl (v_add rfl rfl hi) ?_
      refine rl_q rfl rfl rfl (v_assign (v := (Value.int .i64 (v + 1))) rfl) ?_
      refine rl_end ?_
      obtain ⟨mq, hlt, h⟩ := h
      exact again mq _ _ _ ⟨_, _, h, rfl, hE1, hE3, hE4, rfl, rB⟩ hlt
    · replace h := h.2 hp2
      refine wt_cond_f (congrArg Value.bool (Bool.eq_false_iff.2 hp2)) ?_
      refine wt_skip ?_
      refine wt_seq ?_
      refine wl_region wd_wide ?_
      refine rl_q rfl rfl rfl (v_move (v := (Value.int .i64 n)) hE3) ?_
      obtain ⟨hi2, h⟩ := h
      refine rl_q rfl rfl rfl (v_add rfl rfl hi2) ?_
      refine rl_q rfl rfl rfl (v_assign (v := (Value.int .i64 (n + 1))) rfl) ?_
      refine rl_end ?_
      refine wt_seq ?_
      refine wl_region wd_wide ?_
      refine rl_q rfl rfl rfl (v_loadn (vs := [(Value.int .i64 g), (Value.slice Ag lg cg)]) hE1 Try.underlying24 rfl info_24 ⟨Row.cell rB (i := 0) rfl, Row.cell rB (i := 1) rfl, trivial⟩) ?_
      refine rl_q rfl rfl rfl (v_move (v := (Value.int .i64 v)) hE5) ?_
      refine rl_n rfl rfl rfl rfl (n_call0 rfl (am2 rfl rfl) enter_169 (h.mono ?_))
      rintro _ w5 ⟨Ar, lr, cr, rfl, hk, h⟩
      replace rB := rB.kp hk
      refine ⟨_, rfl, Stb.none _, ?_⟩
      refine rl_q rfl rfl rfl (v_assign (v := (Value.slice Ar lr cr)) rfl) ?_
      refine rl_end ?_
      refine wt_seq ?_
      refine wl_region wd_wide ?_
      refine rl_q rfl rfl rfl (v_assign (v := (Value.int .i64 0)) rfl) ?_
      refine rl_end ?_
      refine wt_block ?_
      obtain ⟨I3, ⟨m0, h0⟩, hr⟩ := h
      refine wt_loop (fun m E ds w' => ∃ u : Int, I3 m u w' ∧ ds = [] ∧ E 1 = (Value.pointer (some (⟨g2, 0, none⟩ : Addr))) ∧ E 3 = (Value.int .i64 (n + 1)) ∧ E 4 = (Value.slice (some ⟨g3, 0, none⟩) g.toNat g.toNat) ∧ E 5 = (Value.int .i64 v) ∧ E 6 = (Value.slice Ar lr cr) ∧ E 7 = (Value.int .i64 u) ∧ Row w' g2 24 2 [(Value.int .i64 g), (Value.slice Ag lg cg)]) m0 ⟨_, h0, rfl, hE1, rfl, hE4, hE5, rfl, rfl, rB⟩ ?_
      clear h0
      rintro m3 E ds w6 ⟨u, h, rfl, hE1, hE3, hE4, hE5, hE6, hE7, rB⟩ again2
      replace h := hr m3 u w6 h
      clear hr
      refine wt_seq ?_
      refine wt_seq ?_
      refine wl_region wd_wide ?_
      refine rl_q rfl rfl rfl (v_move (v := (Value.int .i64 u)) hE7) ?_
      refine rl_q rfl rfl rfl (v_faddr hE1 Try.underlying24 rfl info_3) ?_
      refine rl_q rfl rfl rfl (v_load rfl Try.underlying3 rfl (Row.cell rB (i := 0) rfl)) ?_
      refine rl_q rfl rfl rfl (v_lss rfl rfl) ?_
      refine rl_end ?_
      by_cases hp3 : u < g
      · replace h := h.1 hp3
        refine wt_cond_t (congrArg Value.bool (decide_eq_true hp3)) ?_
        refine wt_skip ?_
        refine wt_seq ?_
        refine wt_block ?_
        refine wl_region wd_wide ?_
        refine rl_q rfl rfl rfl (v_move (v := (Value.slice (some ⟨g3, 0, none⟩) g.toNat g.toNat)) hE4) ?_
        refine rl_q rfl rfl rfl (v_move (v := (Value.int .i64 u)) hE7) ?_
        refine rl_q rfl rfl rfl (v_move (v := (Value.slice (some ⟨g3, 0, none⟩) g.toNat g.toNat)) hE4) ?_
        refine rl_q rfl rfl rfl (v_move (v := (Value.int .i64 u)) hE7) ?_
        obtain ⟨hx2, h⟩ := h
        refine rl_q rfl rfl rfl (v_iaddr rfl rfl Try.underlying102 info_4 hx2) ?_
        obtain ⟨x2, hc2, h⟩ := h
        refine rl_q rfl rfl rfl (v_load rfl Try.underlying4 rfl hc2) ?_
        refine rl_q rfl rfl rfl (v_move (v := (Value.bool (x2))) rfl) ?_
        by_cases hp4 : x2 = true
        · replace h := h.1 hp4
          refine rl_p (wanted_n rfl (yE_of rfl (congrArg Value.bool hp4)) rfl) rfl ?_
          refine rl_p (wanted_n rfl (yE_of rfl (congrArg Value.bool hp4)) rfl) rfl ?_
          refine rl_p (wanted_n rfl (yE_of rfl (congrArg Value.bool hp4)) rfl) rfl ?_
          refine rl_p (wanted_n rfl (yE_of rfl (congrArg Value.bool hp4)) rfl) rfl ?_
          refine rl_q rfl rfl rfl (v_pick_t (v := (Value.bool (true))) (congrArg Value.bool hp4) rfl) ?_
          obtain ⟨hx3, h⟩ := h
          refine rl_q rfl rfl rfl (v_iaddr rfl rfl Try.underlying102 info_4 hx3) ?_
          obtain ⟨hw, h⟩ := h
          obtain ⟨hb, h⟩ := h
          refine rl_n0 rfl rfl rfl (n_store (v := (Value.bool (true))) rfl rfl rfl info_4 hw ?_)
          intro w7 ew
          replace h := h w7 ew
          replace rB : Row w7 g2 24 2 [(Value.int .i64 g), (Value.slice Ag lg cg)] := rB.kp (by rw [ew]; exact kp_set hb)
          clear ew
          refine ⟨Stb.none _, ?_⟩
          refine rl_end ?_
          refine wt_inBlock ?_
          refine wl_region wd_wide ?_
          refine rl_q rfl rfl rfl (v_move (v := (Value.int .i64 u)) hE7) ?_
          obtain ⟨hi3, h⟩ := h
          refine rl_q rfl rfl rfl (v_add rfl rfl hi3) ?_
          refine rl_q rfl rfl rfl (v_assign (v := (Value.int .i64 (u + 1))) rfl) ?_
          refine rl_end ?_
          obtain ⟨mq, hlt, h⟩ := h
          exact again2 mq _ _ _ ⟨_, h, rfl, hE1, hE3, hE4, hE5, hE6, rfl, rB⟩ hlt
        · replace h := h.2 hp4
          refine rl_q (wanted_g rfl (yE_of rfl (congrArg Value.bool (Bool.eq_false_iff.2 hp4)))) rfl rfl (v_move (v := (Value.slice Ar lr cr)) hE6) ?_
          refine rl_q (wanted_g rfl (yE_of rfl (congrArg Value.bool (Bool.eq_false_iff.2 hp4)))) rfl rfl (v_move (v := (Value.int .i64 u)) hE7) ?_
          obtain ⟨hx4, h⟩ := h
          refine rl_q (wanted_g rfl (yE_of rfl (congrArg Value.bool (Bool.eq_false_iff.2 hp4)))) rfl rfl (v_iaddr rfl rfl Try.underlying102 info_4 hx4) ?_
          obtain ⟨x3, hc3, h⟩ := h
          refine rl_q (wanted_g rfl (yE_of rfl (congrArg Value.bool (Bool.eq_false_iff.2 hp4)))) rfl rfl (v_load rfl Try.underlying4 rfl hc3) ?_
          refine rl_q rfl rfl rfl (v_pick_f (v := (Value.bool (x3))) (congrArg Value.bool (Bool.eq_false_iff.2 hp4)) rfl) ?_
          obtain ⟨hx5, h⟩ := h
          refine rl_q rfl rfl rfl (v_iaddr rfl rfl Try.underlying102 info_4 hx5) ?_
          obtain ⟨hw2, h⟩ := h
          obtain ⟨hb2, h⟩ := h
          refine rl_n0 rfl rfl rfl (n_store (v := (Value.bool (x3))) rfl rfl rfl info_4 hw2 ?_)
          intro w8 ew2
          replace h := h w8 ew2
          replace rB : Row w8 g2 24 2 [(Value.int .i64 g), (Value.slice Ag lg cg)] := rB.kp (by rw [ew2]; exact kp_set hb2)
          clear ew2
          refine ⟨Stb.none _, ?_⟩
          refine rl_end ?_
          refine wt_inBlock ?_
          refine wl_region wd_wide ?_
          refine rl_q rfl rfl rfl (v_move (v := (Value.int .i64 u)) hE7) ?_
          obtain ⟨hi4, h⟩ := h
          refine rl_q rfl rfl rfl (v_add rfl rfl hi4) ?_
          refine rl_q rfl rfl rfl (v_assign (v := (Value.int .i64 (u + 1))) rfl) ?_
          refine rl_end ?_
          obtain ⟨mq, hlt, h⟩ := h
          exact again2 mq _ _ _ ⟨_, h, rfl, hE1, hE3, hE4, hE5, hE6, rfl, rB⟩ hlt
      · replace h := h.2 hp3
        refine wt_cond_f (congrArg Value.bool (decide_eq_false hp3)) ?_
        refine wt_exit rfl ?_
        refine wt_inBlock ?_
        refine wl_region wd_wide ?_
        refine rl_q rfl rfl rfl (v_move (v := (Value.int .i64 v)) hE5) ?_
        obtain ⟨hi5, h⟩ := h
        refine rl_q rfl rfl rfl (v_add rfl rfl hi5) ?_
        refine rl_q rfl rfl rfl (v_assign (v := (Value.int .i64 (v + 1))) rfl) ?_
        refine rl_end ?_
        obtain ⟨mq, hlt, h⟩ := h
        exact again mq _ _ _ ⟨_, _, h, rfl, hE1, hE3, hE4, rfl, rB⟩ hlt
  · replace h := h.2 hp
    refine wt_cond_f (congrArg Value.bool (decide_eq_false hp)) ?_
    refine wt_exit rfl ?_
    refine wt_seq ?_
    refine wl_region wd_wide ?_
    refine rl_q rfl rfl rfl (v_move (v := (Value.int .i64 n)) hE3) ?_
    refine rl_q rfl rfl rfl (v_assign (v := (Value.int .i64 n)) rfl) ?_
    refine rl_end ?_
    exact wt_ret1 rfl rfl ⟨_, rfl, h⟩

/-- sandpile/sandpileref08.Connected: what its code does. -/
def sh_r08_Connected (g : Int) (Ag : Option Addr) (lg : Nat) (cg : Nat) (w : World) (R : Bool → World → Prop) : Prop :=
(∀ (g2 : Nat) (w2 : World), New w g2 w2 #[(Value.int .i64 g), (Value.slice Ag lg cg)] 24 →
(Calls Try.prog 155 #[(Value.agg #[(Value.int .i64 g), (Value.slice Ag lg cg)])] w2 fun e w3 => ∃ r2 : Int, e = .returned (Value.int .i64 r2) ∧
Kp w2 w3 g2 ∧
R (decide (r2 = 1)) w3))
theorem ok_r08_Connected (g : Int) (Ag : Option Addr) (lg : Nat) (cg : Nat) (w : World) (R : Bool → World → Prop) (h : sh_r08_Connected g Ag lg cg w R) :
    Calls Try.prog 121 #[(Value.agg #[(Value.int .i64 g), (Value.slice Ag lg cg)])] w fun e w' => ∃ r : Bool, e = .returned (Value.bool (r)) ∧ R r w' := by
  unfold sh_r08_Connected at h
  refine calls_sh (l := [(Value.agg #[(Value.int .i64 g), (Value.slice Ag lg cg)])]) Try.func121 rfl Try.ntmps121 (Nat.le_of_ble_eq_true rfl) ?_
  refine wt_seq ?_
  refine wl_region wd_wide ?_
  refine rl_n rfl rfl rfl rfl (n_box (v := (Value.agg #[(Value.int .i64 g), (Value.slice Ag lg cg)])) rfl ?_)
  intro g2 w2 hN
  replace h := h g2 w2 hN
  have rB : Row w2 g2 24 2 [(Value.int .i64 g), (Value.slice Ag lg cg)] := hN.row
  clear hN
  refine ⟨Stb.none _, ?_⟩
  refine rl_q rfl rfl rfl (v_assign (v := (Value.bool (false))) rfl) ?_
  refine rl_end ?_
  refine wt_seq ?_
  refine wl_region wd_wide ?_
  refine rl_q rfl rfl rfl (v_loadn (vs := [(Value.int .i64 g), (Value.slice Ag lg cg)]) rfl Try.underlying24 rfl info_24 ⟨Row.cell rB (i := 0) rfl, Row.cell rB (i := 1) rfl, trivial⟩) ?_
  refine rl_n rfl rfl rfl rfl (n_call0 rfl (am1 rfl) enter_155 (h.mono ?_))
  rintro _ w3 ⟨r2, rfl, hk, h⟩
  replace rB := rB.kp hk
  refine ⟨_, rfl, Stb.none _, ?_⟩
  refine rl_q rfl rfl rfl (v_eql rfl rfl) ?_
  refine rl_q rfl rfl rfl (v_assign (v := (Value.bool (decide (r2 = 1)))) rfl) ?_
  refine rl_end ?_
  exact wt_ret1 rfl rfl ⟨_, rfl, h⟩

/-- sandpile/sandpileref08.Ends: what its code does. -/
def sh_r08_Ends (g : Int) (Ag : Option Addr) (lg : Nat) (cg : Nat) (w : World) (R : Option Addr → Nat → Nat → World → Prop) : Prop :=
(∀ (g2 : Nat) (w2 : World), New w g2 w2 #[(Value.int .i64 g), (Value.slice Ag lg cg)] 24 →
(∃ I2 : Nat → Option Addr → Nat → Nat → Int → World → Prop, (∃ m0, I2 m0 none 0 0 0 w2) ∧ ∀ (m1 : Nat) (Aout : Option Addr) (lout : Nat) (cout : Nat) (i : Int) (w3 : World), I2 m1 Aout lout cout i w3 → 
((i < ((lg : Nat) : Int) →
(∃ I3 : Nat → Option Addr → Nat → Nat → Int → World → Prop, (∃ m0, I3 m0 Aout lout cout 0 w3) ∧ ∀ (m2 : Nat) (Aout2 : Option Addr) (lout2 : Nat) (cout2 : Nat) (k : Int) (w4 : World), I3 m2 Aout2 lout2 cout2 k w4 → 
(Ix Ag lg i ∧
(∃ x : Int, w4.cell? (Addr.add (ixA Ag i 3) 2) = some (Value.int .i64 x) ∧
((k < x →
(Ix Ag lg i ∧
(∃ x2 : Int, w4.drew.cell? (Addr.add (ixA Ag i 3) 0) = some (Value.int .i64 x2) ∧
(Ix Ag lg i ∧
(∃ x3 : Int, w4.drew.cell? (Addr.add (ixA Ag i 3) 1) = some (Value.int .i64 x3) ∧
(∀ (g3 : Nat) (w5 : World), New w4.drew g3 w5 #[(Value.int .i64 x2), (Value.int .i64 x3)] 196 →
(∃ (B : Nat) (xs nw : List Value) (ad : Addr), OwnS w5 B 196 2 Aout2 lout2 cout2 xs ∧ (some ⟨g3, 0, none⟩) = some ad ∧ nw.length = 1 * 2 ∧ (∀ j u, nw[j]? = some u → w5.cell? (ad.add j) = some u) ∧ (∀ u ∈ nw, u.oneCell' = true) ∧ lout2 + 1 ≤ maxLen ∧ (lout2 + 1) * 16 ≤ 140737488355328 ∧ B ≤ w5.heap.size ∧
∀ A c w6, OwnS w6 B 196 2 A (lout2 + 1) c (xs ++ nw) → w5.grownBy w6 (Option.map Addr.block Aout2) → (Option.map Addr.block A = Option.map Addr.block Aout2 ∨ Option.map Addr.block A = some w5.heap.size) →
Kp w5 w6 g2 ∧
(In64 (k + 1) ∧
∃ m3, m3 < m2 ∧ I3 m3 A (lout2 + 1) c (k + 1) w6)))))))) ∧
(¬ (k < x) →
(In64 (i + 1) ∧
∃ m4, m4 < m1 ∧ I2 m4 Aout2 lout2 cout2 (i + 1) w4))))))) ∧
(¬ (i < ((lg : Nat) : Int)) →
R Aout lout cout w3))))
theorem ok_r08_Ends (g : Int) (Ag : Option Addr) (lg : Nat) (cg : Nat) (w : World) (R : Option Addr → Nat → Nat → World → Prop) (h : sh_r08_Ends g Ag lg cg w R) :
    Calls Try.prog 170 #[(Value.agg #[(Value.int .i64 g), (Value.slice Ag lg cg)])] w fun e w' => ∃ Ar : Option Addr, ∃ lr : Nat, ∃ cr : Nat, e = .returned (Value.slice Ar lr cr) ∧ R Ar lr cr w' := by
  unfold sh_r08_Ends at h
  refine calls_sh (l := [(Value.agg #[(Value.int .i64 g), (Value.slice Ag lg cg)])]) Try.func170 rfl Try.ntmps170 (Nat.le_of_ble_eq_true rfl) ?_
  refine wt_seq ?_
  refine wl_region wd_wide ?_
  refine rl_n rfl rfl rfl rfl (n_box (v := (Value.agg #[(Value.int .i64 g), (Value.slice Ag lg cg)])) rfl ?_)
  intro g2 w2 hN
  replace h := h g2 w2 hN
  have rB : Row w2 g2 24 2 [(Value.int .i64 g), (Value.slice Ag lg cg)] := hN.row
  clear hN
  refine ⟨Stb.none _, ?_⟩
  refine rl_q rfl rfl rfl (v_assign (v := (Value.slice none 0 0)) rfl) ?_
  refine rl_end ?_
  refine wt_seq ?_
  refine wl_region wd_wide ?_
  refine rl_q rfl rfl rfl (v_assign (v := (Value.slice none 0 0)) rfl) ?_
  refine rl_end ?_
  refine wt_seq ?_
  refine wt_seq ?_
  refine wl_region wd_wide ?_
  refine rl_q rfl rfl rfl (v_assign (v := (Value.int .i64 0)) rfl) ?_
  refine rl_end ?_
  refine wt_block ?_
  obtain ⟨I2, ⟨m0, h0⟩, hr⟩ := h
  refine wt_loop (fun m E ds w' => ∃ Aout : Option Addr, ∃ lout : Nat, ∃ cout : Nat, ∃ i : Int, I2 m Aout lout cout i w' ∧ ds = [] ∧ E 1 = (Value.pointer (some (⟨g2, 0, none⟩ : Addr))) ∧ E 3 = (Value.slice Aout lout cout) ∧ E 4 = (Value.int .i64 i) ∧ Row w' g2 24 2 [(Value.int .i64 g), (Value.slice Ag lg cg)]) m0 ⟨_, _, _, _, h0, rfl, rfl, rfl, rfl, rB⟩ ?_
  clear h0
  rintro m1 E ds w3 ⟨Aout, lout, cout, i, h, rfl, hE1, hE3, hE4, rB⟩ again
  replace h := hr m1 Aout lout cout i w3 h
  clear hr
  refine wt_seq ?_
  refine wt_seq ?_
  refine wl_region wd_wide ?_
  refine rl_q rfl rfl rfl (v_move (v := (Value.int .i64 i)) hE4) ?_
  refine rl_q rfl rfl rfl (v_faddr hE1 Try.underlying24 rfl info_22) ?_
  refine rl_q rfl rfl rfl (v_load rfl Try.underlying22 rfl (Row.cell rB (i := 1) rfl)) ?_
  refine rl_q rfl rfl rfl (v_len rfl Try.underlying22) ?_
  refine rl_q rfl rfl rfl (v_lss rfl rfl) ?_
  refine rl_end ?_
  by_cases hp : i < ((lg : Nat) : Int)
  · replace h := h.1 hp
    refine wt_cond_t (congrArg Value.bool (decide_eq_true hp)) ?_
    refine wt_skip ?_
    refine wt_seq ?_
    refine wt_block ?_
    refine wt_seq ?_
    refine wl_region wd_wide ?_
    refine rl_q rfl rfl rfl (v_assign (v := (Value.int .i64 0)) rfl) ?_
    refine rl_end ?_
    refine wt_block ?_
    obtain ⟨I3, ⟨m0, h0⟩, hr⟩ := h
    refine wt_loop (fun m E ds w' => ∃ Aout2 : Option Addr, ∃ lout2 : Nat, ∃ cout2 : Nat, ∃ k : Int, I3 m Aout2 lout2 cout2 k w' ∧ ds = [] ∧ E 1 = (Value.pointer (some (⟨g2, 0, none⟩ : Addr))) ∧ E 3 = (Value.slice Aout2 lout2 cout2) ∧ E 4 = (Value.int .i64 i) ∧ E 5 = (Value.int .i64 k) ∧ Row w' g2 24 2 [(Value.int .i64 g), (Value.slice Ag lg cg)]) m0 ⟨_, _, _, _, h0, rfl, hE1, hE3, hE4, rfl, rB⟩ ?_
    clear h0
    rintro m2 E ds w4 ⟨Aout2, lout2, cout2, k, h, rfl, hE1, hE3, hE4, hE5, rB⟩ again2
    replace h := hr m2 Aout2 lout2 cout2 k w4 h
    clear hr
    refine wt_seq ?_
    refine wt_seq ?_
    refine wl_region wd_wide ?_
    refine rl_q rfl rfl rfl (v_move (v := (Value.int .i64 k)) hE5) ?_
    refine rl_q rfl rfl rfl (v_faddr hE1 Try.underlying24 rfl info_22) ?_
    refine rl_q rfl rfl rfl (v_load rfl Try.underlying22 rfl (Row.cell rB (i := 1) rfl)) ?_
    refine rl_q rfl rfl rfl (v_move (v := (Value.int .i64 i)) hE4) ?_
    obtain ⟨hx, h⟩ := h
    refine rl_q rfl rfl rfl (v_iaddr rfl rfl Try.underlying22 info_117 hx) ?_
    refine rl_q rfl rfl rfl (v_faddr rfl Try.underlying117 rfl info_3) ?_
    obtain ⟨x, hc, h⟩ := h
    refine rl_q rfl rfl rfl (v_load rfl Try.underlying3 rfl hc) ?_
    refine rl_q rfl rfl rfl (v_lss rfl rfl) ?_
    refine rl_end ?_
    by_cases hp2 : k < x
    · replace h := h.1 hp2
      refine wt_cond_t (congrArg Value.bool (decide_eq_true hp2)) ?_
      refine wt_skip ?_
      refine wt_seq ?_
      refine wt_block ?_
      refine wp_draw [0, 1, 2, 3, 4, 5, 6, 7, 8, 9, 10, 11, 12, 13, 14, 15, 16] (fun i => match i with | 13 => [0] | 14 => [0] | _ => []) wd_wide (by kernel_rfl) (by kernel_rfl) ?_
      replace rB := rB.drew
      refine rp_q rfl rfl rfl (v_move (v := (Value.slice Aout2 lout2 cout2)) hE3) ?_
      refine rp_q rfl rfl rfl (v_faddr hE1 Try.underlying24 rfl info_22) ?_
      refine rp_q rfl rfl rfl (v_load rfl Try.underlying22 rfl (Row.cell rB (i := 1) rfl)) ?_
      refine rp_q rfl rfl rfl (v_move (v := (Value.int .i64 i)) hE4) ?_
      obtain ⟨hx2, h⟩ := h
      refine rp_q rfl rfl rfl (v_iaddr rfl rfl Try.underlying22 info_117 hx2) ?_
      refine rp_q rfl rfl rfl (v_faddr rfl Try.underlying117 rfl info_3) ?_
      obtain ⟨x2, hc2, h⟩ := h
      refine rp_q rfl rfl rfl (v_load rfl Try.underlying3 rfl hc2) ?_
      refine rp_q rfl rfl rfl (v_faddr hE1 Try.underlying24 rfl info_22) ?_
      refine rp_q rfl rfl rfl (v_load rfl Try.underlying22 rfl (Row.cell rB (i := 1) rfl)) ?_
      refine rp_q rfl rfl rfl (v_move (v := (Value.int .i64 i)) hE4) ?_
      obtain ⟨hx3, h⟩ := h
      refine rp_q rfl rfl rfl (v_iaddr rfl rfl Try.underlying22 info_117 hx3) ?_
      refine rp_q rfl rfl rfl (v_faddr rfl Try.underlying117 rfl info_3) ?_
      obtain ⟨x3, hc3, h⟩ := h
      refine rp_q rfl rfl rfl (v_load rfl Try.underlying3 rfl hc3) ?_
      refine rp_n rfl rfl rfl rfl (n_builda (l := [(0, (Value.int .i64 x2)), (1, (Value.int .i64 x3))]) (cells := [(Value.int .i64 x2), (Value.int .i64 x3)]) (bp2 rfl rfl) Try.underlying196 info_196 info_3 rfl ?_)
      refine ⟨⟨fun hh => Bool.noConfusion (show false = true from hh), ⟨fun hh => Bool.noConfusion (show false = true from hh), ⟨fun hh => Bool.noConfusion (show false = true from hh), ⟨fun hh => Bool.noConfusion (show false = true from hh), ⟨fun hh => Bool.noConfusion (show false = true from hh), ⟨fun hh => Bool.noConfusion (show false = true from hh), ⟨fun hh => Bool.noConfusion (show false = true from hh), ⟨fun hh => Bool.noConfusion (show false = true from hh), ⟨fun hh => Bool.noConfusion (show false = true from hh), ⟨fun hh => Bool.noConfusion (show false = true from hh), ⟨fun hh => Bool.noConfusion (show false = true from hh), ⟨fun hh => Bool.noConfusion (show false = true from hh), ⟨fun _ => (v_move (v := (Value.slice Aout2 lout2 cout2)) hE3), trivial⟩⟩⟩⟩⟩⟩⟩⟩⟩⟩⟩⟩⟩, ?_⟩
      refine rp_n rfl rfl rfl rfl (n_bslice (l := [(0, (Value.agg #[(Value.int .i64 x2), (Value.int .i64 x3)]))]) (cells := [(Value.int .i64 x2), (Value.int .i64 x3)]) (bp1 rfl) Try.underlying183 info_196 rfl rfl ?_)
      intro g3 w5 hN2
      replace h := h g3 w5 hN2
      replace rB := rB.kp (hN2.kp _)
      clear hN2
      refine ⟨⟨fun hh => Bool.noConfusion (show false = true from hh), ⟨fun hh => Bool.noConfusion (show false = true from hh), ⟨fun hh => Bool.noConfusion (show false = true from hh), ⟨fun hh => Bool.noConfusion (show false = true from hh), ⟨fun hh => Bool.noConfusion (show false = true from hh), ⟨fun hh => Bool.noConfusion (show false = true from hh), ⟨fun hh => Bool.noConfusion (show false = true from hh), ⟨fun hh => Bool.noConfusion (show false = true from hh), ⟨fun hh => Bool.noConfusion (show false = true from hh), ⟨fun hh => Bool.noConfusion (show false = true from hh), ⟨fun hh => Bool.noConfusion (show false = true from hh), ⟨fun hh => Bool.noConfusion (show false = true from hh), ⟨fun _ => (v_move (v := (Value.slice Aout2 lout2 cout2)) hE3), trivial⟩⟩⟩⟩⟩⟩⟩⟩⟩⟩⟩⟩⟩, ?_⟩
      obtain ⟨B, xs, nw, ad, q1, q2, q3, q4, q5, q6, q7, q8, h⟩ := h
      refine rp_n rfl rfl rfl rfl (n_append rfl rfl Try.underlying183 info_196 rfl ⟨B, xs, nw, ad, q1, q2, q3, q4, q5, q6, q7, q8, ?_⟩)
      intro A c w6 q9 q10 q11
      replace h := h A c w6 q9 q10 q11
      clear q1 q2 q3 q4 q5 q6 q7 q8 q9 q10 q11
      obtain ⟨hk, h⟩ := h
      replace rB := rB.kp hk
      refine ⟨Stb.none _, ?_⟩
      refine rp_q rfl rfl rfl (v_assign (v := (Value.slice A (lout2 + 1) c)) rfl) ?_
      refine rp_end ?_
      refine wt_inBlock ?_
      refine wl_region wd_wide ?_
      refine rl_q rfl rfl rfl (v_move (v := (Value.int .i64 k)) hE5) ?_
      obtain ⟨hi, h⟩ := h
      refine rl_q rfl rfl rfl (v_add rfl rfl hi) ?_
      refine rl_q rfl rfl rfl (v_assign (v := (Value.int .i64 (k + 1))) rfl) ?_
      refine rl_end ?_
      obtain ⟨mq, hlt, h⟩ := h
      exact again2 mq _ _ _ ⟨_, _, _, _, h, rfl, hE1, rfl, hE4, rfl, rB⟩ hlt
    · replace h := h.2 hp2
      refine wt_cond_f (congrArg Value.bool (decide_eq_false hp2)) ?_
      refine wt_exit rfl ?_
      refine wt_inBlock ?_
      refine wl_region wd_wide ?_
      refine rl_q rfl rfl rfl (v_move (v := (Value.int .i64 i)) hE4) ?_
      obtain ⟨hi2, h⟩ := h
      refine rl_q rfl rfl rfl (v_add rfl rfl hi2) ?_
      refine rl_q rfl rfl rfl (v_assign (v := (Value.int .i64 (i + 1))) rfl) ?_
      refine rl_end ?_
      obtain ⟨mq, hlt, h⟩ := h
      exact again mq _ _ _ ⟨_, _, _, _, h, rfl, hE1, hE3, rfl, rB⟩ hlt
  · replace h := h.2 hp
    refine wt_cond_f (congrArg Value.bool (decide_eq_false hp)) ?_
    refine wt_exit rfl ?_
    refine wt_seq ?_
    refine wl_region wd_wide ?_
    refine rl_q rfl rfl rfl (v_move (v := (Value.slice Aout lout cout)) hE3) ?_
    refine rl_q rfl rfl rfl (v_assign (v := (Value.slice Aout lout cout)) rfl) ?_
    refine rl_end ?_
    exact wt_ret1 rfl rfl ⟨_, _, _, rfl, h⟩

/-- sandpile/sandpileref08.Size: what its code does. -/
def sh_r08_Size (g : Int) (Ag : Option Addr) (lg : Nat) (cg : Nat) (w : World) (R : Int → World → Prop) : Prop :=
(∀ (g2 : Nat) (w2 : World), New w g2 w2 #[(Value.int .i64 g), (Value.slice Ag lg cg)] 24 →
(Calls Try.prog 170 #[(Value.agg #[(Value.int .i64 g), (Value.slice Ag lg cg)])] w2 fun e w3 => ∃ Ar : Option Addr, ∃ lr : Nat, ∃ cr : Nat, e = .returned (Value.slice Ar lr cr) ∧
Kp w2 w3 g2 ∧
R ((lr : Nat) : Int) w3))
theorem ok_r08_Size (g : Int) (Ag : Option Addr) (lg : Nat) (cg : Nat) (w : World) (R : Int → World → Prop) (h : sh_r08_Size g Ag lg cg w R) :
    Calls Try.prog 161 #[(Value.agg #[(Value.int .i64 g), (Value.slice Ag lg cg)])] w fun e w' => ∃ r : Int, e = .returned (Value.int .i64 r) ∧ R r w' := by
  unfold sh_r08_Size at h
  refine calls_sh (l := [(Value.agg #[(Value.int .i64 g), (Value.slice Ag lg cg)])]) Try.func161 rfl Try.ntmps161 (Nat.le_of_ble_eq_true rfl) ?_
  refine wt_seq ?_
  refine wl_region wd_wide ?_
  refine rl_n rfl rfl rfl rfl (n_box (v := (Value.agg #[(Value.int .i64 g), (Value.slice Ag lg cg)])) rfl ?_)
  intro g2 w2 hN
  replace h := h g2 w2 hN
  have rB : Row w2 g2 24 2 [(Value.int .i64 g), (Value.slice Ag lg cg)] := hN.row
  clear hN
  refine ⟨Stb.none _, ?_⟩
  refine rl_q rfl rfl rfl (v_assign (v := (Value.int .i64 0)) rfl) ?_
  refine rl_end ?_
  refine wt_seq ?_
  refine wl_region wd_wide ?_
  refine rl_q rfl rfl rfl (v_loadn (vs := [(Value.int .i64 g), (Value.slice Ag lg cg)]) rfl Try.underlying24 rfl info_24 ⟨Row.cell rB (i := 0) rfl, Row.cell rB (i := 1) rfl, trivial⟩) ?_
  refine rl_n rfl rfl rfl rfl (n_call0 rfl (am1 rfl) enter_170 (h.mono ?_))
  rintro _ w3 ⟨Ar, lr, cr, rfl, hk, h⟩
  replace rB := rB.kp hk
  refine ⟨_, rfl, Stb.none _, ?_⟩
  refine rl_q rfl rfl rfl (v_len rfl Try.underlying183) ?_
  refine rl_q rfl rfl rfl (v_assign (v := (Value.int .i64 ((lr : Nat) : Int))) rfl) ?_
  refine rl_end ?_
  exact wt_ret1 rfl rfl ⟨_, rfl, h⟩

/-- sandpile/sandpileref08.small: what its code does. -/
def sh_r08_small (g : Int) (Ag : Option Addr) (lg : Nat) (cg : Nat) (vertices : Int) (single : Int) (w : World) (R : Bool → World → Prop) : Prop :=
(∀ (g2 : Nat) (w2 : World), New w g2 w2 #[(Value.int .i64 g), (Value.slice Ag lg cg)] 24 →
((40 < ((lg : Nat) : Int) →
R false w2) ∧
(¬ (40 < ((lg : Nat) : Int)) →
(Calls Try.prog 120 #[(Value.agg #[(Value.int .i64 g), (Value.slice Ag lg cg)])] w2 fun e w3 => ∃ r2 : Int, e = .returned (Value.int .i64 r2) ∧
Kp w2 w3 g2 ∧
((r2 = 0 →
((g ≤ vertices →
(Calls Try.prog 161 #[(Value.agg #[(Value.int .i64 g), (Value.slice Ag lg cg)])] w3 fun e w4 => ∃ r3 : Int, e = .returned (Value.int .i64 r3) ∧
Kp w3 w4 g2 ∧
R (decide (r3 ≤ single)) w4)) ∧
(¬ (g ≤ vertices) →
R false w3))) ∧
(¬ (r2 = 0) →
R true w3))))))
theorem ok_r08_small (g : Int) (Ag : Option Addr) (lg : Nat) (cg : Nat) (vertices : Int) (single : Int) (w : World) (R : Bool → World → Prop) (h : sh_r08_small g Ag lg cg vertices single w R) :
    Calls Try.prog 145 #[(Value.agg #[(Value.int .i64 g), (Value.slice Ag lg cg)]), (Value.int .i64 vertices), (Value.int .i64 single)] w fun e w' => ∃ r : Bool, e = .returned (Value.bool (r)) ∧ R r w' := by
  unfold sh_r08_small at h
  refine calls_sh (l := [(Value.agg #[(Value.int .i64 g), (Value.slice Ag lg cg)]), (Value.int .i64 vertices), (Value.int .i64 single)]) Try.func145 rfl Try.ntmps145 (Nat.le_of_ble_eq_true rfl) ?_
  refine wt_seq ?_
  refine wl_region wd_wide ?_
  refine rl_n rfl rfl rfl rfl (n_box (v := (Value.agg #[(Value.int .i64 g), (Value.slice Ag lg cg)])) rfl ?_)
  intro g2 w2 hN
  replace h := h g2 w2 hN
  have rB : Row w2 g2 24 2 [(Value.int .i64 g), (Value.slice Ag lg cg)] := hN.row
  clear hN
  refine ⟨Stb.none _, ?_⟩
  refine rl_q rfl rfl rfl (v_assign (v := (Value.bool (false))) rfl) ?_
  refine rl_end ?_
  refine wt_seq ?_
  refine wt_seq ?_
  refine wl_region wd_wide ?_
  refine rl_q rfl rfl rfl (v_faddr rfl Try.underlying24 rfl info_22) ?_
  refine rl_q rfl rfl rfl (v_load rfl Try.underlying22 rfl (Row.cell rB (i := 1) rfl)) ?_
  refine rl_q rfl rfl rfl (v_len rfl Try.underlying22) ?_
  refine rl_q rfl rfl rfl (v_gtr rfl rfl) ?_
  refine rl_end ?_
  by_cases hp : 40 < ((lg : Nat) : Int)
  · replace h := h.1 hp
    refine wt_cond_t (congrArg Value.bool (decide_eq_true hp)) ?_
    refine wt_seq ?_
    refine wl_region wd_wide ?_
    refine rl_q rfl rfl rfl (v_assign (v := (Value.bool (false))) rfl) ?_
    refine rl_end ?_
    exact wt_ret1 rfl rfl ⟨_, rfl, h⟩
  · replace h := h.2 hp
    refine wt_cond_f (congrArg Value.bool (decide_eq_false hp)) ?_
    refine wt_skip ?_
    refine wt_seq ?_
    refine wt_seq ?_
    refine wl_region wd_wide ?_
    refine rl_q rfl rfl rfl (v_loadn (vs := [(Value.int .i64 g), (Value.slice Ag lg cg)]) rfl Try.underlying24 rfl info_24 ⟨Row.cell rB (i := 0) rfl, Row.cell rB (i := 1) rfl, trivial⟩) ?_
    refine rl_n rfl rfl rfl rfl (n_call0 rfl (am1 rfl) enter_120 (h.mono ?_))
    rintro _ w3 ⟨r2, rfl, hk, h⟩
    replace rB := rB.kp hk
    refine ⟨_, rfl, Stb.none _, ?_⟩
    refine rl_q rfl rfl rfl (v_neq rfl rfl) ?_
    refine rl_end ?_
    by_cases hp2 : r2 = 0
    · replace h := h.1 hp2
      refine wt_cond_f (congrArg Value.bool (congrArg Bool.not (decide_eq_true hp2))) ?_
      refine wt_skip ?_
      refine wt_seq ?_
      refine wl_region wd_wide ?_
      refine rl_q rfl rfl rfl (v_faddr rfl Try.underlying24 rfl info_3) ?_
      refine rl_q rfl rfl rfl (v_load rfl Try.underlying3 rfl (Row.cell rB (i := 0) rfl)) ?_
      refine rl_q rfl rfl rfl (v_move (v := (Value.int .i64 vertices)) rfl) ?_
      refine rl_q rfl rfl rfl (v_leq rfl rfl) ?_
      refine rl_q rfl rfl rfl (v_move (v := (Value.bool (decide (g ≤ vertices)))) rfl) ?_
      by_cases hp3 : g ≤ vertices
      · replace h := h.1 hp3
        refine rl_q (wanted_g rfl (yE_of rfl (congrArg Value.bool (decide_eq_true hp3)))) rfl rfl (v_loadn (vs := [(Value.int .i64 g), (Value.slice Ag lg cg)]) rfl Try.underlying24 rfl info_24 ⟨Row.cell rB (i := 0) rfl, Row.cell rB (i := 1) rfl, trivial⟩) ?_
        refine rl_n (wanted_g rfl (yE_of rfl (congrArg Value.bool (decide_eq_true hp3)))) rfl rfl rfl (n_call0 rfl (am1 rfl) enter_161 (h.mono ?_))
        rintro _ w4 ⟨r3, rfl, hk2, h⟩
        replace rB := rB.kp hk2
        refine ⟨_, rfl, Stb.none _, ?_⟩
        refine rl_q (wanted_g rfl (yE_of rfl (congrArg Value.bool (decide_eq_true hp3)))) rfl rfl (v_move (v := (Value.int .i64 single)) rfl) ?_
        refine rl_q (wanted_g rfl (yE_of rfl (congrArg Value.bool (decide_eq_true hp3)))) rfl rfl (v_leq rfl rfl) ?_
        refine rl_q rfl rfl rfl (v_pick_t (v := (Value.bool (decide (r3 ≤ single)))) (congrArg Value.bool (decide_eq_true hp3)) rfl) ?_
        refine rl_q rfl rfl rfl (v_assign (v := (Value.bool (decide (r3 ≤ single)))) rfl) ?_
        refine rl_end ?_
        exact wt_ret1 rfl rfl ⟨_, rfl, h⟩
      · replace h := h.2 hp3
        refine rl_p (wanted_n rfl (yE_of rfl (congrArg Value.bool (decide_eq_false hp3))) rfl) rfl ?_
        refine rl_p (wanted_n rfl (yE_of rfl (congrArg Value.bool (decide_eq_false hp3))) rfl) rfl ?_
        refine rl_p (wanted_n rfl (yE_of rfl (congrArg Value.bool (decide_eq_false hp3))) rfl) rfl ?_
        refine rl_p (wanted_n rfl (yE_of rfl (congrArg Value.bool (decide_eq_false hp3))) rfl) rfl ?_
        refine rl_q rfl rfl rfl (v_pick_f (v := (Value.bool (false))) (congrArg Value.bool (decide_eq_false hp3)) rfl) ?_
        refine rl_q rfl rfl rfl (v_assign (v := (Value.bool (false))) rfl) ?_
        refine rl_end ?_
        exact wt_ret1 rfl rfl ⟨_, rfl, h⟩
    · replace h := h.2 hp2
      refine wt_cond_t (congrArg Value.bool (congrArg Bool.not (decide_eq_false hp2))) ?_
      refine wt_seq ?_
      refine wl_region wd_wide ?_
      refine rl_q rfl rfl rfl (v_assign (v := (Value.bool (true))) rfl) ?_
      refine rl_end ?_
      exact wt_ret1 rfl rfl ⟨_, rfl, h⟩

/-- sandpile/sandpileref08.Few: what its code does. -/
def sh_r08_Few (g : Int) (Ag : Option Addr) (lg : Nat) (cg : Nat) (w : World) (R : Bool → World → Prop) : Prop :=
(∀ (g2 : Nat) (w2 : World), New w g2 w2 #[(Value.int .i64 g), (Value.slice Ag lg cg)] 24 →
(Calls Try.prog 145 #[(Value.agg #[(Value.int .i64 g), (Value.slice Ag lg cg)]), (Value.int .i64 6), (Value.int .i64 9)] w2 fun e w3 => ∃ r2 : Bool, e = .returned (Value.bool (r2)) ∧
Kp w2 w3 g2 ∧
R r2 w3))
theorem ok_r08_Few (g : Int) (Ag : Option Addr) (lg : Nat) (cg : Nat) (w : World) (R : Bool → World → Prop) (h : sh_r08_Few g Ag lg cg w R) :
    Calls Try.prog 109 #[(Value.agg #[(Value.int .i64 g), (Value.slice Ag lg cg)])] w fun e w' => ∃ r : Bool, e = .returned (Value.bool (r)) ∧ R r w' := by
  unfold sh_r08_Few at h
  refine calls_sh (l := [(Value.agg #[(Value.int .i64 g), (Value.slice Ag lg cg)])]) Try.func109 rfl Try.ntmps109 (Nat.le_of_ble_eq_true rfl) ?_
  refine wt_seq ?_
  refine wl_region wd_wide ?_
  refine rl_n rfl rfl rfl rfl (n_box (v := (Value.agg #[(Value.int .i64 g), (Value.slice Ag lg cg)])) rfl ?_)
  intro g2 w2 hN
  replace h := h g2 w2 hN
  have rB : Row w2 g2 24 2 [(Value.int .i64 g), (Value.slice Ag lg cg)] := hN.row
  clear hN
  refine ⟨Stb.none _, ?_⟩
  refine rl_q rfl rfl rfl (v_assign (v := (Value.bool (false))) rfl) ?_
  refine rl_end ?_
  refine wt_seq ?_
  refine wl_region wd_wide ?_
  refine rl_q rfl rfl rfl (v_loadn (vs := [(Value.int .i64 g), (Value.slice Ag lg cg)]) rfl Try.underlying24 rfl info_24 ⟨Row.cell rB (i := 0) rfl, Row.cell rB (i := 1) rfl, trivial⟩) ?_
  refine rl_n rfl rfl rfl rfl (n_call0 rfl (am3 rfl rfl rfl) enter_145 (h.mono ?_))
  rintro _ w3 ⟨r2, rfl, hk, h⟩
  replace rB := rB.kp hk
  refine ⟨_, rfl, Stb.none _, ?_⟩
  refine rl_q rfl rfl rfl (v_assign (v := (Value.bool (r2))) rfl) ?_
  refine rl_end ?_
  exact wt_ret1 rfl rfl ⟨_, rfl, h⟩

/-- sandpile/sandpileref17.In: what its code does. -/
def sh_r17_In (k : Int) (w : World) (R : Bool → World → Prop) : Prop :=
(((-1048576) ≤ k →
R (decide (k ≤ 1048576)) w) ∧
(¬ ((-1048576) ≤ k) →
R false w))
theorem ok_r17_In (k : Int) (w : World) (R : Bool → World → Prop) (h : sh_r17_In k w R) :
    Calls Try.prog 73 #[(Value.int .i64 k)] w fun e w' => ∃ r : Bool, e = .returned (Value.bool (r)) ∧ R r w' := by
  unfold sh_r17_In at h
  refine calls_sh (l := [(Value.int .i64 k)]) Try.func73 rfl Try.ntmps73 (Nat.le_of_ble_eq_true rfl) ?_
  refine wt_seq ?_
  refine wl_region wd_wide ?_
  refine rl_q rfl rfl rfl (v_assign (v := (Value.bool (false))) rfl) ?_
  refine rl_end ?_
  refine wt_seq ?_
  refine wl_region wd_wide ?_
  refine rl_q rfl rfl rfl (v_move (v := (Value.int .i64 k)) rfl) ?_
  refine rl_q rfl rfl rfl (v_geq rfl rfl) ?_
  refine rl_q rfl rfl rfl (v_move (v := (Value.bool (decide ((-1048576) ≤ k)))) rfl) ?_
  by_cases hp : (-1048576) ≤ k
  · replace h := h.1 hp
    refine rl_q (wanted_g rfl (yE_of rfl (congrArg Value.bool (decide_eq_true hp)))) rfl rfl (v_move (v := (Value.int .i64 k)) rfl) ?_
    refine rl_q (wanted_g rfl (yE_of rfl (congrArg Value.bool (decide_eq_true hp)))) rfl rfl (v_leq rfl rfl) ?_
    refine rl_q rfl rfl rfl (v_pick_t (v := (Value.bool (decide (k ≤ 1048576)))) (congrArg Value.bool (decide_eq_true hp)) rfl) ?_
    refine rl_q rfl rfl rfl (v_assign (v := (Value.bool (decide (k ≤ 1048576)))) rfl) ?_
    refine rl_end ?_
    exact wt_ret1 rfl rfl ⟨_, rfl, h⟩
  · replace h := h.2 hp
    refine rl_p (wanted_n rfl (yE_of rfl (congrArg Value.bool (decide_eq_false hp))) rfl) rfl ?_
    refine rl_p (wanted_n rfl (yE_of rfl (congrArg Value.bool (decide_eq_false hp))) rfl) rfl ?_
    refine rl_q rfl rfl rfl (v_pick_f (v := (Value.bool (false))) (congrArg Value.bool (decide_eq_false hp)) rfl) ?_
    refine rl_q rfl rfl rfl (v_assign (v := (Value.bool (false))) rfl) ?_
    refine rl_end ?_
    exact wt_ret1 rfl rfl ⟨_, rfl, h⟩

/-- sandpile/sandpileref17.Check: what its code does. -/
def sh_r17_Check (Ad : Option Addr) (ld : Nat) (cd : Nat) (n : Int) (w : World) (R : Int → World → Prop) : Prop :=
(∃ J2 : World → Prop, (∀ (w2 : World), J2 w2 → ((((ld : Nat) : Int) = n →
(∃ I2 : Nat → Int → World → Prop, (∃ m0, I2 m0 0 w2) ∧ ∀ (m1 : Nat) (v : Int) (w3 : World), I2 m1 v w3 → 
((v < n →
(Ix Ad ld v ∧
(∃ x : Int, w3.cell? (ixA Ad v 1) = some (Value.int .i64 x) ∧
(Calls Try.prog 73 #[(Value.int .i64 x)] w3 fun e w4 => ∃ r2 : Bool, e = .returned (Value.bool (r2)) ∧
((r2 = true →
(In64 (v + 1) ∧
∃ m2, m2 < m1 ∧ I2 m2 (v + 1) w4)) ∧
(¬ (r2 = true) →
R 2 w4)))))) ∧
(¬ (v < n) →
R 0 w3)))) ∧
(¬ (((ld : Nat) : Int) = n) →
R 8 w2))) ∧
((n < 1 →
R 2 w) ∧
(¬ (n < 1) →
((12 < n →
R 2 w) ∧
(¬ (12 < n) →
J2 w)))))
theorem ok_r17_Check (Ad : Option Addr) (ld : Nat) (cd : Nat) (n : Int) (w : World) (R : Int → World → Prop) (h : sh_r17_Check Ad ld cd n w R) :
    Calls Try.prog 26 #[(Value.slice Ad ld cd), (Value.int .i64 n)] w fun e w' => ∃ r : Int, e = .returned (Value.int .i64 r) ∧ R r w' := by
  unfold sh_r17_Check at h
  refine calls_sh (l := [(Value.slice Ad ld cd), (Value.int .i64 n)]) Try.func26 rfl Try.ntmps26 (Nat.le_of_ble_eq_true rfl) ?_
  refine wt_seq ?_
  refine wl_region wd_wide ?_
  refine rl_q rfl rfl rfl (v_assign (v := (Value.int .i64 0)) rfl) ?_
  refine rl_end ?_
  refine wt_seq ?_
  refine wt_seq ?_
  obtain ⟨J2, hJ, h⟩ := h
  refine wt_cutT1 (fun E ds w' => J2 w' ∧ ds = [] ∧ E 0 = (Value.slice Ad ld cd) ∧ E 1 = (Value.int .i64 n)) ?_ ?_
  · rintro E ds w2 ⟨h, rfl, hE0, hE1⟩
    replace h := hJ w2 h
    refine wt_seq ?_
    refine wt_seq ?_
    refine wl_region wd_wide ?_
    refine rl_q rfl rfl rfl (v_move (v := (Value.slice Ad ld cd)) hE0) ?_
    refine rl_q rfl rfl rfl (v_len rfl Try.underlying26) ?_
    refine rl_q rfl rfl rfl (v_move (v := (Value.int .i64 n)) hE1) ?_
    refine rl_q rfl rfl rfl (v_neq rfl rfl) ?_
    refine rl_end ?_
    by_cases hp : ((ld : Nat) : Int) = n
    · replace h := h.1 hp
      refine wt_cond_f (congrArg Value.bool (congrArg Bool.not (decide_eq_true hp))) ?_
      refine wt_skip ?_
      refine wt_seq ?_
      refine wt_seq ?_
      refine wl_region wd_wide ?_
      refine rl_q rfl rfl rfl (v_assign (v := (Value.int .i64 0)) rfl) ?_
      refine rl_end ?_
      refine wt_block ?_
      obtain ⟨I2, ⟨m0, h0⟩, hr⟩ := h
      refine wt_loop (fun m E ds w' => ∃ v : Int, I2 m v w' ∧ ds = [] ∧ E 0 = (Value.slice Ad ld cd) ∧ E 1 = (Value.int .i64 n) ∧ E 5 = (Value.int .i64 v)) m0 ⟨_, h0, rfl, hE0, hE1, rfl⟩ ?_
      clear h0
      rintro m1 E ds w3 ⟨v, h, rfl, hE0, hE1, hE5⟩ again
      replace h := hr m1 v w3 h
      clear hr
      refine wt_seq ?_
      refine wt_seq ?_
      refine wl_region wd_wide ?_
      refine rl_q rfl rfl rfl (v_move (v := (Value.int .i64 v)) hE5) ?_
      refine rl_q rfl rfl rfl (v_move (v := (Value.int .i64 n)) hE1) ?_
      refine rl_q rfl rfl rfl (v_lss rfl rfl) ?_
      refine rl_end ?_
      by_cases hp2 : v < n
      · replace h := h.1 hp2
        refine wt_cond_t (congrArg Value.bool (decide_eq_true hp2)) ?_
        refine wt_skip ?_
        refine wt_seq ?_
        refine wt_block ?_
        refine wt_seq ?_
        refine wl_region wd_wide ?_
        refine rl_q rfl rfl rfl (v_move (v := (Value.slice Ad ld cd)) hE0) ?_
        refine rl_q rfl rfl rfl (v_move (v := (Value.int .i64 v)) hE5) ?_
        obtain ⟨hx, h⟩ := h
        refine rl_q rfl rfl rfl (v_iaddr rfl rfl Try.underlying26 info_3 hx) ?_
        obtain ⟨x, hc, h⟩ := h
        refine rl_q rfl rfl rfl (v_load rfl Try.underlying3 rfl hc) ?_
        refine rl_n rfl rfl rfl rfl (n_call0 rfl (am1 rfl) enter_73 (h.mono ?_))
        rintro _ w4 ⟨r2, rfl, h⟩
        refine ⟨_, rfl, Stb.none _, ?_⟩
        refine rl_q rfl rfl rfl (v_not rfl) ?_
        refine rl_end ?_
        by_cases hp3 : r2 = true
        · replace h := h.1 hp3
          refine wt_cond_f (congrArg Value.bool (congrArg Bool.not hp3)) ?_
          refine wt_skip ?_
          refine wt_inBlock ?_
          refine wl_region wd_wide ?_
          refine rl_q rfl rfl rfl (v_move (v := (Value.int .i64 v)) hE5) ?_
          obtain ⟨hi, h⟩ := h
          refine rl_q rfl rfl rfl (v_add rfl rfl hi) ?_
          refine rl_q rfl rfl rfl (v_assign (v := (Value.int .i64 (v + 1))) rfl) ?_
          refine rl_end ?_
          obtain ⟨mq, hlt, h⟩ := h
          exact again mq _ _ _ ⟨_, h, rfl, hE0, hE1, rfl⟩ hlt
        · replace h := h.2 hp3
          refine wt_cond_t (congrArg Value.bool (congrArg Bool.not (Bool.eq_false_iff.2 hp3))) ?_
          refine wt_seq ?_
          refine wl_region wd_wide ?_
          refine rl_q rfl rfl rfl (v_assign (v := (Value.int .i64 2)) rfl) ?_
          refine rl_end ?_
          exact wt_ret1 rfl rfl ⟨_, rfl, h⟩
      · replace h := h.2 hp2
        refine wt_cond_f (congrArg Value.bool (decide_eq_false hp2)) ?_
        refine wt_exit rfl ?_
        refine wt_seq ?_
        refine wl_region wd_wide ?_
        refine rl_q rfl rfl rfl (v_assign (v := (Value.int .i64 0)) rfl) ?_
        refine rl_end ?_
        exact wt_ret1 rfl rfl ⟨_, rfl, h⟩
    · replace h := h.2 hp
      refine wt_cond_t (congrArg Value.bool (congrArg Bool.not (decide_eq_false hp))) ?_
      refine wt_seq ?_
      refine wl_region wd_wide ?_
      refine rl_q rfl rfl rfl (v_assign (v := (Value.int .i64 8)) rfl) ?_
      refine rl_end ?_
      exact wt_ret1 rfl rfl ⟨_, rfl, h⟩
  clear hJ
  intro j
  refine wl_region wd_wide ?_
  refine rl_q rfl rfl rfl (v_move (v := (Value.int .i64 n)) rfl) ?_
  refine rl_q rfl rfl rfl (v_lss rfl rfl) ?_
  refine rl_q rfl rfl rfl (v_move (v := (Value.bool (decide (n < 1)))) rfl) ?_
  by_cases hp4 : n < 1
  · replace h := h.1 hp4
    refine rl_p (wanted_n rfl (yE_of rfl (congrArg Value.bool (decide_eq_true hp4))) rfl) rfl ?_
    refine rl_p (wanted_n rfl (yE_of rfl (congrArg Value.bool (decide_eq_true hp4))) rfl) rfl ?_
    refine rl_q rfl rfl rfl (v_pick_t (v := (Value.bool (true))) (congrArg Value.bool (decide_eq_true hp4)) rfl) ?_
    refine rl_end ?_
    refine wt_cond_t rfl ?_
    refine wt_seq ?_
    refine wl_region wd_wide ?_
    refine rl_q rfl rfl rfl (v_assign (v := (Value.int .i64 2)) rfl) ?_
    refine rl_end ?_
    exact wt_ret1 rfl rfl ⟨_, rfl, h⟩
  · replace h := h.2 hp4
    refine rl_q (wanted_g rfl (yE_of rfl (congrArg Value.bool (decide_eq_false hp4)))) rfl rfl (v_move (v := (Value.int .i64 n)) rfl) ?_
    refine rl_q (wanted_g rfl (yE_of rfl (congrArg Value.bool (decide_eq_false hp4)))) rfl rfl (v_gtr rfl rfl) ?_
    refine rl_q rfl rfl rfl (v_pick_f (v := (Value.bool (decide (12 < n)))) (congrArg Value.bool (decide_eq_false hp4)) rfl) ?_
    refine rl_end ?_
    by_cases hp5 : 12 < n
    · replace h := h.1 hp5
      refine wt_cond_t (congrArg Value.bool (decide_eq_true hp5)) ?_
      refine wt_seq ?_
      refine wl_region wd_wide ?_
      refine rl_q rfl rfl rfl (v_assign (v := (Value.int .i64 2)) rfl) ?_
      refine rl_end ?_
      exact wt_ret1 rfl rfl ⟨_, rfl, h⟩
    · replace h := h.2 hp5
      refine wt_cond_f (congrArg Value.bool (decide_eq_false hp5)) ?_
      refine wt_skip ?_
      exact j _ _ _ ⟨h, rfl, rfl, rfl⟩

/-- sandpile/sandpileref25.Joined: what its code does. -/
def sh_r25_Joined (g : Int) (Ag : Option Addr) (lg : Nat) (cg : Nat) (w : World) (R : Int → World → Prop) : Prop :=
(∀ (g2 : Nat) (w2 : World), New w g2 w2 #[(Value.int .i64 g), (Value.slice Ag lg cg)] 24 →
(Calls Try.prog 120 #[(Value.agg #[(Value.int .i64 g), (Value.slice Ag lg cg)])] w2 fun e w3 => ∃ r2 : Int, e = .returned (Value.int .i64 r2) ∧
Kp w2 w3 g2 ∧
((r2 = 0 →
(Calls Try.prog 121 #[(Value.agg #[(Value.int .i64 g), (Value.slice Ag lg cg)])] w3 fun e w4 => ∃ r3 : Bool, e = .returned (Value.bool (r3)) ∧
Kp w3 w4 g2 ∧
((r3 = true →
R 0 w4) ∧
(¬ (r3 = true) →
R 13 w4)))) ∧
(¬ (r2 = 0) →
R r2 w3))))
theorem ok_r25_Joined (g : Int) (Ag : Option Addr) (lg : Nat) (cg : Nat) (w : World) (R : Int → World → Prop) (h : sh_r25_Joined g Ag lg cg w R) :
    Calls Try.prog 70 #[(Value.agg #[(Value.int .i64 g), (Value.slice Ag lg cg)])] w fun e w' => ∃ r : Int, e = .returned (Value.int .i64 r) ∧ R r w' := by
  unfold sh_r25_Joined at h
  refine calls_sh (l := [(Value.agg #[(Value.int .i64 g), (Value.slice Ag lg cg)])]) Try.func70 rfl Try.ntmps70 (Nat.le_of_ble_eq_true rfl) ?_
  refine wt_seq ?_
  refine wl_region wd_wide ?_
  refine rl_n rfl rfl rfl rfl (n_box (v := (Value.agg #[(Value.int .i64 g), (Value.slice Ag lg cg)])) rfl ?_)
  intro g2 w2 hN
  replace h := h g2 w2 hN
  have rB : Row w2 g2 24 2 [(Value.int .i64 g), (Value.slice Ag lg cg)] := hN.row
  clear hN
  refine ⟨Stb.none _, ?_⟩
  refine rl_q rfl rfl rfl (v_assign (v := (Value.int .i64 0)) rfl) ?_
  refine rl_end ?_
  refine wt_seq ?_
  refine wt_seq ?_
  refine wl_region wd_wide ?_
  refine rl_q rfl rfl rfl (v_loadn (vs := [(Value.int .i64 g), (Value.slice Ag lg cg)]) rfl Try.underlying24 rfl info_24 ⟨Row.cell rB (i := 0) rfl, Row.cell rB (i := 1) rfl, trivial⟩) ?_
  refine rl_n rfl rfl rfl rfl (n_call0 rfl (am1 rfl) enter_120 (h.mono ?_))
  rintro _ w3 ⟨r2, rfl, hk, h⟩
  replace rB := rB.kp hk
  refine ⟨_, rfl, Stb.none _, ?_⟩
  refine rl_q rfl rfl rfl (v_assign (v := (Value.int .i64 r2)) rfl) ?_
  refine rl_end ?_
  refine wt_seq ?_
  refine wl_region wd_wide ?_
  refine rl_q rfl rfl rfl (v_move (v := (Value.int .i64 r2)) rfl) ?_
  refine rl_q rfl rfl rfl (v_neq rfl rfl) ?_
  refine rl_end ?_
  by_cases hp : r2 = 0
  · replace h := h.1 hp
    refine wt_cond_f (congrArg Value.bool (congrArg Bool.not (decide_eq_true hp))) ?_
    refine wt_skip ?_
    refine wt_seq ?_
    refine wt_seq ?_
    refine wl_region wd_wide ?_
    refine rl_q rfl rfl rfl (v_loadn (vs := [(Value.int .i64 g), (Value.slice Ag lg cg)]) rfl Try.underlying24 rfl info_24 ⟨Row.cell rB (i := 0) rfl, Row.cell rB (i := 1) rfl, trivial⟩) ?_
    refine rl_n rfl rfl rfl rfl (n_call0 rfl (am1 rfl) enter_121 (h.mono ?_))
    rintro _ w4 ⟨r3, rfl, hk2, h⟩
    replace rB := rB.kp hk2
    refine ⟨_, rfl, Stb.none _, ?_⟩
    refine rl_q rfl rfl rfl (v_not rfl) ?_
    refine rl_end ?_
    by_cases hp2 : r3 = true
    · replace h := h.1 hp2
      refine wt_cond_f (congrArg Value.bool (congrArg Bool.not hp2)) ?_
      refine wt_skip ?_
      refine wt_seq ?_
      refine wl_region wd_wide ?_
      refine rl_q rfl rfl rfl (v_assign (v := (Value.int .i64 0)) rfl) ?_
      refine rl_end ?_
      exact wt_ret1 rfl rfl ⟨_, rfl, h⟩
    · replace h := h.2 hp2
      refine wt_cond_t (congrArg Value.bool (congrArg Bool.not (Bool.eq_false_iff.2 hp2))) ?_
      refine wt_seq ?_
      refine wl_region wd_wide ?_
      refine rl_q rfl rfl rfl (v_assign (v := (Value.int .i64 13)) rfl) ?_
      refine rl_end ?_
      exact wt_ret1 rfl rfl ⟨_, rfl, h⟩
  · replace h := h.2 hp
    refine wt_cond_t (congrArg Value.bool (congrArg Bool.not (decide_eq_false hp))) ?_
    refine wt_seq ?_
    refine wl_region wd_wide ?_
    refine rl_q rfl rfl rfl (v_move (v := (Value.int .i64 r2)) rfl) ?_
    refine rl_q rfl rfl rfl (v_assign (v := (Value.int .i64 r2)) rfl) ?_
    refine rl_end ?_
    exact wt_ret1 rfl rfl ⟨_, rfl, h⟩

/-- sandpile/sandpileref25.Sink: what its code does. -/
def sh_r25_Sink (g : Int) (Ag : Option Addr) (lg : Nat) (cg : Nat) (q : Int) (w : World) (R : Int → World → Prop) : Prop :=
(∀ (g2 : Nat) (w2 : World), New w g2 w2 #[(Value.int .i64 g), (Value.slice Ag lg cg)] 24 →
(Calls Try.prog 70 #[(Value.agg #[(Value.int .i64 g), (Value.slice Ag lg cg)])] w2 fun e w3 => ∃ r2 : Int, e = .returned (Value.int .i64 r2) ∧
Kp w2 w3 g2 ∧
((r2 = 0 →
(Calls Try.prog 98 #[(Value.agg #[(Value.int .i64 g), (Value.slice Ag lg cg)]), (Value.int .i64 q)] w3 fun e w4 => ∃ r3 : Bool, e = .returned (Value.bool (r3)) ∧
Kp w3 w4 g2 ∧
((r3 = true →
R 0 w4) ∧
(¬ (r3 = true) →
R 2 w4)))) ∧
(¬ (r2 = 0) →
R r2 w3))))
theorem ok_r25_Sink (g : Int) (Ag : Option Addr) (lg : Nat) (cg : Nat) (q : Int) (w : World) (R : Int → World → Prop) (h : sh_r25_Sink g Ag lg cg q w R) :
    Calls Try.prog 71 #[(Value.agg #[(Value.int .i64 g), (Value.slice Ag lg cg)]), (Value.int .i64 q)] w fun e w' => ∃ r : Int, e = .returned (Value.int .i64 r) ∧ R r w' := by
  unfold sh_r25_Sink at h
  refine calls_sh (l := [(Value.agg #[(Value.int .i64 g), (Value.slice Ag lg cg)]), (Value.int .i64 q)]) Try.func71 rfl Try.ntmps71 (Nat.le_of_ble_eq_true rfl) ?_
  refine wt_seq ?_
  refine wl_region wd_wide ?_
  refine rl_n rfl rfl rfl rfl (n_box (v := (Value.agg #[(Value.int .i64 g), (Value.slice Ag lg cg)])) rfl ?_)
  intro g2 w2 hN
  replace h := h g2 w2 hN
  have rB : Row w2 g2 24 2 [(Value.int .i64 g), (Value.slice Ag lg cg)] := hN.row
  clear hN
  refine ⟨Stb.none _, ?_⟩
  refine rl_q rfl rfl rfl (v_assign (v := (Value.int .i64 0)) rfl) ?_
  refine rl_end ?_
  refine wt_seq ?_
  refine wt_seq ?_
  refine wl_region wd_wide ?_
  refine rl_q rfl rfl rfl (v_loadn (vs := [(Value.int .i64 g), (Value.slice Ag lg cg)]) rfl Try.underlying24 rfl info_24 ⟨Row.cell rB (i := 0) rfl, Row.cell rB (i := 1) rfl, trivial⟩) ?_
  refine rl_n rfl rfl rfl rfl (n_call0 rfl (am1 rfl) enter_70 (h.mono ?_))
  rintro _ w3 ⟨r2, rfl, hk, h⟩
  replace rB := rB.kp hk
  refine ⟨_, rfl, Stb.none _, ?_⟩
  refine rl_q rfl rfl rfl (v_assign (v := (Value.int .i64 r2)) rfl) ?_
  refine rl_end ?_
  refine wt_seq ?_
  refine wl_region wd_wide ?_
  refine rl_q rfl rfl rfl (v_move (v := (Value.int .i64 r2)) rfl) ?_
  refine rl_q rfl rfl rfl (v_neq rfl rfl) ?_
  refine rl_end ?_
  by_cases hp : r2 = 0
  · replace h := h.1 hp
    refine wt_cond_f (congrArg Value.bool (congrArg Bool.not (decide_eq_true hp))) ?_
    refine wt_skip ?_
    refine wt_seq ?_
    refine wt_seq ?_
    refine wl_region wd_wide ?_
    refine rl_q rfl rfl rfl (v_loadn (vs := [(Value.int .i64 g), (Value.slice Ag lg cg)]) rfl Try.underlying24 rfl info_24 ⟨Row.cell rB (i := 0) rfl, Row.cell rB (i := 1) rfl, trivial⟩) ?_
    refine rl_q rfl rfl rfl (v_move (v := (Value.int .i64 q)) rfl) ?_
    refine rl_n rfl rfl rfl rfl (n_call0 rfl (am2 rfl rfl) enter_98 (h.mono ?_))
    rintro _ w4 ⟨r3, rfl, hk2, h⟩
    replace rB := rB.kp hk2
    refine ⟨_, rfl, Stb.none _, ?_⟩
    refine rl_q rfl rfl rfl (v_not rfl) ?_
    refine rl_end ?_
    by_cases hp2 : r3 = true
    · replace h := h.1 hp2
      refine wt_cond_f (congrArg Value.bool (congrArg Bool.not hp2)) ?_
      refine wt_skip ?_
      refine wt_seq ?_
      refine wl_region wd_wide ?_
      refine rl_q rfl rfl rfl (v_assign (v := (Value.int .i64 0)) rfl) ?_
      refine rl_end ?_
      exact wt_ret1 rfl rfl ⟨_, rfl, h⟩
    · replace h := h.2 hp2
      refine wt_cond_t (congrArg Value.bool (congrArg Bool.not (Bool.eq_false_iff.2 hp2))) ?_
      refine wt_seq ?_
      refine wl_region wd_wide ?_
      refine rl_q rfl rfl rfl (v_assign (v := (Value.int .i64 2)) rfl) ?_
      refine rl_end ?_
      exact wt_ret1 rfl rfl ⟨_, rfl, h⟩
  · replace h := h.2 hp
    refine wt_cond_t (congrArg Value.bool (congrArg Bool.not (decide_eq_false hp))) ?_
    refine wt_seq ?_
    refine wl_region wd_wide ?_
    refine rl_q rfl rfl rfl (v_move (v := (Value.int .i64 r2)) rfl) ?_
    refine rl_q rfl rfl rfl (v_assign (v := (Value.int .i64 r2)) rfl) ?_
    refine rl_end ?_
    exact wt_ret1 rfl rfl ⟨_, rfl, h⟩

/-- sandpile/sandpileref25.out: what its code does. -/
def sh_r25_out (g : Int) (Ag : Option Addr) (lg : Nat) (cg : Nat) (set : Int) (v : Int) (w : World) (R : Int → World → Prop) : Prop :=
(∀ (g2 : Nat) (w2 : World), New w g2 w2 #[(Value.int .i64 g), (Value.slice Ag lg cg)] 24 →
(∃ I2 : Nat → Int → Int → World → Prop, (∃ m0, I2 m0 0 0 w2) ∧ ∀ (m1 : Nat) (n : Int) (u : Int) (w3 : World), I2 m1 n u w3 → 
((u < g →
(∃ J2 : World → Prop, (∀ (w4 : World), J2 w4 → (Calls Try.prog 136 #[(Value.agg #[(Value.int .i64 g), (Value.slice Ag lg cg)]), (Value.int .i64 u), (Value.int .i64 v)] w4 fun e w5 => ∃ r2 : Int, e = .returned (Value.int .i64 r2) ∧
Kp w4 w5 g2 ∧
(In64 (n + r2) ∧
(In64 (u + 1) ∧
∃ m2, m2 < m1 ∧ I2 m2 (n + r2) (u + 1) w5)))) ∧
((u = v →
(In64 (u + 1) ∧
∃ m3, m3 < m1 ∧ I2 m3 n (u + 1) w3)) ∧
(¬ (u = v) →
((0 ≤ u ∧ u < 64) ∧
((0 ≤ (set / 2 ^ u.toNat) ∧ (set / 2 ^ u.toNat) < 9223372036854775808 ∧ 0 ≤ (1 : Int) ∧ (1 : Int) < 9223372036854775808) ∧
(((((set / 2 ^ u.toNat).toNat &&& (1 : Int).toNat : Nat) : Int) = 0 →
J2 w3) ∧
(¬ ((((set / 2 ^ u.toNat).toNat &&& (1 : Int).toNat : Nat) : Int) = 0) →
(In64 (u + 1) ∧
∃ m4, m4 < m1 ∧ I2 m4 n (u + 1) w3))))))))) ∧
(¬ (u < g) →
R n w3))))
theorem ok_r25_out (g : Int) (Ag : Option Addr) (lg : Nat) (cg : Nat) (set : Int) (v : Int) (w : World) (R : Int → World → Prop) (h : sh_r25_out g Ag lg cg set v w R) :
    Calls Try.prog 157 #[(Value.agg #[(Value.int .i64 g), (Value.slice Ag lg cg)]), (Value.int .i64 set), (Value.int .i64 v)] w fun e w' => ∃ r : Int, e = .returned (Value.int .i64 r) ∧ R r w' := by
  unfold sh_r25_out at h
  refine calls_sh (l := [(Value.agg #[(Value.int .i64 g), (Value.slice Ag lg cg)]), (Value.int .i64 set), (Value.int .i64 v)]) Try.func157 rfl Try.ntmps157 (Nat.le_of_ble_eq_true rfl) ?_
  refine wt_seq ?_
  refine wl_region wd_wide ?_
  refine rl_n rfl rfl rfl rfl (n_box (v := (Value.agg #[(Value.int .i64 g), (Value.slice Ag lg cg)])) rfl ?_)
  intro g2 w2 hN
  replace h := h g2 w2 hN
  have rB : Row w2 g2 24 2 [(Value.int .i64 g), (Value.slice Ag lg cg)] := hN.row
  clear hN
  refine ⟨Stb.none _, ?_⟩
  refine rl_q rfl rfl rfl (v_assign (v := (Value.int .i64 0)) rfl) ?_
  refine rl_end ?_
  refine wt_seq ?_
  refine wl_region wd_wide ?_
  refine rl_q rfl rfl rfl (v_assign (v := (Value.int .i64 0)) rfl) ?_
  refine rl_end ?_
  refine wt_seq ?_
  refine wt_seq ?_
  refine wl_region wd_wide ?_
  refine rl_q rfl rfl rfl (v_assign (v := (Value.int .i64 0)) rfl) ?_
  refine rl_end ?_
  refine wt_block ?_
  obtain ⟨I2, ⟨m0, h0⟩, hr⟩ := h
  refine wt_loop (fun m E ds w' => ∃ n : Int, ∃ u : Int, I2 m n u w' ∧ ds = [] ∧ E 1 = (Value.int .i64 set) ∧ E 2 = (Value.int .i64 v) ∧ E 3 = (Value.pointer (some (⟨g2, 0, none⟩ : Addr))) ∧ E 7 = (Value.int .i64 n) ∧ E 8 = (Value.int .i64 u) ∧ Row w' g2 24 2 [(Value.int .i64 g), (Value.slice Ag lg cg)]) m0 ⟨_, _, h0, rfl, rfl, rfl, rfl, rfl, rfl, rB⟩ ?_
  clear h0
  rintro m1 E ds w3 ⟨n, u, h, rfl, hE1, hE2, hE3, hE7, hE8, rB⟩ again
  replace h := hr m1 n u w3 h
  clear hr
  refine wt_seq ?_
  refine wt_seq ?_
  refine wl_region wd_wide ?_
  refine rl_q rfl rfl rfl (v_move (v := (Value.int .i64 u)) hE8) ?_
  refine rl_q rfl rfl rfl (v_faddr hE3 Try.underlying24 rfl info_3) ?_
  refine rl_q rfl rfl rfl (v_load rfl Try.underlying3 rfl (Row.cell rB (i := 0) rfl)) ?_
  refine rl_q rfl rfl rfl (v_lss rfl rfl) ?_
  refine rl_end ?_
  by_cases hp : u < g
  · replace h := h.1 hp
    refine wt_cond_t (congrArg Value.bool (decide_eq_true hp)) ?_
    refine wt_skip ?_
    refine wt_seq ?_
    refine wt_block ?_
    refine wt_seq ?_
    obtain ⟨J2, hJ, h⟩ := h
    refine wt_cutA1 (fun E ds w' => J2 w' ∧ ds = [] ∧ E 1 = (Value.int .i64 set) ∧ E 2 = (Value.int .i64 v) ∧ E 3 = (Value.pointer (some (⟨g2, 0, none⟩ : Addr))) ∧ E 7 = (Value.int .i64 n) ∧ E 8 = (Value.int .i64 u) ∧ Row w' g2 24 2 [(Value.int .i64 g), (Value.slice Ag lg cg)]) ?_ ?_
    · rintro E ds w4 ⟨h, rfl, hE1, hE2, hE3, hE7, hE8, rB⟩
      replace h := hJ w4 h
      refine wl_region wd_wide ?_
      refine rl_q rfl rfl rfl (v_move (v := (Value.int .i64 n)) hE7) ?_
      refine rl_q rfl rfl rfl (v_loadn (vs := [(Value.int .i64 g), (Value.slice Ag lg cg)]) hE3 Try.underlying24 rfl info_24 ⟨Row.cell rB (i := 0) rfl, Row.cell rB (i := 1) rfl, trivial⟩) ?_
      refine rl_q rfl rfl rfl (v_move (v := (Value.int .i64 u)) hE8) ?_
      refine rl_q rfl rfl rfl (v_move (v := (Value.int .i64 v)) hE2) ?_
      refine rl_n rfl rfl rfl rfl (n_call0 rfl (am3 rfl rfl rfl) enter_136 (h.mono ?_))
      rintro _ w5 ⟨r2, rfl, hk, h⟩
      replace rB := rB.kp hk
      refine ⟨_, rfl, Stb.none _, ?_⟩
      obtain ⟨hi, h⟩ := h
      refine rl_q rfl rfl rfl (v_add rfl rfl hi) ?_
      refine rl_q rfl rfl rfl (v_assign (v := (Value.int .i64 (n + r2))) rfl) ?_
      refine rl_end ?_
      refine wt_inBlock ?_
      refine wl_region wd_wide ?_
      refine rl_q rfl rfl rfl (v_move (v := (Value.int .i64 u)) hE8) ?_
      obtain ⟨hi2, h⟩ := h
      refine rl_q rfl rfl rfl (v_add rfl rfl hi2) ?_
      refine rl_q rfl rfl rfl (v_assign (v := (Value.int .i64 (u + 1))) rfl) ?_
      refine rl_end ?_
      obtain ⟨mq, hlt, h⟩ := h
      exact again mq _ _ _ ⟨_, _, h, rfl, hE1, hE2, hE3, rfl, rfl, rB⟩ hlt
    clear hJ
    intro j
    refine wl_region wd_wide ?_
    refine rl_q rfl rfl rfl (v_move (v := (Value.int .i64 u)) hE8) ?_
    refine rl_q rfl rfl rfl (v_move (v := (Value.int .i64 v)) hE2) ?_
    refine rl_q rfl rfl rfl (v_neq rfl rfl) ?_
    refine rl_q rfl rfl rfl (v_move (v := (Value.bool (!(decide (u = v))))) rfl) ?_
    by_cases hp2 : u = v
    · replace h := h.1 hp2
      refine rl_p (wanted_n rfl (yE_of rfl (congrArg Value.bool (congrArg Bool.not (decide_eq_true hp2)))) rfl) rfl ?_
      refine rl_p (wanted_n rfl (yE_of rfl (congrArg Value.bool (congrArg Bool.not (decide_eq_true hp2)))) rfl) rfl ?_
      refine rl_p (wanted_n rfl (yE_of rfl (congrArg Value.bool (congrArg Bool.not (decide_eq_true hp2)))) rfl) rfl ?_
      refine rl_p (wanted_n rfl (yE_of rfl (congrArg Value.bool (congrArg Bool.not (decide_eq_true hp2)))) rfl) rfl ?_
      refine rl_p (wanted_n rfl (yE_of rfl (congrArg Value.bool (congrArg Bool.not (decide_eq_true hp2)))) rfl) rfl ?_
      refine rl_q rfl rfl rfl (v_pick_f (v := (Value.bool (false))) (congrArg Value.bool (congrArg Bool.not (decide_eq_true hp2))) rfl) ?_
      refine rl_end ?_
      refine wt_cond_f rfl ?_
      refine wt_skip ?_
      refine wt_inBlock ?_
      refine wl_region wd_wide ?_
      refine rl_q rfl rfl rfl (v_move (v := (Value.int .i64 u)) hE8) ?_
      obtain ⟨hi3, h⟩ := h
      refine rl_q rfl rfl rfl (v_add rfl rfl hi3) ?_
      refine rl_q rfl rfl rfl (v_assign (v := (Value.int .i64 (u + 1))) rfl) ?_
      refine rl_end ?_
      obtain ⟨mq, hlt, h⟩ := h
      exact again mq _ _ _ ⟨_, _, h, rfl, hE1, hE2, hE3, hE7, rfl, rB⟩ hlt
    · replace h := h.2 hp2
      refine rl_q (wanted_g rfl (yE_of rfl (congrArg Value.bool (congrArg Bool.not (decide_eq_false hp2))))) rfl rfl (v_move (v := (Value.int .i64 set)) hE1) ?_
      refine rl_q (wanted_g rfl (yE_of rfl (congrArg Value.bool (congrArg Bool.not (decide_eq_false hp2))))) rfl rfl (v_move (v := (Value.int .i64 u)) hE8) ?_
      obtain ⟨hz, h⟩ := h
      refine rl_q (wanted_g rfl (yE_of rfl (congrArg Value.bool (congrArg Bool.not (decide_eq_false hp2))))) rfl rfl (v_shr rfl rfl hz) ?_
      obtain ⟨hz2, h⟩ := h
      refine rl_q (wanted_g rfl (yE_of rfl (congrArg Value.bool (congrArg Bool.not (decide_eq_false hp2))))) rfl rfl (v_andb rfl rfl hz2) ?_
      refine rl_q (wanted_g rfl (yE_of rfl (congrArg Value.bool (congrArg Bool.not (decide_eq_false hp2))))) rfl rfl (v_eql rfl rfl) ?_
      refine rl_q rfl rfl rfl (v_pick_t (v := (Value.bool (decide ((((set / 2 ^ u.toNat).toNat &&& (1 : Int).toNat : Nat) : Int) = 0)))) (congrArg Value.bool (congrArg Bool.not (decide_eq_false hp2))) rfl) ?_
      refine rl_end ?_
      by_cases hp3 : (((set / 2 ^ u.toNat).toNat &&& (1 : Int).toNat : Nat) : Int) = 0
      · replace h := h.1 hp3
        refine wt_cond_t (congrArg Value.bool (decide_eq_true hp3)) ?_
        exact j _ _ _ ⟨h, rfl, hE1, hE2, hE3, hE7, hE8, rB⟩
      · replace h := h.2 hp3
        refine wt_cond_f (congrArg Value.bool (decide_eq_false hp3)) ?_
        refine wt_skip ?_
        refine wt_inBlock ?_
        refine wl_region wd_wide ?_
        refine rl_q rfl rfl rfl (v_move (v := (Value.int .i64 u)) hE8) ?_
        obtain ⟨hi4, h⟩ := h
        refine rl_q rfl rfl rfl (v_add rfl rfl hi4) ?_
        refine rl_q rfl rfl rfl (v_assign (v := (Value.int .i64 (u + 1))) rfl) ?_
        refine rl_end ?_
        obtain ⟨mq, hlt, h⟩ := h
        exact again mq _ _ _ ⟨_, _, h, rfl, hE1, hE2, hE3, hE7, rfl, rB⟩ hlt
  · replace h := h.2 hp
    refine wt_cond_f (congrArg Value.bool (decide_eq_false hp)) ?_
    refine wt_exit rfl ?_
    refine wt_seq ?_
    refine wl_region wd_wide ?_
    refine rl_q rfl rfl rfl (v_move (v := (Value.int .i64 n)) hE7) ?_
    refine rl_q rfl rfl rfl (v_assign (v := (Value.int .i64 n)) rfl) ?_
    refine rl_end ?_
    exact wt_ret1 rfl rfl ⟨_, rfl, h⟩

/-- sandpile/sandpileref25.May: what its code does. -/
def sh_r25_May (g : Int) (Ag : Option Addr) (lg : Nat) (cg : Nat) (Ad : Option Addr) (ld : Nat) (cd : Nat) (set : Int) (w : World) (R : Bool → World → Prop) : Prop :=
(∀ (g2 : Nat) (w2 : World), New w g2 w2 #[(Value.int .i64 g), (Value.slice Ag lg cg)] 24 →
(∃ I2 : Nat → Int → World → Prop, (∃ m0, I2 m0 0 w2) ∧ ∀ (m1 : Nat) (v : Int) (w3 : World), I2 m1 v w3 → 
((v < g →
((0 ≤ v ∧ v < 64) ∧
((0 ≤ (set / 2 ^ v.toNat) ∧ (set / 2 ^ v.toNat) < 9223372036854775808 ∧ 0 ≤ (1 : Int) ∧ (1 : Int) < 9223372036854775808) ∧
(((((set / 2 ^ v.toNat).toNat &&& (1 : Int).toNat : Nat) : Int) = 1 →
(Ix Ad ld v ∧
(∃ x : Int, w3.drew.cell? (ixA Ad v 1) = some (Value.int .i64 x) ∧
(Calls Try.prog 157 #[(Value.agg #[(Value.int .i64 g), (Value.slice Ag lg cg)]), (Value.int .i64 set), (Value.int .i64 v)] w3.drew fun e w4 => ∃ r2 : Int, e = .returned (Value.int .i64 r2) ∧
Kp w3.drew w4 g2 ∧
w4.cell? (ixA Ad v 1) = some (Value.int .i64 x) ∧
((x < r2 →
R false w4) ∧
(¬ (x < r2) →
(In64 (v + 1) ∧
∃ m2, m2 < m1 ∧ I2 m2 (v + 1) w4))))))) ∧
(¬ ((((set / 2 ^ v.toNat).toNat &&& (1 : Int).toNat : Nat) : Int) = 1) →
(In64 (v + 1) ∧
∃ m3, m3 < m1 ∧ I2 m3 (v + 1) w3.drew)))))) ∧
(¬ (v < g) →
R true w3))))
theorem ok_r25_May (g : Int) (Ag : Option Addr) (lg : Nat) (cg : Nat) (Ad : Option Addr) (ld : Nat) (cd : Nat) (set : Int) (w : World) (R : Bool → World → Prop) (h : sh_r25_May g Ag lg cg Ad ld cd set w R) :
    Calls Try.prog 125 #[(Value.agg #[(Value.int .i64 g), (Value.slice Ag lg cg)]), (Value.slice Ad ld cd), (Value.int .i64 set)] w fun e w' => ∃ r : Bool, e = .returned (Value.bool (r)) ∧ R r w' := by
  unfold sh_r25_May at h
  refine calls_sh (l := [(Value.agg #[(Value.int .i64 g), (Value.slice Ag lg cg)]), (Value.slice Ad ld cd), (Value.int .i64 set)]) Try.func125 rfl Try.ntmps125 (Nat.le_of_ble_eq_true rfl) ?_
  refine wt_seq ?_
  refine wl_region wd_wide ?_
  refine rl_n rfl rfl rfl rfl (n_box (v := (Value.agg #[(Value.int .i64 g), (Value.slice Ag lg cg)])) rfl ?_)
  intro g2 w2 hN
  replace h := h g2 w2 hN
  have rB : Row w2 g2 24 2 [(Value.int .i64 g), (Value.slice Ag lg cg)] := hN.row
  clear hN
  refine ⟨Stb.none _, ?_⟩
  refine rl_q rfl rfl rfl (v_assign (v := (Value.bool (false))) rfl) ?_
  refine rl_end ?_
  refine wt_seq ?_
  refine wt_seq ?_
  refine wl_region wd_wide ?_
  refine rl_q rfl rfl rfl (v_assign (v := (Value.int .i64 0)) rfl) ?_
  refine rl_end ?_
  refine wt_block ?_
  obtain ⟨I2, ⟨m0, h0⟩, hr⟩ := h
  refine wt_loop (fun m E ds w' => ∃ v : Int, I2 m v w' ∧ ds = [] ∧ E 1 = (Value.slice Ad ld cd) ∧ E 2 = (Value.int .i64 set) ∧ E 3 = (Value.pointer (some (⟨g2, 0, none⟩ : Addr))) ∧ E 7 = (Value.int .i64 v) ∧ Row w' g2 24 2 [(Value.int .i64 g), (Value.slice Ag lg cg)]) m0 ⟨_, h0, rfl, rfl, rfl, rfl, rfl, rB⟩ ?_
  clear h0
  rintro m1 E ds w3 ⟨v, h, rfl, hE1, hE2, hE3, hE7, rB⟩ again
  replace h := hr m1 v w3 h
  clear hr
  refine wt_seq ?_
  refine wt_seq ?_
  refine wl_region wd_wide ?_
  refine rl_q rfl rfl rfl (v_move (v := (Value.int .i64 v)) hE7) ?_
  refine rl_q rfl rfl rfl (v_faddr hE3 Try.underlying24 rfl info_3) ?_
  refine rl_q rfl rfl rfl (v_load rfl Try.underlying3 rfl (Row.cell rB (i := 0) rfl)) ?_
  refine rl_q rfl rfl rfl (v_lss rfl rfl) ?_
  refine rl_end ?_
  by_cases hp : v < g
  · replace h := h.1 hp
    refine wt_cond_t (congrArg Value.bool (decide_eq_true hp)) ?_
    refine wt_skip ?_
    refine wt_seq ?_
    refine wt_block ?_
    refine wt_seq ?_
    refine wp_draw [0, 1, 2, 3, 4, 5, 6, 7, 8, 9, 10, 11, 12, 13, 14, 15] (fun i => match i with | 13 => [6, 7, 8, 9] | _ => []) wd_wide (by kernel_rfl) (by kernel_rfl) ?_
    replace rB := rB.drew
    refine rp_q rfl rfl rfl (v_move (v := (Value.int .i64 set)) hE2) ?_
    refine rp_q rfl rfl rfl (v_move (v := (Value.int .i64 v)) hE7) ?_
    obtain ⟨hz, h⟩ := h
    refine rp_q rfl rfl rfl (v_shr rfl rfl hz) ?_
    obtain ⟨hz2, h⟩ := h
    refine rp_q rfl rfl rfl (v_andb rfl rfl hz2) ?_
    refine rp_q rfl rfl rfl (v_eql rfl rfl) ?_
    refine rp_q rfl rfl rfl (v_move (v := (Value.bool (decide ((((set / 2 ^ v.toNat).toNat &&& (1 : Int).toNat : Nat) : Int) = 1)))) rfl) ?_
    by_cases hp2 : (((set / 2 ^ v.toNat).toNat &&& (1 : Int).toNat : Nat) : Int) = 1
    · replace h := h.1 hp2
      refine rp_q (wanted_g rfl (yE_of rfl (congrArg Value.bool (decide_eq_true hp2)))) rfl rfl (v_move (v := (Value.slice Ad ld cd)) hE1) ?_
      refine rp_q (wanted_g rfl (yE_of rfl (congrArg Value.bool (decide_eq_true hp2)))) rfl rfl (v_move (v := (Value.int .i64 v)) hE7) ?_
      obtain ⟨hx, h⟩ := h
      refine rp_q (wanted_g rfl (yE_of rfl (congrArg Value.bool (decide_eq_true hp2)))) rfl rfl (v_iaddr rfl rfl Try.underlying25 info_3 hx) ?_
      obtain ⟨x, hc, h⟩ := h
      refine rp_q (wanted_g rfl (yE_of rfl (congrArg Value.bool (decide_eq_true hp2)))) rfl rfl (v_load rfl Try.underlying3 rfl hc) ?_
      refine rp_q (wanted_g rfl (yE_of rfl (congrArg Value.bool (decide_eq_true hp2)))) rfl rfl (v_loadn (vs := [(Value.int .i64 g), (Value.slice Ag lg cg)]) hE3 Try.underlying24 rfl info_24 ⟨Row.cell rB (i := 0) rfl, Row.cell rB (i := 1) rfl, trivial⟩) ?_
      refine rp_q (wanted_g rfl (yE_of rfl (congrArg Value.bool (decide_eq_true hp2)))) rfl rfl (v_move (v := (Value.int .i64 set)) hE2) ?_
      refine rp_q (wanted_g rfl (yE_of rfl (congrArg Value.bool (decide_eq_true hp2)))) rfl rfl (v_move (v := (Value.int .i64 v)) hE7) ?_
      refine rp_n (wanted_g rfl (yE_of rfl (congrArg Value.bool (decide_eq_true hp2)))) rfl rfl rfl (n_call0 rfl (am3 rfl rfl rfl) enter_157 (h.mono ?_))
      rintro _ w4 ⟨r2, rfl, hk, hc2, h⟩
      replace rB := rB.kp hk
      refine ⟨_, rfl, ⟨fun hh => Bool.noConfusion (show false = true from hh), ⟨fun hh => Bool.noConfusion (show false = true from hh), ⟨fun hh => Bool.noConfusion (show false = true from hh), ⟨fun _ => (v_load rfl Try.underlying3 rfl hc2), ⟨fun _ => (v_iaddr rfl rfl Try.underlying25 info_3 hx), ⟨fun _ => (v_move (v := (Value.int .i64 v)) hE7), ⟨fun _ => (v_move (v := (Value.slice Ad ld cd)) hE1), ⟨fun hh => Bool.noConfusion (show false = true from hh), ⟨fun hh => Bool.noConfusion (show false = true from hh), ⟨fun hh => Bool.noConfusion (show false = true from hh), ⟨fun hh => Bool.noConfusion (show false = true from hh), ⟨fun hh => Bool.noConfusion (show false = true from hh), ⟨fun hh => Bool.noConfusion (show false = true from hh), trivial⟩⟩⟩⟩⟩⟩⟩⟩⟩⟩⟩⟩⟩, ?_⟩
      refine rp_q (wanted_g rfl (yE_of rfl (congrArg Value.bool (decide_eq_true hp2)))) rfl rfl (v_lss rfl rfl) ?_
      refine rp_q rfl rfl rfl (v_pick_t (v := (Value.bool (decide (x < r2)))) (congrArg Value.bool (decide_eq_true hp2)) rfl) ?_
      refine rp_end ?_
      by_cases hp3 : x < r2
      · replace h := h.1 hp3
        refine wt_cond_t (congrArg Value.bool (decide_eq_true hp3)) ?_
        refine wt_seq ?_
        refine wl_region wd_wide ?_
        refine rl_q rfl rfl rfl (v_assign (v := (Value.bool (false))) rfl) ?_
        refine rl_end ?_
        exact wt_ret1 rfl rfl ⟨_, rfl, h⟩
      · replace h := h.2 hp3
        refine wt_cond_f (congrArg Value.bool (decide_eq_false hp3)) ?_
        refine wt_skip ?_
        refine wt_inBlock ?_
        refine wl_region wd_wide ?_
        refine rl_q rfl rfl rfl (v_move (v := (Value.int .i64 v)) hE7) ?_
        obtain ⟨hi, h⟩ := h
        refine rl_q rfl rfl rfl (v_add rfl rfl hi) ?_
        refine rl_q rfl rfl rfl (v_assign (v := (Value.int .i64 (v + 1))) rfl) ?_
        refine rl_end ?_
        obtain ⟨mq, hlt, h⟩ := h
        exact again mq _ _ _ ⟨_, h, rfl, hE1, hE2, hE3, rfl, rB⟩ hlt
    · replace h := h.2 hp2
      refine rp_p (wanted_n rfl (yE_of rfl (congrArg Value.bool (decide_eq_false hp2))) rfl) rfl ?_
      refine rp_p (wanted_n rfl (yE_of rfl (congrArg Value.bool (decide_eq_false hp2))) rfl) rfl ?_
      refine rp_p (wanted_n rfl (yE_of rfl (congrArg Value.bool (decide_eq_false hp2))) rfl) rfl ?_
      refine rp_p (wanted_n rfl (yE_of rfl (congrArg Value.bool (decide_eq_false hp2))) rfl) rfl ?_
      refine rp_p (wanted_n rfl (yE_of rfl (congrArg Value.bool (decide_eq_false hp2))) rfl) rfl ?_
      refine rp_p (wanted_n rfl (yE_of rfl (congrArg Value.bool (decide_eq_false hp2))) rfl) rfl ?_
      refine rp_p (wanted_n rfl (yE_of rfl (congrArg Value.bool (decide_eq_false hp2))) rfl) rfl ?_
      refine rp_p (wanted_n rfl (yE_of rfl (congrArg Value.bool (decide_eq_false hp2))) rfl) rfl ?_
      refine rp_p (wanted_n rfl (yE_of rfl (congrArg Value.bool (decide_eq_false hp2))) rfl) rfl ?_
      refine rp_q rfl rfl rfl (v_pick_f (v := (Value.bool (false))) (congrArg Value.bool (decide_eq_false hp2)) rfl) ?_
      refine rp_end ?_
      refine wt_cond_f rfl ?_
      refine wt_skip ?_
      refine wt_inBlock ?_
      refine wl_region wd_wide ?_
      refine rl_q rfl rfl rfl (v_move (v := (Value.int .i64 v)) hE7) ?_
      obtain ⟨hi2, h⟩ := h
      refine rl_q rfl rfl rfl (v_add rfl rfl hi2) ?_
      refine rl_q rfl rfl rfl (v_assign (v := (Value.int .i64 (v + 1))) rfl) ?_
      refine rl_end ?_
      obtain ⟨mq, hlt, h⟩ := h
      exact again mq _ _ _ ⟨_, h, rfl, hE1, hE2, hE3, rfl, rB⟩ hlt
  · replace h := h.2 hp
    refine wt_cond_f (congrArg Value.bool (decide_eq_false hp)) ?_
    refine wt_exit rfl ?_
    refine wt_seq ?_
    refine wl_region wd_wide ?_
    refine rl_q rfl rfl rfl (v_assign (v := (Value.bool (true))) rfl) ?_
    refine rl_end ?_
    exact wt_ret1 rfl rfl ⟨_, rfl, h⟩

/-- sandpile/sandpileref25.Tight: what its code does. -/
def sh_r25_Tight (g : Int) (Ag : Option Addr) (lg : Nat) (cg : Nat) (q : Int) (Ad : Option Addr) (ld : Nat) (cd : Nat) (w : World) (R : Bool → World → Prop) : Prop :=
(∀ (g2 : Nat) (w2 : World), New w g2 w2 #[(Value.int .i64 g), (Value.slice Ag lg cg)] 24 →
(∃ I2 : Nat → Int → World → Prop, (∃ m0, I2 m0 1 w2) ∧ ∀ (m1 : Nat) (set : Int) (w3 : World), I2 m1 set w3 → 
((0 ≤ g ∧ g < 64) ∧
In64 (1 * 2 ^ g.toNat) ∧
((set < (1 * 2 ^ g.toNat) →
((0 ≤ q ∧ q < 64) ∧
((0 ≤ (set / 2 ^ q.toNat) ∧ (set / 2 ^ q.toNat) < 9223372036854775808 ∧ 0 ≤ (1 : Int) ∧ (1 : Int) < 9223372036854775808) ∧
(((((set / 2 ^ q.toNat).toNat &&& (1 : Int).toNat : Nat) : Int) = 0 →
(Calls Try.prog 125 #[(Value.agg #[(Value.int .i64 g), (Value.slice Ag lg cg)]), (Value.slice Ad ld cd), (Value.int .i64 set)] w3 fun e w4 => ∃ r2 : Bool, e = .returned (Value.bool (r2)) ∧
Kp w3 w4 g2 ∧
((r2 = true →
R false w4) ∧
(¬ (r2 = true) →
(In64 (set + 1) ∧
∃ m2, m2 < m1 ∧ I2 m2 (set + 1) w4))))) ∧
(¬ ((((set / 2 ^ q.toNat).toNat &&& (1 : Int).toNat : Nat) : Int) = 0) →
(In64 (set + 1) ∧
∃ m3, m3 < m1 ∧ I2 m3 (set + 1) w3)))))) ∧
(¬ (set < (1 * 2 ^ g.toNat)) →
R true w3)))))
theorem ok_r25_Tight (g : Int) (Ag : Option Addr) (lg : Nat) (cg : Nat) (q : Int) (Ad : Option Addr) (ld : Nat) (cd : Nat) (w : World) (R : Bool → World → Prop) (h : sh_r25_Tight g Ag lg cg q Ad ld cd w R) :
    Calls Try.prog 124 #[(Value.agg #[(Value.int .i64 g), (Value.slice Ag lg cg)]), (Value.int .i64 q), (Value.slice Ad ld cd)] w fun e w' => ∃ r : Bool, e = .returned (Value.bool (r)) ∧ R r w' := by
  unfold sh_r25_Tight at h
  refine calls_sh (l := [(Value.agg #[(Value.int .i64 g), (Value.slice Ag lg cg)]), (Value.int .i64 q), (Value.slice Ad ld cd)]) Try.func124 rfl Try.ntmps124 (Nat.le_of_ble_eq_true rfl) ?_
  refine wt_seq ?_
  refine wl_region wd_wide ?_
  refine rl_n rfl rfl rfl rfl (n_box (v := (Value.agg #[(Value.int .i64 g), (Value.slice Ag lg cg)])) rfl ?_)
  intro g2 w2 hN
  replace h := h g2 w2 hN
  have rB : Row w2 g2 24 2 [(Value.int .i64 g), (Value.slice Ag lg cg)] := hN.row
  clear hN
  refine ⟨Stb.none _, ?_⟩
  refine rl_q rfl rfl rfl (v_assign (v := (Value.bool (false))) rfl) ?_
  refine rl_end ?_
  refine wt_seq ?_
  refine wt_seq ?_
  refine wl_region wd_wide ?_
  refine rl_q rfl rfl rfl (v_assign (v := (Value.int .i64 1)) rfl) ?_
  refine rl_end ?_
  refine wt_block ?_
  obtain ⟨I2, ⟨m0, h0⟩, hr⟩ := h
  refine wt_loop (fun m E ds w' => ∃ set : Int, I2 m set w' ∧ ds = [] ∧ E 1 = (Value.int .i64 q) ∧ E 2 = (Value.slice Ad ld cd) ∧ E 3 = (Value.pointer (some (⟨g2, 0, none⟩ : Addr))) ∧ E 7 = (Value.int .i64 set) ∧ Row w' g2 24 2 [(Value.int .i64 g), (Value.slice Ag lg cg)]) m0 ⟨_, h0, rfl, rfl, rfl, rfl, rfl, rB⟩ ?_
  clear h0
  rintro m1 E ds w3 ⟨set, h, rfl, hE1, hE2, hE3, hE7, rB⟩ again
  replace h := hr m1 set w3 h
  clear hr
  refine wt_seq ?_
  refine wt_seq ?_
  refine wl_region wd_wide ?_
  refine rl_q rfl rfl rfl (v_move (v := (Value.int .i64 set)) hE7) ?_
  refine rl_q rfl rfl rfl (v_faddr hE3 Try.underlying24 rfl info_3) ?_
  refine rl_q rfl rfl rfl (v_load rfl Try.underlying3 rfl (Row.cell rB (i := 0) rfl)) ?_
  obtain ⟨hz, h⟩ := h
  obtain ⟨hi, h⟩ := h
  refine rl_q rfl rfl rfl (v_shl rfl rfl hz hi) ?_
  refine rl_q rfl rfl rfl (v_lss rfl rfl) ?_
  refine rl_end ?_
  by_cases hp : set < (1 * 2 ^ g.toNat)
  · replace h := h.1 hp
    refine wt_cond_t (congrArg Value.bool (decide_eq_true hp)) ?_
    refine wt_skip ?_
    refine wt_seq ?_
    refine wt_block ?_
    refine wt_seq ?_
    refine wl_region wd_wide ?_
    refine rl_q rfl rfl rfl (v_move (v := (Value.int .i64 set)) hE7) ?_
    refine rl_q rfl rfl rfl (v_move (v := (Value.int .i64 q)) hE1) ?_
    obtain ⟨hz2, h⟩ := h
    refine rl_q rfl rfl rfl (v_shr rfl rfl hz2) ?_
    obtain ⟨hz3, h⟩ := h
    refine rl_q rfl rfl rfl (v_andb rfl rfl hz3) ?_
    refine rl_q rfl rfl rfl (v_eql rfl rfl) ?_
    refine rl_q rfl rfl rfl (v_move (v := (Value.bool (decide ((((set / 2 ^ q.toNat).toNat &&& (1 : Int).toNat : Nat) : Int) = 0)))) rfl) ?_
    by_cases hp2 : (((set / 2 ^ q.toNat).toNat &&& (1 : Int).toNat : Nat) : Int) = 0
    · replace h := h.1 hp2
      refine rl_q (wanted_g rfl (yE_of rfl (congrArg Value.bool (decide_eq_true hp2)))) rfl rfl (v_loadn (vs := [(Value.int .i64 g), (Value.slice Ag lg cg)]) hE3 Try.underlying24 rfl info_24 ⟨Row.cell rB (i := 0) rfl, Row.cell rB (i := 1) rfl, trivial⟩) ?_
      refine rl_q (wanted_g rfl (yE_of rfl (congrArg Value.bool (decide_eq_true hp2)))) rfl rfl (v_move (v := (Value.slice Ad ld cd)) hE2) ?_
      refine rl_q (wanted_g rfl (yE_of rfl (congrArg Value.bool (decide_eq_true hp2)))) rfl rfl (v_move (v := (Value.int .i64 set)) hE7) ?_
      refine rl_n (wanted_g rfl (yE_of rfl (congrArg Value.bool (decide_eq_true hp2)))) rfl rfl rfl (n_call0 rfl (am3 rfl rfl rfl) enter_125 (h.mono ?_))
      rintro _ w4 ⟨r2, rfl, hk, h⟩
      replace rB := rB.kp hk
      refine ⟨_, rfl, Stb.none _, ?_⟩
      refine rl_q rfl rfl rfl (v_pick_t (v := (Value.bool (r2))) (congrArg Value.bool (decide_eq_true hp2)) rfl) ?_
      refine rl_end ?_
      by_cases hp3 : r2 = true
      · replace h := h.1 hp3
        refine wt_cond_t (congrArg Value.bool hp3) ?_
        refine wt_seq ?_
        refine wl_region wd_wide ?_
        refine rl_q rfl rfl rfl (v_assign (v := (Value.bool (false))) rfl) ?_
        refine rl_end ?_
        exact wt_ret1 rfl rfl ⟨_, rfl, h⟩
      · replace h := h.2 hp3
        refine wt_cond_f (congrArg Value.bool (Bool.eq_false_iff.2 hp3)) ?_
        refine wt_skip ?_
        refine wt_inBlock ?_
        refine wl_region wd_wide ?_
        refine rl_q rfl rfl rfl (v_move (v := (Value.int .i64 set)) hE7) ?_
        obtain ⟨hi2, h⟩ := h
        refine rl_q rfl rfl rfl (v_add rfl rfl hi2) ?_
        refine rl_q rfl rfl rfl (v_assign (v := (Value.int .i64 (set + 1))) rfl) ?_
        refine rl_end ?_
        obtain ⟨mq, hlt, h⟩ := h
        exact again mq _ _ _ ⟨_, h, rfl, hE1, hE2, hE3, rfl, rB⟩ hlt
    · replace h := h.2 hp2
      refine rl_p (wanted_n rfl (yE_of rfl (congrArg Value.bool (decide_eq_false hp2))) rfl) rfl ?_
      refine rl_p (wanted_n rfl (yE_of rfl (congrArg Value.bool (decide_eq_false hp2))) rfl) rfl ?_
      refine rl_p (wanted_n rfl (yE_of rfl (congrArg Value.bool (decide_eq_false hp2))) rfl) rfl ?_
      refine rl_p (wanted_n rfl (yE_of rfl (congrArg Value.bool (decide_eq_false hp2))) rfl) rfl ?_
      refine rl_q rfl rfl rfl (v_pick_f (v := (Value.bool (false))) (congrArg Value.bool (decide_eq_false hp2)) rfl) ?_
      refine rl_end ?_
      refine wt_cond_f rfl ?_
      refine wt_skip ?_
      refine wt_inBlock ?_
      refine wl_region wd_wide ?_
      refine rl_q rfl rfl rfl (v_move (v := (Value.int .i64 set)) hE7) ?_
      obtain ⟨hi3, h⟩ := h
      refine rl_q rfl rfl rfl (v_add rfl rfl hi3) ?_
      refine rl_q rfl rfl rfl (v_assign (v := (Value.int .i64 (set + 1))) rfl) ?_
      refine rl_end ?_
      obtain ⟨mq, hlt, h⟩ := h
      exact again mq _ _ _ ⟨_, h, rfl, hE1, hE2, hE3, rfl, rB⟩ hlt
  · replace h := h.2 hp
    refine wt_cond_f (congrArg Value.bool (decide_eq_false hp)) ?_
    refine wt_exit rfl ?_
    refine wt_seq ?_
    refine wl_region wd_wide ?_
    refine rl_q rfl rfl rfl (v_assign (v := (Value.bool (true))) rfl) ?_
    refine rl_end ?_
    exact wt_ret1 rfl rfl ⟨_, rfl, h⟩

/-- sandpile/sandpileref25.Few: what its code does. -/
def sh_r25_Few (g : Int) (Ag : Option Addr) (lg : Nat) (cg : Nat) (w : World) (R : Bool → World → Prop) : Prop :=
(∀ (g2 : Nat) (w2 : World), New w g2 w2 #[(Value.int .i64 g), (Value.slice Ag lg cg)] 24 →
(Calls Try.prog 109 #[(Value.agg #[(Value.int .i64 g), (Value.slice Ag lg cg)])] w2 fun e w3 => ∃ r2 : Bool, e = .returned (Value.bool (r2)) ∧
Kp w2 w3 g2 ∧
R r2 w3))
theorem ok_r25_Few (g : Int) (Ag : Option Addr) (lg : Nat) (cg : Nat) (w : World) (R : Bool → World → Prop) (h : sh_r25_Few g Ag lg cg w R) :
    Calls Try.prog 61 #[(Value.agg #[(Value.int .i64 g), (Value.slice Ag lg cg)])] w fun e w' => ∃ r : Bool, e = .returned (Value.bool (r)) ∧ R r w' := by
  unfold sh_r25_Few at h
  refine calls_sh (l := [(Value.agg #[(Value.int .i64 g), (Value.slice Ag lg cg)])]) Try.func61 rfl Try.ntmps61 (Nat.le_of_ble_eq_true rfl) ?_
  refine wt_seq ?_
  refine wl_region wd_wide ?_
  refine rl_n rfl rfl rfl rfl (n_box (v := (Value.agg #[(Value.int .i64 g), (Value.slice Ag lg cg)])) rfl ?_)
  intro g2 w2 hN
  replace h := h g2 w2 hN
  have rB : Row w2 g2 24 2 [(Value.int .i64 g), (Value.slice Ag lg cg)] := hN.row
  clear hN
  refine ⟨Stb.none _, ?_⟩
  refine rl_q rfl rfl rfl (v_assign (v := (Value.bool (false))) rfl) ?_
  refine rl_end ?_
  refine wt_seq ?_
  refine wl_region wd_wide ?_
  refine rl_q rfl rfl rfl (v_loadn (vs := [(Value.int .i64 g), (Value.slice Ag lg cg)]) rfl Try.underlying24 rfl info_24 ⟨Row.cell rB (i := 0) rfl, Row.cell rB (i := 1) rfl, trivial⟩) ?_
  refine rl_n rfl rfl rfl rfl (n_call0 rfl (am1 rfl) enter_109 (h.mono ?_))
  rintro _ w3 ⟨r2, rfl, hk, h⟩
  replace rB := rB.kp hk
  refine ⟨_, rfl, Stb.none _, ?_⟩
  refine rl_q rfl rfl rfl (v_assign (v := (Value.bool (r2))) rfl) ?_
  refine rl_end ?_
  exact wt_ret1 rfl rfl ⟨_, rfl, h⟩

/-- sandpile/sandpileref34.Given: what its code does. -/
def sh_r34_Given (g : Int) (Ag : Option Addr) (lg : Nat) (cg : Nat) (q : Int) (Ad : Option Addr) (ld : Nat) (cd : Nat) (w : World) (R : Int → World → Prop) : Prop :=
(∀ (g2 : Nat) (w2 : World), New w g2 w2 #[(Value.int .i64 g), (Value.slice Ag lg cg)] 24 →
(Calls Try.prog 71 #[(Value.agg #[(Value.int .i64 g), (Value.slice Ag lg cg)]), (Value.int .i64 q)] w2 fun e w3 => ∃ r2 : Int, e = .returned (Value.int .i64 r2) ∧
Kp w2 w3 g2 ∧
((r2 = 0 →
(Calls Try.prog 26 #[(Value.slice Ad ld cd), (Value.int .i64 g)] w3 fun e w4 => ∃ r3 : Int, e = .returned (Value.int .i64 r3) ∧
Kp w3 w4 g2 ∧
R r3 w4)) ∧
(¬ (r2 = 0) →
R r2 w3))))
theorem ok_r34_Given (g : Int) (Ag : Option Addr) (lg : Nat) (cg : Nat) (q : Int) (Ad : Option Addr) (ld : Nat) (cd : Nat) (w : World) (R : Int → World → Prop) (h : sh_r34_Given g Ag lg cg q Ad ld cd w R) :
    Calls Try.prog 24 #[(Value.agg #[(Value.int .i64 g), (Value.slice Ag lg cg)]), (Value.int .i64 q), (Value.slice Ad ld cd)] w fun e w' => ∃ r : Int, e = .returned (Value.int .i64 r) ∧ R r w' := by
  unfold sh_r34_Given at h
  refine calls_sh (l := [(Value.agg #[(Value.int .i64 g), (Value.slice Ag lg cg)]), (Value.int .i64 q), (Value.slice Ad ld cd)]) Try.func24 rfl Try.ntmps24 (Nat.le_of_ble_eq_true rfl) ?_
  refine wt_seq ?_
  refine wl_region wd_wide ?_
  refine rl_n rfl rfl rfl rfl (n_box (v := (Value.agg #[(Value.int .i64 g), (Value.slice Ag lg cg)])) rfl ?_)
  intro g2 w2 hN
  replace h := h g2 w2 hN
  have rB : Row w2 g2 24 2 [(Value.int .i64 g), (Value.slice Ag lg cg)] := hN.row
  clear hN
  refine ⟨Stb.none _, ?_⟩
  refine rl_q rfl rfl rfl (v_assign (v := (Value.int .i64 0)) rfl) ?_
  refine rl_end ?_
  refine wt_seq ?_
  refine wt_seq ?_
  refine wl_region wd_wide ?_
  refine rl_q rfl rfl rfl (v_loadn (vs := [(Value.int .i64 g), (Value.slice Ag lg cg)]) rfl Try.underlying24 rfl info_24 ⟨Row.cell rB (i := 0) rfl, Row.cell rB (i := 1) rfl, trivial⟩) ?_
  refine rl_q rfl rfl rfl (v_move (v := (Value.int .i64 q)) rfl) ?_
  refine rl_n rfl rfl rfl rfl (n_call0 rfl (am2 rfl rfl) enter_71 (h.mono ?_))
  rintro _ w3 ⟨r2, rfl, hk, h⟩
  replace rB := rB.kp hk
  refine ⟨_, rfl, Stb.none _, ?_⟩
  refine rl_q rfl rfl rfl (v_assign (v := (Value.int .i64 r2)) rfl) ?_
  refine rl_end ?_
  refine wt_seq ?_
  refine wl_region wd_wide ?_
  refine rl_q rfl rfl rfl (v_move (v := (Value.int .i64 r2)) rfl) ?_
  refine rl_q rfl rfl rfl (v_neq rfl rfl) ?_
  refine rl_end ?_
  by_cases hp : r2 = 0
  · replace h := h.1 hp
    refine wt_cond_f (congrArg Value.bool (congrArg Bool.not (decide_eq_true hp))) ?_
    refine wt_skip ?_
    refine wt_seq ?_
    refine wl_region wd_wide ?_
    refine rl_q rfl rfl rfl (v_move (v := (Value.slice Ad ld cd)) rfl) ?_
    refine rl_q rfl rfl rfl (v_faddr rfl Try.underlying24 rfl info_3) ?_
    refine rl_q rfl rfl rfl (v_load rfl Try.underlying3 rfl (Row.cell rB (i := 0) rfl)) ?_
    refine rl_n rfl rfl rfl rfl (n_call0 rfl (am2 rfl rfl) enter_26 (h.mono ?_))
    rintro _ w4 ⟨r3, rfl, hk2, h⟩
    replace rB := rB.kp hk2
    refine ⟨_, rfl, Stb.none _, ?_⟩
    refine rl_q rfl rfl rfl (v_assign (v := (Value.int .i64 r3)) rfl) ?_
    refine rl_end ?_
    exact wt_ret1 rfl rfl ⟨_, rfl, h⟩
  · replace h := h.2 hp
    refine wt_cond_t (congrArg Value.bool (congrArg Bool.not (decide_eq_false hp))) ?_
    refine wt_seq ?_
    refine wl_region wd_wide ?_
    refine rl_q rfl rfl rfl (v_move (v := (Value.int .i64 r2)) rfl) ?_
    refine rl_q rfl rfl rfl (v_assign (v := (Value.int .i64 r2)) rfl) ?_
    refine rl_end ?_
    exact wt_ret1 rfl rfl ⟨_, rfl, h⟩

/-- sandpile/sandpileref34.Debt: what its code does. -/
def sh_r34_Debt (Ad : Option Addr) (ld : Nat) (cd : Nat) (q : Int) (w : World) (R : Bool → World → Prop) : Prop :=
(∃ I2 : Nat → Int → World → Prop, (∃ m0, I2 m0 0 w) ∧ ∀ (m1 : Nat) (v : Int) (w2 : World), I2 m1 v w2 → 
((v < ((ld : Nat) : Int) →
((v = q →
(In64 (v + 1) ∧
∃ m2, m2 < m1 ∧ I2 m2 (v + 1) w2)) ∧
(¬ (v = q) →
(Ix Ad ld v ∧
(∃ x : Int, w2.cell? (ixA Ad v 1) = some (Value.int .i64 x) ∧
((x < 0 →
R true w2) ∧
(¬ (x < 0) →
(In64 (v + 1) ∧
∃ m3, m3 < m1 ∧ I2 m3 (v + 1) w2)))))))) ∧
(¬ (v < ((ld : Nat) : Int)) →
R false w2)))
theorem ok_r34_Debt (Ad : Option Addr) (ld : Nat) (cd : Nat) (q : Int) (w : World) (R : Bool → World → Prop) (h : sh_r34_Debt Ad ld cd q w R) :
    Calls Try.prog 28 #[(Value.slice Ad ld cd), (Value.int .i64 q)] w fun e w' => ∃ r : Bool, e = .returned (Value.bool (r)) ∧ R r w' := by
  unfold sh_r34_Debt at h
  refine calls_sh (l := [(Value.slice Ad ld cd), (Value.int .i64 q)]) Try.func28 rfl Try.ntmps28 (Nat.le_of_ble_eq_true rfl) ?_
  refine wt_seq ?_
  refine wl_region wd_wide ?_
  refine rl_q rfl rfl rfl (v_assign (v := (Value.bool (false))) rfl) ?_
  refine rl_end ?_
  refine wt_seq ?_
  refine wt_seq ?_
  refine wl_region wd_wide ?_
  refine rl_q rfl rfl rfl (v_assign (v := (Value.int .i64 0)) rfl) ?_
  refine rl_end ?_
  refine wt_block ?_
  obtain ⟨I2, ⟨m0, h0⟩, hr⟩ := h
  refine wt_loop (fun m E ds w' => ∃ v : Int, I2 m v w' ∧ ds = [] ∧ E 0 = (Value.slice Ad ld cd) ∧ E 1 = (Value.int .i64 q) ∧ E 5 = (Value.int .i64 v)) m0 ⟨_, h0, rfl, rfl, rfl, rfl⟩ ?_
  clear h0
  rintro m1 E ds w2 ⟨v, h, rfl, hE0, hE1, hE5⟩ again
  replace h := hr m1 v w2 h
  clear hr
  refine wt_seq ?_
  refine wt_seq ?_
  refine wl_region wd_wide ?_
  refine rl_q rfl rfl rfl (v_move (v := (Value.int .i64 v)) hE5) ?_
  refine rl_q rfl rfl rfl (v_move (v := (Value.slice Ad ld cd)) hE0) ?_
  refine rl_q rfl rfl rfl (v_len rfl Try.underlying25) ?_
  refine rl_q rfl rfl rfl (v_lss rfl rfl) ?_
  refine rl_end ?_
  by_cases hp : v < ((ld : Nat) : Int)
  · replace h := h.1 hp
    refine wt_cond_t (congrArg Value.bool (decide_eq_true hp)) ?_
    refine wt_skip ?_
    refine wt_seq ?_
    refine wt_block ?_
    refine wt_seq ?_
    refine wl_region wd_wide ?_
    refine rl_q rfl rfl rfl (v_move (v := (Value.int .i64 v)) hE5) ?_
    refine rl_q rfl rfl rfl (v_move (v := (Value.int .i64 q)) hE1) ?_
    refine rl_q rfl rfl rfl (v_neq rfl rfl) ?_
    refine rl_q rfl rfl rfl (v_move (v := (Value.bool (!(decide (v = q))))) rfl) ?_
    by_cases hp2 : v = q
    · replace h := h.1 hp2
      refine rl_p (wanted_n rfl (yE_of rfl (congrArg Value.bool (congrArg Bool.not (decide_eq_true hp2)))) rfl) rfl ?_
      refine rl_p (wanted_n rfl (yE_of rfl (congrArg Value.bool (congrArg Bool.not (decide_eq_true hp2)))) rfl) rfl ?_
      refine rl_p (wanted_n rfl (yE_of rfl (congrArg Value.bool (congrArg Bool.not (decide_eq_true hp2)))) rfl) rfl ?_
      refine rl_p (wanted_n rfl (yE_of rfl (congrArg Value.bool (congrArg Bool.not (decide_eq_true hp2)))) rfl) rfl ?_
      refine rl_p (wanted_n rfl (yE_of rfl (congrArg Value.bool (congrArg Bool.not (decide_eq_true hp2)))) rfl) rfl ?_
      refine rl_q rfl rfl rfl (v_pick_f (v := (Value.bool (false))) (congrArg Value.bool (congrArg Bool.not (decide_eq_true hp2))) rfl) ?_
      refine rl_end ?_
      refine wt_cond_f rfl ?_
      refine wt_skip ?_
      refine wt_inBlock ?_
      refine wl_region wd_wide ?_
      refine rl_q rfl rfl rfl (v_move (v := (Value.int .i64 v)) hE5) ?_
      obtain ⟨hi, h⟩ := h
      refine rl_q rfl rfl rfl (v_add rfl rfl hi) ?_
      refine rl_q rfl rfl rfl (v_assign (v := (Value.int .i64 (v + 1))) rfl) ?_
      refine rl_end ?_
      obtain ⟨mq, hlt, h⟩ := h
      exact again mq _ _ _ ⟨_, h, rfl, hE0, hE1, rfl⟩ hlt
    · replace h := h.2 hp2
      refine rl_q (wanted_g rfl (yE_of rfl (congrArg Value.bool (congrArg Bool.not (decide_eq_false hp2))))) rfl rfl (v_move (v := (Value.slice Ad ld cd)) hE0) ?_
      refine rl_q (wanted_g rfl (yE_of rfl (congrArg Value.bool (congrArg Bool.not (decide_eq_false hp2))))) rfl rfl (v_move (v := (Value.int .i64 v)) hE5) ?_
      obtain ⟨hx, h⟩ := h
      refine rl_q (wanted_g rfl (yE_of rfl (congrArg Value.bool (congrArg Bool.not (decide_eq_false hp2))))) rfl rfl (v_iaddr rfl rfl Try.underlying25 info_3 hx) ?_
      obtain ⟨x, hc, h⟩ := h
      refine rl_q (wanted_g rfl (yE_of rfl (congrArg Value.bool (congrArg Bool.not (decide_eq_false hp2))))) rfl rfl (v_load rfl Try.underlying3 rfl hc) ?_
      refine rl_q (wanted_g rfl (yE_of rfl (congrArg Value.bool (congrArg Bool.not (decide_eq_false hp2))))) rfl rfl (v_lss rfl rfl) ?_
      refine rl_q rfl rfl rfl (v_pick_t (v := (Value.bool (decide (x < 0)))) (congrArg Value.bool (congrArg Bool.not (decide_eq_false hp2))) rfl) ?_
      refine rl_end ?_
      by_cases hp3 : x < 0
      · replace h := h.1 hp3
        refine wt_cond_t (congrArg Value.bool (decide_eq_true hp3)) ?_
        refine wt_seq ?_
        refine wl_region wd_wide ?_
        refine rl_q rfl rfl rfl (v_assign (v := (Value.bool (true))) rfl) ?_
        refine rl_end ?_
        exact wt_ret1 rfl rfl ⟨_, rfl, h⟩
      · replace h := h.2 hp3
        refine wt_cond_f (congrArg Value.bool (decide_eq_false hp3)) ?_
        refine wt_skip ?_
        refine wt_inBlock ?_
        refine wl_region wd_wide ?_
        refine rl_q rfl rfl rfl (v_move (v := (Value.int .i64 v)) hE5) ?_
        obtain ⟨hi2, h⟩ := h
        refine rl_q rfl rfl rfl (v_add rfl rfl hi2) ?_
        refine rl_q rfl rfl rfl (v_assign (v := (Value.int .i64 (v + 1))) rfl) ?_
        refine rl_end ?_
        obtain ⟨mq, hlt, h⟩ := h
        exact again mq _ _ _ ⟨_, h, rfl, hE0, hE1, rfl⟩ hlt
  · replace h := h.2 hp
    refine wt_cond_f (congrArg Value.bool (decide_eq_false hp)) ?_
    refine wt_exit rfl ?_
    refine wt_seq ?_
    refine wl_region wd_wide ?_
    refine rl_q rfl rfl rfl (v_assign (v := (Value.bool (false))) rfl) ?_
    refine rl_end ?_
    exact wt_ret1 rfl rfl ⟨_, rfl, h⟩

/-- sandpile/sandpileref34.Is: what its code does. -/
def sh_r34_Is (g : Int) (Ag : Option Addr) (lg : Nat) (cg : Nat) (q : Int) (Ad : Option Addr) (ld : Nat) (cd : Nat) (w : World) (R : Bool → World → Prop) : Prop :=
(∀ (g2 : Nat) (w2 : World), New w g2 w2 #[(Value.int .i64 g), (Value.slice Ag lg cg)] 24 →
(Calls Try.prog 28 #[(Value.slice Ad ld cd), (Value.int .i64 q)] w2 fun e w3 => ∃ r2 : Bool, e = .returned (Value.bool (r2)) ∧
Kp w2 w3 g2 ∧
((r2 = true →
R false w3) ∧
(¬ (r2 = true) →
(Calls Try.prog 124 #[(Value.agg #[(Value.int .i64 g), (Value.slice Ag lg cg)]), (Value.int .i64 q), (Value.slice Ad ld cd)] w3 fun e w4 => ∃ r3 : Bool, e = .returned (Value.bool (r3)) ∧
Kp w3 w4 g2 ∧
R r3 w4)))))
theorem ok_r34_Is (g : Int) (Ag : Option Addr) (lg : Nat) (cg : Nat) (q : Int) (Ad : Option Addr) (ld : Nat) (cd : Nat) (w : World) (R : Bool → World → Prop) (h : sh_r34_Is g Ag lg cg q Ad ld cd w R) :
    Calls Try.prog 77 #[(Value.agg #[(Value.int .i64 g), (Value.slice Ag lg cg)]), (Value.int .i64 q), (Value.slice Ad ld cd)] w fun e w' => ∃ r : Bool, e = .returned (Value.bool (r)) ∧ R r w' := by
  unfold sh_r34_Is at h
  refine calls_sh (l := [(Value.agg #[(Value.int .i64 g), (Value.slice Ag lg cg)]), (Value.int .i64 q), (Value.slice Ad ld cd)]) Try.func77 rfl Try.ntmps77 (Nat.le_of_ble_eq_true rfl) ?_
  refine wt_seq ?_
  refine wl_region wd_wide ?_
  refine rl_n rfl rfl rfl rfl (n_box (v := (Value.agg #[(Value.int .i64 g), (Value.slice Ag lg cg)])) rfl ?_)
  intro g2 w2 hN
  replace h := h g2 w2 hN
  have rB : Row w2 g2 24 2 [(Value.int .i64 g), (Value.slice Ag lg cg)] := hN.row
  clear hN
  refine ⟨Stb.none _, ?_⟩
  refine rl_q rfl rfl rfl (v_assign (v := (Value.bool (false))) rfl) ?_
  refine rl_end ?_
  refine wt_seq ?_
  refine wl_region wd_wide ?_
  refine rl_q rfl rfl rfl (v_move (v := (Value.slice Ad ld cd)) rfl) ?_
  refine rl_q rfl rfl rfl (v_move (v := (Value.int .i64 q)) rfl) ?_
  refine rl_n rfl rfl rfl rfl (n_call0 rfl (am2 rfl rfl) enter_28 (h.mono ?_))
  rintro _ w3 ⟨r2, rfl, hk, h⟩
  replace rB := rB.kp hk
  refine ⟨_, rfl, Stb.none _, ?_⟩
  refine rl_q rfl rfl rfl (v_not rfl) ?_
  refine rl_q rfl rfl rfl (v_move (v := (Value.bool (!(r2)))) rfl) ?_
  by_cases hp : r2 = true
  · replace h := h.1 hp
    refine rl_p (wanted_n rfl (yE_of rfl (congrArg Value.bool (congrArg Bool.not hp))) rfl) rfl ?_
    refine rl_p (wanted_n rfl (yE_of rfl (congrArg Value.bool (congrArg Bool.not hp))) rfl) rfl ?_
    refine rl_p (wanted_n rfl (yE_of rfl (congrArg Value.bool (congrArg Bool.not hp))) rfl) rfl ?_
    refine rl_p (wanted_n rfl (yE_of rfl (congrArg Value.bool (congrArg Bool.not hp))) rfl) rfl ?_
    refine rl_q rfl rfl rfl (v_pick_f (v := (Value.bool (false))) (congrArg Value.bool (congrArg Bool.not hp)) rfl) ?_
    refine rl_q rfl rfl rfl (v_assign (v := (Value.bool (false))) rfl) ?_
    refine rl_end ?_
    exact wt_ret1 rfl rfl ⟨_, rfl, h⟩
  · replace h := h.2 hp
    refine rl_q (wanted_g rfl (yE_of rfl (congrArg Value.bool (congrArg Bool.not (Bool.eq_false_iff.2 hp))))) rfl rfl (v_loadn (vs := [(Value.int .i64 g), (Value.slice Ag lg cg)]) rfl Try.underlying24 rfl info_24 ⟨Row.cell rB (i := 0) rfl, Row.cell rB (i := 1) rfl, trivial⟩) ?_
    refine rl_q (wanted_g rfl (yE_of rfl (congrArg Value.bool (congrArg Bool.not (Bool.eq_false_iff.2 hp))))) rfl rfl (v_move (v := (Value.int .i64 q)) rfl) ?_
    refine rl_q (wanted_g rfl (yE_of rfl (congrArg Value.bool (congrArg Bool.not (Bool.eq_false_iff.2 hp))))) rfl rfl (v_move (v := (Value.slice Ad ld cd)) rfl) ?_
    refine rl_n (wanted_g rfl (yE_of rfl (congrArg Value.bool (congrArg Bool.not (Bool.eq_false_iff.2 hp))))) rfl rfl rfl (n_call0 rfl (am3 rfl rfl rfl) enter_124 (h.mono ?_))
    rintro _ w4 ⟨r3, rfl, hk2, h⟩
    replace rB := rB.kp hk2
    refine ⟨_, rfl, Stb.none _, ?_⟩
    refine rl_q rfl rfl rfl (v_pick_t (v := (Value.bool (r3))) (congrArg Value.bool (congrArg Bool.not (Bool.eq_false_iff.2 hp))) rfl) ?_
    refine rl_q rfl rfl rfl (v_assign (v := (Value.bool (r3))) rfl) ?_
    refine rl_end ?_
    exact wt_ret1 rfl rfl ⟨_, rfl, h⟩

/-- sandpile/sandpileref34.IsReduced: what its code does. -/
def sh_r34_IsReduced (g : Int) (Ag : Option Addr) (lg : Nat) (cg : Nat) (q : Int) (Ad : Option Addr) (ld : Nat) (cd : Nat) (w : World) (R : Bool → Int → World → Prop) : Prop :=
(∀ (g2 : Nat) (w2 : World), New w g2 w2 #[(Value.int .i64 g), (Value.slice Ag lg cg)] 24 →
(Calls Try.prog 24 #[(Value.agg #[(Value.int .i64 g), (Value.slice Ag lg cg)]), (Value.int .i64 q), (Value.slice Ad ld cd)] w2 fun e w3 => ∃ r3 : Int, e = .returned (Value.int .i64 r3) ∧
Kp w2 w3 g2 ∧
((r3 = 0 →
(Calls Try.prog 77 #[(Value.agg #[(Value.int .i64 g), (Value.slice Ag lg cg)]), (Value.int .i64 q), (Value.slice Ad ld cd)] w3 fun e w4 => ∃ r4 : Bool, e = .returned (Value.bool (r4)) ∧
Kp w3 w4 g2 ∧
R r4 0 w4)) ∧
(¬ (r3 = 0) →
R false r3 w3))))
theorem ok_r34_IsReduced (g : Int) (Ag : Option Addr) (lg : Nat) (cg : Nat) (q : Int) (Ad : Option Addr) (ld : Nat) (cd : Nat) (w : World) (R : Bool → Int → World → Prop) (h : sh_r34_IsReduced g Ag lg cg q Ad ld cd w R) :
    Calls Try.prog 30 #[(Value.agg #[(Value.int .i64 g), (Value.slice Ag lg cg)]), (Value.int .i64 q), (Value.slice Ad ld cd)] w fun e w' => ∃ r : Bool, ∃ r2 : Int, e = .returned (Value.tuple #[(Value.bool (r)), (Value.int .i64 r2)]) ∧ R r r2 w' := by
  unfold sh_r34_IsReduced at h
  refine calls_sh (l := [(Value.agg #[(Value.int .i64 g), (Value.slice Ag lg cg)]), (Value.int .i64 q), (Value.slice Ad ld cd)]) Try.func30 rfl Try.ntmps30 (Nat.le_of_ble_eq_true rfl) ?_
  refine wt_seq ?_
  refine wl_region wd_wide ?_
  refine rl_n rfl rfl rfl rfl (n_box (v := (Value.agg #[(Value.int .i64 g), (Value.slice Ag lg cg)])) rfl ?_)
  intro g2 w2 hN
  replace h := h g2 w2 hN
  have rB : Row w2 g2 24 2 [(Value.int .i64 g), (Value.slice Ag lg cg)] := hN.row
  clear hN
  refine ⟨Stb.none _, ?_⟩
  refine rl_q rfl rfl rfl (v_assign (v := (Value.bool (false))) rfl) ?_
  refine rl_q rfl rfl rfl (v_assign (v := (Value.int .i64 0)) rfl) ?_
  refine rl_end ?_
  refine wt_seq ?_
  refine wt_seq ?_
  refine wl_region wd_wide ?_
  refine rl_q rfl rfl rfl (v_loadn (vs := [(Value.int .i64 g), (Value.slice Ag lg cg)]) rfl Try.underlying24 rfl info_24 ⟨Row.cell rB (i := 0) rfl, Row.cell rB (i := 1) rfl, trivial⟩) ?_
  refine rl_q rfl rfl rfl (v_move (v := (Value.int .i64 q)) rfl) ?_
  refine rl_q rfl rfl rfl (v_move (v := (Value.slice Ad ld cd)) rfl) ?_
  refine rl_n rfl rfl rfl rfl (n_call0 rfl (am3 rfl rfl rfl) enter_24 (h.mono ?_))
  rintro _ w3 ⟨r3, rfl, hk, h⟩
  replace rB := rB.kp hk
  refine ⟨_, rfl, Stb.none _, ?_⟩
  refine rl_q rfl rfl rfl (v_assign (v := (Value.int .i64 r3)) rfl) ?_
  refine rl_end ?_
  refine wt_seq ?_
  refine wl_region wd_wide ?_
  refine rl_q rfl rfl rfl (v_move (v := (Value.int .i64 r3)) rfl) ?_
  refine rl_q rfl rfl rfl (v_neq rfl rfl) ?_
  refine rl_end ?_
  by_cases hp : r3 = 0
  · replace h := h.1 hp
    refine wt_cond_f (congrArg Value.bool (congrArg Bool.not (decide_eq_true hp))) ?_
    refine wt_skip ?_
    refine wt_seq ?_
    refine wl_region wd_wide ?_
    refine rl_q rfl rfl rfl (v_loadn (vs := [(Value.int .i64 g), (Value.slice Ag lg cg)]) rfl Try.underlying24 rfl info_24 ⟨Row.cell rB (i := 0) rfl, Row.cell rB (i := 1) rfl, trivial⟩) ?_
    refine rl_q rfl rfl rfl (v_move (v := (Value.int .i64 q)) rfl) ?_
    refine rl_q rfl rfl rfl (v_move (v := (Value.slice Ad ld cd)) rfl) ?_
    refine rl_n rfl rfl rfl rfl (n_call0 rfl (am3 rfl rfl rfl) enter_77 (h.mono ?_))
    rintro _ w4 ⟨r4, rfl, hk2, h⟩
    replace rB := rB.kp hk2
    refine ⟨_, rfl, Stb.none _, ?_⟩
    refine rl_q rfl rfl rfl (v_assign (v := (Value.bool (r4))) rfl) ?_
    refine rl_q rfl rfl rfl (v_assign (v := (Value.int .i64 0)) rfl) ?_
    refine rl_end ?_
    exact wt_ret2 rfl rfl rfl ⟨_, _, rfl, h⟩
  · replace h := h.2 hp
    refine wt_cond_t (congrArg Value.bool (congrArg Bool.not (decide_eq_false hp))) ?_
    refine wt_seq ?_
    refine wl_region wd_wide ?_
    refine rl_q rfl rfl rfl (v_move (v := (Value.int .i64 r3)) rfl) ?_
    refine rl_q rfl rfl rfl (v_assign (v := (Value.bool (false))) rfl) ?_
    refine rl_q rfl rfl rfl (v_assign (v := (Value.int .i64 r3)) rfl) ?_
    refine rl_end ?_
    exact wt_ret2 rfl rfl rfl ⟨_, _, rfl, h⟩

/-- sandpile/sandpileref34.Left: what its code does. -/
def sh_r34_Left (g : Int) (Ag : Option Addr) (lg : Nat) (cg : Nat) (q : Int) (Ad : Option Addr) (ld : Nat) (cd : Nat) (w : World) (R : Option Addr → Nat → Nat → World → Prop) : Prop :=
(∀ (g2 : Nat) (w2 : World), New w g2 w2 #[(Value.int .i64 g), (Value.slice Ag lg cg)] 24 →
(∃ I2 : Nat → Int → Int → World → Prop, (∃ m0, I2 m0 0 0 w2) ∧ ∀ (m1 : Nat) (all : Int) (set : Int) (w3 : World), I2 m1 all set w3 → 
((0 ≤ g ∧ g < 64) ∧
In64 (1 * 2 ^ g.toNat) ∧
((set < (1 * 2 ^ g.toNat) →
((0 ≤ q ∧ q < 64) ∧
((0 ≤ (set / 2 ^ q.toNat) ∧ (set / 2 ^ q.toNat) < 9223372036854775808 ∧ 0 ≤ (1 : Int) ∧ (1 : Int) < 9223372036854775808) ∧
(((((set / 2 ^ q.toNat).toNat &&& (1 : Int).toNat : Nat) : Int) = 0 →
(Calls Try.prog 125 #[(Value.agg #[(Value.int .i64 g), (Value.slice Ag lg cg)]), (Value.slice Ad ld cd), (Value.int .i64 set)] w3 fun e w4 => ∃ r : Bool, e = .returned (Value.bool (r)) ∧
Kp w3 w4 g2 ∧
((r = true →
((0 ≤ all ∧ all < 9223372036854775808 ∧ 0 ≤ set ∧ set < 9223372036854775808) ∧
(In64 (set + 1) ∧
∃ m2, m2 < m1 ∧ I2 m2 ((all.toNat ||| set.toNat : Nat) : Int) (set + 1) w4))) ∧
(¬ (r = true) →
(In64 (set + 1) ∧
∃ m3, m3 < m1 ∧ I2 m3 all (set + 1) w4))))) ∧
(¬ ((((set / 2 ^ q.toNat).toNat &&& (1 : Int).toNat : Nat) : Int) = 0) →
(In64 (set + 1) ∧
∃ m4, m4 < m1 ∧ I2 m4 all (set + 1) w3)))))) ∧
(¬ (set < (1 * 2 ^ g.toNat)) →
(∃ I3 : Nat → Option Addr → Nat → Nat → Int → World → Prop, (∃ m0, I3 m0 none 0 0 0 w3) ∧ ∀ (m5 : Nat) (Aout : Option Addr) (lout : Nat) (cout : Nat) (v : Int) (w5 : World), I3 m5 Aout lout cout v w5 → 
((v < g →
((0 ≤ v ∧ v < 64) ∧
((0 ≤ (all / 2 ^ v.toNat) ∧ (all / 2 ^ v.toNat) < 9223372036854775808 ∧ 0 ≤ (1 : Int) ∧ (1 : Int) < 9223372036854775808) ∧
(((((all / 2 ^ v.toNat).toNat &&& (1 : Int).toNat : Nat) : Int) = 1 →
(∀ (g3 : Nat) (w6 : World), New w5 g3 w6 #[(Value.int .i64 v)] 3 →
(∃ (B : Nat) (xs nw : List Value) (ad : Addr), OwnS w6 B 3 1 Aout lout cout xs ∧ (some ⟨g3, 0, none⟩) = some ad ∧ nw.length = 1 * 1 ∧ (∀ j u, nw[j]? = some u → w6.cell? (ad.add j) = some u) ∧ (∀ u ∈ nw, u.oneCell' = true) ∧ lout + 1 ≤ maxLen ∧ (lout + 1) * 8 ≤ 140737488355328 ∧ B ≤ w6.heap.size ∧
∀ A c w7, OwnS w7 B 3 1 A (lout + 1) c (xs ++ nw) → w6.grownBy w7 (Option.map Addr.block Aout) → (Option.map Addr.block A = Option.map Addr.block Aout ∨ Option.map Addr.block A = some w6.heap.size) →
Kp w6 w7 g2 ∧
(In64 (v + 1) ∧
∃ m6, m6 < m5 ∧ I3 m6 A (lout + 1) c (v + 1) w7)))) ∧
(¬ ((((all / 2 ^ v.toNat).toNat &&& (1 : Int).toNat : Nat) : Int) = 1) →
(In64 (v + 1) ∧
∃ m7, m7 < m5 ∧ I3 m7 Aout lout cout (v + 1) w5)))))) ∧
(¬ (v < g) →
R Aout lout cout w5))))))))
theorem ok_r34_Left (g : Int) (Ag : Option Addr) (lg : Nat) (cg : Nat) (q : Int) (Ad : Option Addr) (ld : Nat) (cd : Nat) (w : World) (R : Option Addr → Nat → Nat → World → Prop) (h : sh_r34_Left g Ag lg cg q Ad ld cd w R) :
    Calls Try.prog 78 #[(Value.agg #[(Value.int .i64 g), (Value.slice Ag lg cg)]), (Value.int .i64 q), (Value.slice Ad ld cd)] w fun e w' => ∃ Ar : Option Addr, ∃ lr : Nat, ∃ cr : Nat, e = .returned (Value.slice Ar lr cr) ∧ R Ar lr cr w' := by
  unfold sh_r34_Left at h
  refine calls_sh (l := [(Value.agg #[(Value.int .i64 g), (Value.slice Ag lg cg)]), (Value.int .i64 q), (Value.slice Ad ld cd)]) Try.func78 rfl Try.ntmps78 (Nat.le_of_ble_eq_true rfl) ?_
  refine wt_seq ?_
  refine wl_region wd_wide ?_
  refine rl_n rfl rfl rfl rfl (n_box (v := (Value.agg #[(Value.int .i64 g), (Value.slice Ag lg cg)])) rfl ?_)
  intro g2 w2 hN
  replace h := h g2 w2 hN
  have rB : Row w2 g2 24 2 [(Value.int .i64 g), (Value.slice Ag lg cg)] := hN.row
  clear hN
  refine ⟨Stb.none _, ?_⟩
  refine rl_q rfl rfl rfl (v_assign (v := (Value.slice none 0 0)) rfl) ?_
  refine rl_end ?_
  refine wt_seq ?_
  refine wl_region wd_wide ?_
  refine rl_q rfl rfl rfl (v_assign (v := (Value.int .i64 0)) rfl) ?_
  refine rl_end ?_
  refine wt_seq ?_
  refine wt_seq ?_
  refine wl_region wd_wide ?_
  refine rl_q rfl rfl rfl (v_assign (v := (Value.int .i64 0)) rfl) ?_
  refine rl_end ?_
  refine wt_block ?_
  obtain ⟨I2, ⟨m0, h0⟩, hr⟩ := h
  refine wt_loop (fun m E ds w' => ∃ all : Int, ∃ set : Int, I2 m all set w' ∧ ds = [] ∧ E 1 = (Value.int .i64 q) ∧ E 2 = (Value.slice Ad ld cd) ∧ E 3 = (Value.pointer (some (⟨g2, 0, none⟩ : Addr))) ∧ E 7 = (Value.int .i64 all) ∧ E 8 = (Value.int .i64 set) ∧ Row w' g2 24 2 [(Value.int .i64 g), (Value.slice Ag lg cg)]) m0 ⟨_, _, h0, rfl, rfl, rfl, rfl, rfl, rfl, rB⟩ ?_
  clear h0
  rintro m1 E ds w3 ⟨all, set, h, rfl, hE1, hE2, hE3, hE7, hE8, rB⟩ again
  replace h := hr m1 all set w3 h
  clear hr
  refine wt_seq ?_
  refine wt_seq ?_
  refine wl_region wd_wide ?_
  refine rl_q rfl rfl rfl (v_move (v := (Value.int .i64 set)) hE8) ?_
  refine rl_q rfl rfl rfl (v_faddr hE3 Try.underlying24 rfl info_3) ?_
  refine rl_q rfl rfl rfl (v_load rfl Try.underlying3 rfl (Row.cell rB (i := 0) rfl)) ?_
  obtain ⟨hz, h⟩ := h
  obtain ⟨hi, h⟩ := h
  refine rl_q rfl rfl rfl (v_shl rfl rfl hz hi) ?_
  refine rl_q rfl rfl rfl (v_lss rfl rfl) ?_
  refine rl_end ?_
  by_cases hp : set < (1 * 2 ^ g.toNat)
  · replace h := h.1 hp
    refine wt_cond_t (congrArg Value.bool (decide_eq_true hp)) ?_
    refine wt_skip ?_
    refine wt_seq ?_
    refine wt_block ?_
    refine wt_seq ?_
    refine wl_region wd_wide ?_
    refine rl_q rfl rfl rfl (v_move (v := (Value.int .i64 set)) hE8) ?_
    refine rl_q rfl rfl rfl (v_move (v := (Value.int .i64 q)) hE1) ?_
    obtain ⟨hz2, h⟩ := h
    refine rl_q rfl rfl rfl (v_shr rfl rfl hz2) ?_
    obtain ⟨hz3, h⟩ := h
    refine rl_q rfl rfl rfl (v_andb rfl rfl hz3) ?_
    refine rl_q rfl rfl rfl (v_eql rfl rfl) ?_
    refine rl_q rfl rfl rfl (v_move (v := (Value.bool (decide ((((set / 2 ^ q.toNat).toNat &&& (1 : Int).toNat : Nat) : Int) = 0)))) rfl) ?_
    by_cases hp2 : (((set / 2 ^ q.toNat).toNat &&& (1 : Int).toNat : Nat) : Int) = 0
    · replace h := h.1 hp2
      refine rl_q (wanted_g rfl (yE_of rfl (congrArg Value.bool (decide_eq_true hp2)))) rfl rfl (v_loadn (vs := [(Value.int .i64 g), (Value.slice Ag lg cg)]) hE3 Try.underlying24 rfl info_24 ⟨Row.cell rB (i := 0) rfl, Row.cell rB (i := 1) rfl, trivial⟩) ?_
      refine rl_q (wanted_g rfl (yE_of rfl (congrArg Value.bool (decide_eq_true hp2)))) rfl rfl (v_move (v := (Value.slice Ad ld cd)) hE2) ?_
      refine rl_q (wanted_g rfl (yE_of rfl (congrArg Value.bool (decide_eq_true hp2)))) rfl rfl (v_move (v := (Value.int .i64 set)) hE8) ?_
      refine rl_n (wanted_g rfl (yE_of rfl (congrArg Value.bool (decide_eq_true hp2)))) rfl rfl rfl (n_call0 rfl (am3 rfl rfl rfl) enter_125 (h.mono ?_))
      rintro _ w4 ⟨r, rfl, hk, h⟩
      replace rB := rB.kp hk
      refine ⟨_, rfl, Stb.none _, ?_⟩
      refine rl_q rfl rfl rfl (v_pick_t (v := (Value.bool (r))) (congrArg Value.bool (decide_eq_true hp2)) rfl) ?_
      refine rl_end ?_
      by_cases hp3 : r = true
      · replace h := h.1 hp3
        refine wt_cond_t (congrArg Value.bool hp3) ?_
        refine wl_region wd_wide ?_
        refine rl_q rfl rfl rfl (v_move (v := (Value.int .i64 all)) hE7) ?_
        refine rl_q rfl rfl rfl (v_move (v := (Value.int .i64 set)) hE8) ?_
        obtain ⟨hz4, h⟩ := h
        refine rl_q rfl rfl rfl (v_orb rfl rfl hz4) ?_
        refine rl_q rfl rfl rfl (v_assign (v := (Value.int .i64 ((all.toNat ||| set.toNat : Nat) : Int))) rfl) ?_
        refine rl_end ?_
        refine wt_inBlock ?_
        refine wl_region wd_wide ?_
        refine rl_q rfl rfl rfl (v_move (v := (Value.int .i64 set)) hE8) ?_
        obtain ⟨hi2, h⟩ := h
        refine rl_q rfl rfl rfl (v_add rfl rfl hi2) ?_
        refine rl_q rfl rfl rfl (v_assign (v := (Value.int .i64 (set + 1))) rfl) ?_
        refine rl_end ?_
        obtain ⟨mq, hlt, h⟩ := h
        exact again mq _ _ _ ⟨_, _, h, rfl, hE1, hE2, hE3, rfl, rfl, rB⟩ hlt
      · replace h := h.2 hp3
        refine wt_cond_f (congrArg Value.bool (Bool.eq_false_iff.2 hp3)) ?_
        refine wt_skip ?_
        refine wt_inBlock ?_
        refine wl_region wd_wide ?_
        refine rl_q rfl rfl rfl (v_move (v := (Value.int .i64 set)) hE8) ?_
        obtain ⟨hi3, h⟩ := h
        refine rl_q rfl rfl rfl (v_add rfl rfl hi3) ?_
        refine rl_q rfl rfl rfl (v_assign (v := (Value.int .i64 (set + 1))) rfl) ?_
        refine rl_end ?_
        obtain ⟨mq, hlt, h⟩ := h
        exact again mq _ _ _ ⟨_, _, h, rfl, hE1, hE2, hE3, hE7, rfl, rB⟩ hlt
    · replace h := h.2 hp2
      refine rl_p (wanted_n rfl (yE_of rfl (congrArg Value.bool (decide_eq_false hp2))) rfl) rfl ?_
      refine rl_p (wanted_n rfl (yE_of rfl (congrArg Value.bool (decide_eq_false hp2))) rfl) rfl ?_
      refine rl_p (wanted_n rfl (yE_of rfl (congrArg Value.bool (decide_eq_false hp2))) rfl) rfl ?_
      refine rl_p (wanted_n rfl (yE_of rfl (congrArg Value.bool (decide_eq_false hp2))) rfl) rfl ?_
      refine rl_q rfl rfl rfl (v_pick_f (v := (Value.bool (false))) (congrArg Value.bool (decide_eq_false hp2)) rfl) ?_
      refine rl_end ?_
      refine wt_cond_f rfl ?_
      refine wt_skip ?_
      refine wt_inBlock ?_
      refine wl_region wd_wide ?_
      refine rl_q rfl rfl rfl (v_move (v := (Value.int .i64 set)) hE8) ?_
      obtain ⟨hi4, h⟩ := h
      refine rl_q rfl rfl rfl (v_add rfl rfl hi4) ?_
      refine rl_q rfl rfl rfl (v_assign (v := (Value.int .i64 (set + 1))) rfl) ?_
      refine rl_end ?_
      obtain ⟨mq, hlt, h⟩ := h
      exact again mq _ _ _ ⟨_, _, h, rfl, hE1, hE2, hE3, hE7, rfl, rB⟩ hlt
  · replace h := h.2 hp
    refine wt_cond_f (congrArg Value.bool (decide_eq_false hp)) ?_
    refine wt_exit rfl ?_
    refine wt_seq ?_
    refine wl_region wd_wide ?_
    refine rl_q rfl rfl rfl (v_assign (v := (Value.slice none 0 0)) rfl) ?_
    refine rl_end ?_
    refine wt_seq ?_
    refine wt_seq ?_
    refine wl_region wd_wide ?_
    refine rl_q rfl rfl rfl (v_assign (v := (Value.int .i64 0)) rfl) ?_
    refine rl_end ?_
    refine wt_block ?_
    obtain ⟨I3, ⟨m0, h0⟩, hr⟩ := h
    refine wt_loop (fun m E ds w' => ∃ Aout : Option Addr, ∃ lout : Nat, ∃ cout : Nat, ∃ v : Int, I3 m Aout lout cout v w' ∧ ds = [] ∧ E 3 = (Value.pointer (some (⟨g2, 0, none⟩ : Addr))) ∧ E 7 = (Value.int .i64 all) ∧ E 9 = (Value.slice Aout lout cout) ∧ E 10 = (Value.int .i64 v) ∧ Row w' g2 24 2 [(Value.int .i64 g), (Value.slice Ag lg cg)]) m0 ⟨_, _, _, _, h0, rfl, hE3, hE7, rfl, rfl, rB⟩ ?_
    clear h0
    rintro m5 E ds w5 ⟨Aout, lout, cout, v, h, rfl, hE3, hE7, hE9, hE10, rB⟩ again2
    replace h := hr m5 Aout lout cout v w5 h
    clear hr
    refine wt_seq ?_
    refine wt_seq ?_
    refine wl_region wd_wide ?_
    refine rl_q rfl rfl rfl (v_move (v := (Value.int .i64 v)) hE10) ?_
    refine rl_q rfl rfl rfl (v_faddr hE3 Try.underlying24 rfl info_3) ?_
    refine rl_q rfl rfl rfl (v_load rfl Try.underlying3 rfl (Row.cell rB (i := 0) rfl)) ?_
    refine rl_q rfl rfl rfl (v_lss rfl rfl) ?_
    refine rl_end ?_
    by_cases hp4 : v < g
    · replace h := h.1 hp4
      refine wt_cond_t (congrArg Value.bool (decide_eq_true hp4)) ?_
      refine wt_skip ?_
      refine wt_seq ?_
      refine wt_block ?_
      refine wt_seq ?_
      refine wl_region wd_wide ?_
      refine rl_q rfl rfl rfl (v_move (v := (Value.int .i64 all)) hE7) ?_
      refine rl_q rfl rfl rfl (v_move (v := (Value.int .i64 v)) hE10) ?_
      obtain ⟨hz5, h⟩ := h
      refine rl_q rfl rfl rfl (v_shr rfl rfl hz5) ?_
      obtain ⟨hz6, h⟩ := h
      refine rl_q rfl rfl rfl (v_andb rfl rfl hz6) ?_
      refine rl_q rfl rfl rfl (v_eql rfl rfl) ?_
      refine rl_end ?_
      by_cases hp5 : (((all / 2 ^ v.toNat).toNat &&& (1 : Int).toNat : Nat) : Int) = 1
      · replace h := h.1 hp5
        refine wt_cond_t (congrArg Value.bool (decide_eq_true hp5)) ?_
        refine wl_region wd_wide ?_
        refine rl_q rfl rfl rfl (v_move (v := (Value.slice Aout lout cout)) hE9) ?_
        refine rl_q rfl rfl rfl (v_move (v := (Value.int .i64 v)) hE10) ?_
        refine rl_n rfl rfl rfl rfl (n_bslice (l := [(0, (Value.int .i64 v))]) (cells := [(Value.int .i64 v)]) (bp1 rfl) Try.underlying25 info_3 rfl rfl ?_)
        intro g3 w6 hN2
        replace h := h g3 w6 hN2
        replace rB := rB.kp (hN2.kp _)
        clear hN2
        refine ⟨Stb.none _, ?_⟩
        obtain ⟨B, xs, nw, ad, q1, q2, q3, q4, q5, q6, q7, q8, h⟩ := h
        refine rl_n rfl rfl rfl rfl (n_append rfl rfl Try.underlying25 info_3 rfl ⟨B, xs, nw, ad, q1, q2, q3, q4, q5, q6, q7, q8, ?_⟩)
        intro A c w7 q9 q10 q11
        replace h := h A c w7 q9 q10 q11
        clear q1 q2 q3 q4 q5 q6 q7 q8 q9 q10 q11
        obtain ⟨hk2, h⟩ := h
        replace rB := rB.kp hk2
        refine ⟨Stb.none _, ?_⟩
        refine rl_q rfl rfl rfl (v_assign (v := (Value.slice A (lout + 1) c)) rfl) ?_
        refine rl_end ?_
        refine wt_inBlock ?_
        refine wl_region wd_wide ?_
        refine rl_q rfl rfl rfl (v_move (v := (Value.int .i64 v)) hE10) ?_
        obtain ⟨hi5, h⟩ := h
        refine rl_q rfl rfl rfl (v_add rfl rfl hi5) ?_
        refine rl_q rfl rfl rfl (v_assign (v := (Value.int .i64 (v + 1))) rfl) ?_
        refine rl_end ?_
        obtain ⟨mq, hlt, h⟩ := h
        exact again2 mq _ _ _ ⟨_, _, _, _, h, rfl, hE3, hE7, rfl, rfl, rB⟩ hlt
      · replace h := h.2 hp5
        refine wt_cond_f (congrArg Value.bool (decide_eq_false hp5)) ?_
        refine wt_skip ?_
        refine wt_inBlock ?_
        refine wl_region wd_wide ?_
        refine rl_q rfl rfl rfl (v_move (v := (Value.int .i64 v)) hE10) ?_
        obtain ⟨hi6, h⟩ := h
        refine rl_q rfl rfl rfl (v_add rfl rfl hi6) ?_
        refine rl_q rfl rfl rfl (v_assign (v := (Value.int .i64 (v + 1))) rfl) ?_
        refine rl_end ?_
        obtain ⟨mq, hlt, h⟩ := h
        exact again2 mq _ _ _ ⟨_, _, _, _, h, rfl, hE3, hE7, hE9, rfl, rB⟩ hlt
    · replace h := h.2 hp4
      refine wt_cond_f (congrArg Value.bool (decide_eq_false hp4)) ?_
      refine wt_exit rfl ?_
      refine wt_seq ?_
      refine wl_region wd_wide ?_
      refine rl_q rfl rfl rfl (v_move (v := (Value.slice Aout lout cout)) hE9) ?_
      refine rl_q rfl rfl rfl (v_assign (v := (Value.slice Aout lout cout)) rfl) ?_
      refine rl_end ?_
      exact wt_ret1 rfl rfl ⟨_, _, _, rfl, h⟩

/-- sandpile/sandpileref34.Unburnt: what its code does. -/
def sh_r34_Unburnt (g : Int) (Ag : Option Addr) (lg : Nat) (cg : Nat) (q : Int) (Ad : Option Addr) (ld : Nat) (cd : Nat) (w : World) (R : Option Addr → Nat → Nat → Int → World → Prop) : Prop :=
(∀ (g2 : Nat) (w2 : World), New w g2 w2 #[(Value.int .i64 g), (Value.slice Ag lg cg)] 24 →
(Calls Try.prog 24 #[(Value.agg #[(Value.int .i64 g), (Value.slice Ag lg cg)]), (Value.int .i64 q), (Value.slice Ad ld cd)] w2 fun e w3 => ∃ r2 : Int, e = .returned (Value.int .i64 r2) ∧
Kp w2 w3 g2 ∧
((r2 = 0 →
(Calls Try.prog 28 #[(Value.slice Ad ld cd), (Value.int .i64 q)] w3 fun e w4 => ∃ r3 : Bool, e = .returned (Value.bool (r3)) ∧
Kp w3 w4 g2 ∧
((r3 = true →
R none 0 0 15 w4) ∧
(¬ (r3 = true) →
(Calls Try.prog 78 #[(Value.agg #[(Value.int .i64 g), (Value.slice Ag lg cg)]), (Value.int .i64 q), (Value.slice Ad ld cd)] w4 fun e w5 => ∃ Ar2 : Option Addr, ∃ lr2 : Nat, ∃ cr2 : Nat, e = .returned (Value.slice Ar2 lr2 cr2) ∧
Kp w4 w5 g2 ∧
R Ar2 lr2 cr2 0 w5))))) ∧
(¬ (r2 = 0) →
R none 0 0 r2 w3))))
theorem ok_r34_Unburnt (g : Int) (Ag : Option Addr) (lg : Nat) (cg : Nat) (q : Int) (Ad : Option Addr) (ld : Nat) (cd : Nat) (w : World) (R : Option Addr → Nat → Nat → Int → World → Prop) (h : sh_r34_Unburnt g Ag lg cg q Ad ld cd w R) :
    Calls Try.prog 32 #[(Value.agg #[(Value.int .i64 g), (Value.slice Ag lg cg)]), (Value.int .i64 q), (Value.slice Ad ld cd)] w fun e w' => ∃ Ar : Option Addr, ∃ lr : Nat, ∃ cr : Nat, ∃ r : Int, e = .returned (Value.tuple #[(Value.slice Ar lr cr), (Value.int .i64 r)]) ∧ R Ar lr cr r w' := by
  unfold sh_r34_Unburnt at h
  refine calls_sh (l := [(Value.agg #[(Value.int .i64 g), (Value.slice Ag lg cg)]), (Value.int .i64 q), (Value.slice Ad ld cd)]) Try.func32 rfl Try.ntmps32 (Nat.le_of_ble_eq_true rfl) ?_
  refine wt_seq ?_
  refine wl_region wd_wide ?_
  refine rl_n rfl rfl rfl rfl (n_box (v := (Value.agg #[(Value.int .i64 g), (Value.slice Ag lg cg)])) rfl ?_)
  intro g2 w2 hN
  replace h := h g2 w2 hN
  have rB : Row w2 g2 24 2 [(Value.int .i64 g), (Value.slice Ag lg cg)] := hN.row
  clear hN
  refine ⟨Stb.none _, ?_⟩
  refine rl_q rfl rfl rfl (v_assign (v := (Value.slice none 0 0)) rfl) ?_
  refine rl_q rfl rfl rfl (v_assign (v := (Value.int .i64 0)) rfl) ?_
  refine rl_end ?_
  refine wt_seq ?_
  refine wt_seq ?_
  refine wl_region wd_wide ?_
  refine rl_q rfl rfl rfl (v_loadn (vs := [(Value.int .i64 g), (Value.slice Ag lg cg)]) rfl Try.underlying24 rfl info_24 ⟨Row.cell rB (i := 0) rfl, Row.cell rB (i := 1) rfl, trivial⟩) ?_
  refine rl_q rfl rfl rfl (v_move (v := (Value.int .i64 q)) rfl) ?_
  refine rl_q rfl rfl rfl (v_move (v := (Value.slice Ad ld cd)) rfl) ?_
  refine rl_n rfl rfl rfl rfl (n_call0 rfl (am3 rfl rfl rfl) enter_24 (h.mono ?_))
  rintro _ w3 ⟨r2, rfl, hk, h⟩
  replace rB := rB.kp hk
  refine ⟨_, rfl, Stb.none _, ?_⟩
  refine rl_q rfl rfl rfl (v_assign (v := (Value.int .i64 r2)) rfl) ?_
  refine rl_end ?_
  refine wt_seq ?_
  refine wl_region wd_wide ?_
  refine rl_q rfl rfl rfl (v_move (v := (Value.int .i64 r2)) rfl) ?_
  refine rl_q rfl rfl rfl (v_neq rfl rfl) ?_
  refine rl_end ?_
  by_cases hp : r2 = 0
  · replace h := h.1 hp
    refine wt_cond_f (congrArg Value.bool (congrArg Bool.not (decide_eq_true hp))) ?_
    refine wt_skip ?_
    refine wt_seq ?_
    refine wt_seq ?_
    refine wl_region wd_wide ?_
    refine rl_q rfl rfl rfl (v_move (v := (Value.slice Ad ld cd)) rfl) ?_
    refine rl_q rfl rfl rfl (v_move (v := (Value.int .i64 q)) rfl) ?_
    refine rl_n rfl rfl rfl rfl (n_call0 rfl (am2 rfl rfl) enter_28 (h.mono ?_))
    rintro _ w4 ⟨r3, rfl, hk2, h⟩
    replace rB := rB.kp hk2
    refine ⟨_, rfl, Stb.none _, ?_⟩
    refine rl_end ?_
    by_cases hp2 : r3 = true
    · replace h := h.1 hp2
      refine wt_cond_t (congrArg Value.bool hp2) ?_
      refine wt_seq ?_
      refine wl_region wd_wide ?_
      refine rl_q rfl rfl rfl (v_assign (v := (Value.slice none 0 0)) rfl) ?_
      refine rl_q rfl rfl rfl (v_assign (v := (Value.int .i64 15)) rfl) ?_
      refine rl_end ?_
      exact wt_ret2 rfl rfl rfl ⟨_, _, _, _, rfl, h⟩
    · replace h := h.2 hp2
      refine wt_cond_f (congrArg Value.bool (Bool.eq_false_iff.2 hp2)) ?_
      refine wt_skip ?_
      refine wt_seq ?_
      refine wl_region wd_wide ?_
      refine rl_q rfl rfl rfl (v_loadn (vs := [(Value.int .i64 g), (Value.slice Ag lg cg)]) rfl Try.underlying24 rfl info_24 ⟨Row.cell rB (i := 0) rfl, Row.cell rB (i := 1) rfl, trivial⟩) ?_
      refine rl_q rfl rfl rfl (v_move (v := (Value.int .i64 q)) rfl) ?_
      refine rl_q rfl rfl rfl (v_move (v := (Value.slice Ad ld cd)) rfl) ?_
      refine rl_n rfl rfl rfl rfl (n_call0 rfl (am3 rfl rfl rfl) enter_78 (h.mono ?_))
      rintro _ w5 ⟨Ar2, lr2, cr2, rfl, hk3, h⟩
      replace rB := rB.kp hk3
      refine ⟨_, rfl, Stb.none _, ?_⟩
      refine rl_q rfl rfl rfl (v_assign (v := (Value.slice Ar2 lr2 cr2)) rfl) ?_
      refine rl_q rfl rfl rfl (v_assign (v := (Value.int .i64 0)) rfl) ?_
      refine rl_end ?_
      exact wt_ret2 rfl rfl rfl ⟨_, _, _, _, rfl, h⟩
  · replace h := h.2 hp
    refine wt_cond_t (congrArg Value.bool (congrArg Bool.not (decide_eq_false hp))) ?_
    refine wt_seq ?_
    refine wl_region wd_wide ?_
    refine rl_q rfl rfl rfl (v_move (v := (Value.int .i64 r2)) rfl) ?_
    refine rl_q rfl rfl rfl (v_assign (v := (Value.slice none 0 0)) rfl) ?_
    refine rl_q rfl rfl rfl (v_assign (v := (Value.int .i64 r2)) rfl) ?_
    refine rl_end ?_
    exact wt_ret2 rfl rfl rfl ⟨_, _, _, _, rfl, h⟩

/-- sandpile/sandpileref34.Few: what its code does. -/
def sh_r34_Few (g : Int) (Ag : Option Addr) (lg : Nat) (cg : Nat) (w : World) (R : Bool → World → Prop) : Prop :=
(∀ (g2 : Nat) (w2 : World), New w g2 w2 #[(Value.int .i64 g), (Value.slice Ag lg cg)] 24 →
(Calls Try.prog 61 #[(Value.agg #[(Value.int .i64 g), (Value.slice Ag lg cg)])] w2 fun e w3 => ∃ r2 : Bool, e = .returned (Value.bool (r2)) ∧
Kp w2 w3 g2 ∧
R r2 w3))
theorem ok_r34_Few (g : Int) (Ag : Option Addr) (lg : Nat) (cg : Nat) (w : World) (R : Bool → World → Prop) (h : sh_r34_Few g Ag lg cg w R) :
    Calls Try.prog 14 #[(Value.agg #[(Value.int .i64 g), (Value.slice Ag lg cg)])] w fun e w' => ∃ r : Bool, e = .returned (Value.bool (r)) ∧ R r w' := by
  unfold sh_r34_Few at h
  refine calls_sh (l := [(Value.agg #[(Value.int .i64 g), (Value.slice Ag lg cg)])]) Try.func14 rfl Try.ntmps14 (Nat.le_of_ble_eq_true rfl) ?_
  refine wt_seq ?_
  refine wl_region wd_wide ?_
  refine rl_n rfl rfl rfl rfl (n_box (v := (Value.agg #[(Value.int .i64 g), (Value.slice Ag lg cg)])) rfl ?_)
  intro g2 w2 hN
  replace h := h g2 w2 hN
  have rB : Row w2 g2 24 2 [(Value.int .i64 g), (Value.slice Ag lg cg)] := hN.row
  clear hN
  refine ⟨Stb.none _, ?_⟩
  refine rl_q rfl rfl rfl (v_assign (v := (Value.bool (false))) rfl) ?_
  refine rl_end ?_
  refine wt_seq ?_
  refine wl_region wd_wide ?_
  refine rl_q rfl rfl rfl (v_loadn (vs := [(Value.int .i64 g), (Value.slice Ag lg cg)]) rfl Try.underlying24 rfl info_24 ⟨Row.cell rB (i := 0) rfl, Row.cell rB (i := 1) rfl, trivial⟩) ?_
  refine rl_n rfl rfl rfl rfl (n_call0 rfl (am1 rfl) enter_61 (h.mono ?_))
  rintro _ w3 ⟨r2, rfl, hk, h⟩
  replace rB := rB.kp hk
  refine ⟨_, rfl, Stb.none _, ?_⟩
  refine rl_q rfl rfl rfl (v_assign (v := (Value.bool (r2))) rfl) ?_
  refine rl_end ?_
  exact wt_ret1 rfl rfl ⟨_, rfl, h⟩
end Go.Proofs.Ytnhmeckhlajeaaa
