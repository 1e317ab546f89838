/- Texts laid together: Pa, Pb, Pe, Pg, Pt. -/
import Derived.Test.YtbehbjfcenlaeaaK3
/- Pure forms of functions, made by program (pf.py), each with the proof that the code does so. -/
namespace Go.Proofs.Ytbehbjfcenlaeaa
open Go Go.RowKit Go.Shelf
set_option linter.unusedVariables false
set_option maxRecDepth 100000
set_option maxHeartbeats 1000000
/-- sandpile/sandpileref17.In: what it computes. -/
def pf_r17_In (k : Int) (R : Bool → Prop) : Prop :=
(((-1048576) ≤ k →
R (decide (k ≤ 1048576))) ∧
(¬ ((-1048576) ≤ k) →
R false))
theorem pok_r17_In {O : Nat → Prop} {w : World} {k : Int} {R : Bool → Prop} (h : pf_r17_In k R) (hO : ∀ k, O k → k < w.heap.size) :
    Calls Try.prog 111 #[(Value.int .i64 k)] w fun e w' => ∃ r : Bool, e = .returned (Value.bool (r)) ∧ Sep w no O w' (rl []) ∧ R r := by
  unfold pf_r17_In at h
  have hS : Sep w no O w (rl []) := Sep.start w hO
  refine calls_sh (l := [(Value.int .i64 k)]) Try.func111 rfl Try.ntmps111 (Nat.le_of_ble_eq_true rfl) ?_
  refine wt_seq ?_
  refine wl_region wd_wide ?_
  refine rl_q rfl rfl rfl (v_assign (v := (Value.bool (false))) rfl) ?_
  refine rl_end ?_
  refine wt_seq ?_
  refine wl_region wd_wide ?_
  refine rl_q rfl rfl rfl (v_move (v := (Value.int .i64 k)) rfl) ?_
  refine rl_q rfl rfl rfl (v_geq rfl rfl) ?_
  refine rl_q rfl rfl rfl (v_move (v := (Value.bool (decide ((-1048576) ≤ k)))) rfl) ?_
  by_cases hp : (-1048576) ≤ k
  · replace h := h.1 hp
    refine rl_q (wanted_g rfl (yE_of rfl (congrArg Value.bool (decide_eq_true hp)))) rfl rfl (v_move (v := (Value.int .i64 k)) rfl) ?_
    refine rl_q (wanted_g rfl (yE_of rfl (congrArg Value.bool (decide_eq_true hp)))) rfl rfl (v_leq rfl rfl) ?_
    refine rl_q rfl rfl rfl (v_pick_t (v := (Value.bool (decide (k ≤ 1048576)))) (congrArg Value.bool (decide_eq_true hp)) rfl) ?_
    refine rl_q rfl rfl rfl (v_assign (v := (Value.bool (decide (k ≤ 1048576)))) rfl) ?_
    refine rl_end ?_
    exact wt_ret1 rfl rfl ⟨_, rfl, (hS.sel [] (by decide)), h⟩
  · replace h := h.2 hp
    refine rl_p (wanted_n rfl (yE_of rfl (congrArg Value.bool (decide_eq_false hp))) rfl) rfl ?_
    refine rl_p (wanted_n rfl (yE_of rfl (congrArg Value.bool (decide_eq_false hp))) rfl) rfl ?_
    refine rl_q rfl rfl rfl (v_pick_f (v := (Value.bool (false))) (congrArg Value.bool (decide_eq_false hp)) rfl) ?_
    refine rl_q rfl rfl rfl (v_assign (v := (Value.bool (false))) rfl) ?_
    refine rl_end ?_
    exact wt_ret1 rfl rfl ⟨_, rfl, (hS.sel [] (by decide)), h⟩

/-- sandpile/sandpileref17.Check: what it computes. -/
def pf_r17_Check (d : List Int) (n : Int) (R : Int → Prop) : Prop :=
(∃ J2 : Prop, (J2 → ((((d.length : Nat) : Int) = n →
(∃ I2 : Nat → Int → Prop, (∃ m0, I2 m0 0) ∧ ∀ (m2 : Nat) (v : Int), I2 m2 v → 
((v < n →
((0 ≤ v ∧ v < ((d.length : Nat) : Int)) ∧
pf_r17_In (gi d v.toNat) (fun (r : Bool) =>
((r = true →
(In64 (v + 1) ∧
∃ m3, m3 < m2 ∧ I2 m3 (v + 1))) ∧
(¬ (r = true) →
R 2))))) ∧
(¬ (v < n) →
R 0)))) ∧
(¬ (((d.length : Nat) : Int) = n) →
R 8))) ∧
((n < 1 →
R 2) ∧
(¬ (n < 1) →
((12 < n →
R 2) ∧
(¬ (12 < n) →
J2)))))
theorem pok_r17_Check {O : Nat → Prop} {w : World} {d : List Int} {n : Int} {Ad : Option Addr} {ld : Nat} {cd : Nat} {R : Int → Prop} (h : pf_r17_Check d n R) (hO : ∀ k, O k → k < w.heap.size) (a0 : (FP.sl cI Ad ld cd d).P O w) :
    Calls Try.prog 57 #[(Value.slice Ad ld cd), (Value.int .i64 n)] w fun e w' => ∃ r2 : Int, e = .returned (Value.int .i64 r2) ∧ Sep w no O w' (rl []) ∧ R r2 := by
  unfold pf_r17_Check at h
  have hS : Sep w no O w (rl [Res.ro (FP.sl cI Ad ld cd d)]) := Sep.startl hO [(FP.sl cI Ad ld cd d)] ⟨a0, trivial⟩
  refine calls_sh (l := [(Value.slice Ad ld cd), (Value.int .i64 n)]) Try.func57 rfl Try.ntmps57 (Nat.le_of_ble_eq_true rfl) ?_
  refine wt_seq ?_
  refine wl_region wd_wide ?_
  refine rl_q rfl rfl rfl (v_assign (v := (Value.int .i64 0)) rfl) ?_
  refine rl_end ?_
  refine wt_seq ?_
  refine wt_seq ?_
  obtain ⟨J2, hJ, h⟩ := h
  refine wt_cutT1 (fun E ds w' => J2 ∧ ds = [] ∧ E 0 = (Value.slice Ad ld cd) ∧ E 1 = (Value.int .i64 n) ∧ Sep w no O w' (rl [Res.ro (FP.sl cI Ad ld cd d)])) ?_ ?_
  · clear h hS
    rintro E ds w2 ⟨h, rfl, hE0, hE1, hS⟩
    replace h := hJ h
    refine wt_seq ?_
    refine wt_seq ?_
    refine wl_region wd_wide ?_
    refine rl_q rfl rfl rfl (v_move (v := (Value.slice Ad ld cd)) hE0) ?_
    refine rl_q rfl rfl rfl (v_lenx (n := d.length) rfl Try.underlying26 (rd_len (hS.rdr 0 rfl))) ?_
    refine rl_q rfl rfl rfl (v_move (v := (Value.int .i64 n)) hE1) ?_
    refine rl_q rfl rfl rfl (v_neq rfl rfl) ?_
    refine rl_end ?_
    by_cases hp : ((d.length : Nat) : Int) = n
    · replace h := h.1 hp
      refine wt_cond_f (congrArg Value.bool (congrArg Bool.not (decide_eq_true hp))) ?_
      refine wt_skip ?_
      refine wt_seq ?_
      refine wt_seq ?_
      refine wl_region wd_wide ?_
      refine rl_q rfl rfl rfl (v_assign (v := (Value.int .i64 0)) rfl) ?_
      refine rl_end ?_
      refine wt_block ?_
      obtain ⟨I2, ⟨m0, h0⟩, hr⟩ := h
      refine wt_loop (fun m E ds w' => ∃ v : Int, I2 m v ∧ ds = [] ∧ E 0 = (Value.slice Ad ld cd) ∧ E 1 = (Value.int .i64 n) ∧ E 5 = (Value.int .i64 v) ∧ Sep w no O w' (rl [Res.ro (FP.sl cI Ad ld cd d)])) m0 ⟨_, h0, rfl, hE0, hE1, rfl, (hS.sel [0] (by decide))⟩ ?_
      clear h0 hS
      rintro m2 E ds w3 ⟨v, h, rfl, hE0, hE1, hE5, hS⟩ again
      replace h := hr m2 v h
      clear hr
      refine wt_seq ?_
      refine wt_seq ?_
      refine wl_region wd_wide ?_
      refine rl_q rfl rfl rfl (v_move (v := (Value.int .i64 v)) hE5) ?_
      refine rl_q rfl rfl rfl (v_move (v := (Value.int .i64 n)) hE1) ?_
      refine rl_q rfl rfl rfl (v_lss rfl rfl) ?_
      refine rl_end ?_
      by_cases hp2 : v < n
      · replace h := h.1 hp2
        refine wt_cond_t (congrArg Value.bool (decide_eq_true hp2)) ?_
        refine wt_skip ?_
        refine wt_seq ?_
        refine wt_block ?_
        refine wt_seq ?_
        refine wl_region wd_wide ?_
        refine rl_q rfl rfl rfl (v_move (v := (Value.slice Ad ld cd)) hE0) ?_
        refine rl_q rfl rfl rfl (v_move (v := (Value.int .i64 v)) hE5) ?_
        obtain ⟨hx, h⟩ := h
        refine rl_q rfl rfl rfl (v_iaddr rfl rfl Try.underlying26 info_3 (rd_ix (hS.rdr 0 rfl) hx)) ?_
        refine rl_q rfl rfl rfl (v_load (v := (Value.int .i64 (gi d v.toNat))) rfl Try.underlying3 rfl (rd_1 (hS.rdr 0 rfl) hx (fun q => gi_some q) rfl)) ?_
        refine rl_n rfl rfl rfl rfl (n_call0 rfl (am1 rfl) enter_111 ((pok_r17_In h (no_lt _)).mono ?_))
        rintro _ w4 ⟨r, rfl, hC, h⟩
        replace hS := hS.pur hC.pure
        clear hC
        refine ⟨_, rfl, ?_⟩
        refine ⟨Stb.none _, ?_⟩
        refine rl_q rfl rfl rfl (v_not rfl) ?_
        refine rl_end ?_
        by_cases hp3 : r = true
        · replace h := h.1 hp3
          refine wt_cond_f (congrArg Value.bool (congrArg Bool.not hp3)) ?_
          refine wt_skip ?_
          refine wt_inBlock ?_
          refine wl_region wd_wide ?_
          refine rl_q rfl rfl rfl (v_move (v := (Value.int .i64 v)) hE5) ?_
          obtain ⟨hi, h⟩ := h
          refine rl_q rfl rfl rfl (v_add rfl rfl hi) ?_
          refine rl_q rfl rfl rfl (v_assign (v := (Value.int .i64 (v + 1))) rfl) ?_
          refine rl_end ?_
          obtain ⟨mq, hlt, h⟩ := h
          exact again mq _ _ _ ⟨_, h, rfl, hE0, hE1, rfl, (hS.sel [0] (by decide))⟩ hlt
        · replace h := h.2 hp3
          refine wt_cond_t (congrArg Value.bool (congrArg Bool.not (Bool.eq_false_iff.2 hp3))) ?_
          refine wt_seq ?_
          refine wl_region wd_wide ?_
          refine rl_q rfl rfl rfl (v_assign (v := (Value.int .i64 2)) rfl) ?_
          refine rl_end ?_
          exact wt_ret1 rfl rfl ⟨_, rfl, (hS.sel [] (by decide)), h⟩
      · replace h := h.2 hp2
        refine wt_cond_f (congrArg Value.bool (decide_eq_false hp2)) ?_
        refine wt_exit rfl ?_
        refine wt_seq ?_
        refine wl_region wd_wide ?_
        refine rl_q rfl rfl rfl (v_assign (v := (Value.int .i64 0)) rfl) ?_
        refine rl_end ?_
        exact wt_ret1 rfl rfl ⟨_, rfl, (hS.sel [] (by decide)), h⟩
    · replace h := h.2 hp
      refine wt_cond_t (congrArg Value.bool (congrArg Bool.not (decide_eq_false hp))) ?_
      refine wt_seq ?_
      refine wl_region wd_wide ?_
      refine rl_q rfl rfl rfl (v_assign (v := (Value.int .i64 8)) rfl) ?_
      refine rl_end ?_
      exact wt_ret1 rfl rfl ⟨_, rfl, (hS.sel [] (by decide)), h⟩
  clear hJ
  intro j
  refine wl_region wd_wide ?_
  refine rl_q rfl rfl rfl (v_move (v := (Value.int .i64 n)) rfl) ?_
  refine rl_q rfl rfl rfl (v_lss rfl rfl) ?_
  refine rl_q rfl rfl rfl (v_move (v := (Value.bool (decide (n < 1)))) rfl) ?_
  by_cases hp4 : n < 1
  · replace h := h.1 hp4
    refine rl_p (wanted_n rfl (yE_of rfl (congrArg Value.bool (decide_eq_true hp4))) rfl) rfl ?_
    refine rl_p (wanted_n rfl (yE_of rfl (congrArg Value.bool (decide_eq_true hp4))) rfl) rfl ?_
    refine rl_q rfl rfl rfl (v_pick_t (v := (Value.bool (true))) (congrArg Value.bool (decide_eq_true hp4)) rfl) ?_
    refine rl_end ?_
    refine wt_cond_t rfl ?_
    refine wt_seq ?_
    refine wl_region wd_wide ?_
    refine rl_q rfl rfl rfl (v_assign (v := (Value.int .i64 2)) rfl) ?_
    refine rl_end ?_
    exact wt_ret1 rfl rfl ⟨_, rfl, (hS.sel [] (by decide)), h⟩
  · replace h := h.2 hp4
    refine rl_q (wanted_g rfl (yE_of rfl (congrArg Value.bool (decide_eq_false hp4)))) rfl rfl (v_move (v := (Value.int .i64 n)) rfl) ?_
    refine rl_q (wanted_g rfl (yE_of rfl (congrArg Value.bool (decide_eq_false hp4)))) rfl rfl (v_gtr rfl rfl) ?_
    refine rl_q rfl rfl rfl (v_pick_f (v := (Value.bool (decide (12 < n)))) (congrArg Value.bool (decide_eq_false hp4)) rfl) ?_
    refine rl_end ?_
    by_cases hp5 : 12 < n
    · replace h := h.1 hp5
      refine wt_cond_t (congrArg Value.bool (decide_eq_true hp5)) ?_
      refine wt_seq ?_
      refine wl_region wd_wide ?_
      refine rl_q rfl rfl rfl (v_assign (v := (Value.int .i64 2)) rfl) ?_
      refine rl_end ?_
      exact wt_ret1 rfl rfl ⟨_, rfl, (hS.sel [] (by decide)), h⟩
    · replace h := h.2 hp5
      refine wt_cond_f (congrArg Value.bool (decide_eq_false hp5)) ?_
      refine wt_skip ?_
      exact j _ _ _ ⟨h, rfl, rfl, rfl, (hS.sel [0] (by decide))⟩

/-- sandpile/sandpileref08.Vertex: what it computes. -/
def pf_r08_Vertex (g : Int) (g2 : List (Int × Int × Int)) (v : Int) (R : Bool → Prop) : Prop :=
((0 ≤ v →
R (decide (v < g))) ∧
(¬ (0 ≤ v) →
R false))
theorem pok_r08_Vertex {O : Nat → Prop} {w : World} {g : Int} {g2 : List (Int × Int × Int)} {v : Int} {Ag : Option Addr} {lg : Nat} {cg : Nat} {R : Bool → Prop} (h : pf_r08_Vertex g g2 v R) (hO : ∀ k, O k → k < w.heap.size) (a0 : (FP.sl c3 Ag lg cg g2).P O w) :
    Calls Try.prog 75 #[(Value.agg #[(Value.int .i64 g), (Value.slice Ag lg cg)]), (Value.int .i64 v)] w fun e w' => ∃ r : Bool, e = .returned (Value.bool (r)) ∧ Sep w no O w' (rl []) ∧ R r := by
  unfold pf_r08_Vertex at h
  have hS : Sep w no O w (rl [Res.ro (FP.sl c3 Ag lg cg g2)]) := Sep.startl hO [(FP.sl c3 Ag lg cg g2)] ⟨a0, trivial⟩
  refine calls_sh (l := [(Value.agg #[(Value.int .i64 g), (Value.slice Ag lg cg)]), (Value.int .i64 v)]) Try.func75 rfl Try.ntmps75 (Nat.le_of_ble_eq_true rfl) ?_
  refine wt_seq ?_
  refine wl_region wd_wide ?_
  refine rl_n rfl rfl rfl rfl (n_box (v := (Value.agg #[(Value.int .i64 g), (Value.slice Ag lg cg)])) rfl ?_)
  intro g3 w2 hN
  replace hS : Sep w no O w2 (stl _ 1 (Res.box 24 g3 [(Value.int .i64 g), (Value.slice Ag lg cg)])) := hS.new 1 rfl hN
  clear hN
  refine ⟨Stb.none _, ?_⟩
  refine rl_q rfl rfl rfl (v_assign (v := (Value.bool (false))) rfl) ?_
  refine rl_end ?_
  refine wt_seq ?_
  refine wl_region wd_wide ?_
  refine rl_q rfl rfl rfl (v_move (v := (Value.int .i64 v)) rfl) ?_
  refine rl_q rfl rfl rfl (v_geq rfl rfl) ?_
  refine rl_q rfl rfl rfl (v_move (v := (Value.bool (decide (0 ≤ v)))) rfl) ?_
  by_cases hp : 0 ≤ v
  · replace h := h.1 hp
    refine rl_q (wanted_g rfl (yE_of rfl (congrArg Value.bool (decide_eq_true hp)))) rfl rfl (v_move (v := (Value.int .i64 v)) rfl) ?_
    refine rl_q (wanted_g rfl (yE_of rfl (congrArg Value.bool (decide_eq_true hp)))) rfl rfl (v_faddr rfl Try.underlying24 rfl info_3) ?_
    refine rl_q (wanted_g rfl (yE_of rfl (congrArg Value.bool (decide_eq_true hp)))) rfl rfl (v_load rfl Try.underlying3 rfl (Row.cell (hS.bx 1 rfl) (i := 0) rfl)) ?_
    refine rl_q (wanted_g rfl (yE_of rfl (congrArg Value.bool (decide_eq_true hp)))) rfl rfl (v_lss rfl rfl) ?_
    refine rl_q rfl rfl rfl (v_pick_t (v := (Value.bool (decide (v < g)))) (congrArg Value.bool (decide_eq_true hp)) rfl) ?_
    refine rl_q rfl rfl rfl (v_assign (v := (Value.bool (decide (v < g)))) rfl) ?_
    refine rl_end ?_
    exact wt_ret1 rfl rfl ⟨_, rfl, (hS.sel [] (by decide)), h⟩
  · replace h := h.2 hp
    refine rl_p (wanted_n rfl (yE_of rfl (congrArg Value.bool (decide_eq_false hp))) rfl) rfl ?_
    refine rl_p (wanted_n rfl (yE_of rfl (congrArg Value.bool (decide_eq_false hp))) rfl) rfl ?_
    refine rl_p (wanted_n rfl (yE_of rfl (congrArg Value.bool (decide_eq_false hp))) rfl) rfl ?_
    refine rl_p (wanted_n rfl (yE_of rfl (congrArg Value.bool (decide_eq_false hp))) rfl) rfl ?_
    refine rl_q rfl rfl rfl (v_pick_f (v := (Value.bool (false))) (congrArg Value.bool (decide_eq_false hp)) rfl) ?_
    refine rl_q rfl rfl rfl (v_assign (v := (Value.bool (false))) rfl) ?_
    refine rl_end ?_
    exact wt_ret1 rfl rfl ⟨_, rfl, (hS.sel [] (by decide)), h⟩

/-- sandpile/sandpileref08.Between: what it computes. -/
def pf_r08_Between (g : Int) (g2 : List (Int × Int × Int)) (a : Int) (b : Int) (R : Int → Prop) : Prop :=
(∃ I2 : Nat → Int → Prop, (∃ m0, I2 m0 0) ∧ ∀ (m2 : Nat) (i : Int), I2 m2 i → 
((i < ((g2.length : Nat) : Int) →
((0 ≤ i ∧ i < ((g2.length : Nat) : Int)) ∧
((((ge g2 i.toNat).1) = (mnF a b) →
((((ge g2 i.toNat).2.1) = (mxF a b) →
R ((ge g2 i.toNat).2.2)) ∧
(¬ (((ge g2 i.toNat).2.1) = (mxF a b)) →
(In64 (i + 1) ∧
∃ m3, m3 < m2 ∧ I2 m3 (i + 1))))) ∧
(¬ (((ge g2 i.toNat).1) = (mnF a b)) →
(In64 (i + 1) ∧
∃ m4, m4 < m2 ∧ I2 m4 (i + 1)))))) ∧
(¬ (i < ((g2.length : Nat) : Int)) →
R 0)))
theorem pok_r08_Between {O : Nat → Prop} {w : World} {g : Int} {g2 : List (Int × Int × Int)} {a : Int} {b : Int} {Ag : Option Addr} {lg : Nat} {cg : Nat} {R : Int → Prop} (h : pf_r08_Between g g2 a b R) (hO : ∀ k, O k → k < w.heap.size) (a0 : (FP.sl c3 Ag lg cg g2).P O w) :
    Calls Try.prog 125 #[(Value.agg #[(Value.int .i64 g), (Value.slice Ag lg cg)]), (Value.int .i64 a), (Value.int .i64 b)] w fun e w' => ∃ r : Int, e = .returned (Value.int .i64 r) ∧ Sep w no O w' (rl []) ∧ R r := by
  unfold pf_r08_Between at h
  have hS : Sep w no O w (rl [Res.ro (FP.sl c3 Ag lg cg g2)]) := Sep.startl hO [(FP.sl c3 Ag lg cg g2)] ⟨a0, trivial⟩
  refine calls_sh (l := [(Value.agg #[(Value.int .i64 g), (Value.slice Ag lg cg)]), (Value.int .i64 a), (Value.int .i64 b)]) Try.func125 rfl Try.ntmps125 (Nat.le_of_ble_eq_true rfl) ?_
  refine wt_seq ?_
  refine wl_region wd_wide ?_
  refine rl_n rfl rfl rfl rfl (n_box (v := (Value.agg #[(Value.int .i64 g), (Value.slice Ag lg cg)])) rfl ?_)
  intro g3 w2 hN
  replace hS : Sep w no O w2 (stl _ 1 (Res.box 24 g3 [(Value.int .i64 g), (Value.slice Ag lg cg)])) := hS.new 1 rfl hN
  clear hN
  refine ⟨Stb.none _, ?_⟩
  refine rl_q rfl rfl rfl (v_assign (v := (Value.int .i64 0)) rfl) ?_
  refine rl_end ?_
  refine wt_seq ?_
  refine wt_seq ?_
  refine wl_region wd_wide ?_
  refine rl_q rfl rfl rfl (v_assign (v := (Value.int .i64 0)) rfl) ?_
  refine rl_end ?_
  refine wt_block ?_
  obtain ⟨I2, ⟨m0, h0⟩, hr⟩ := h
  refine wt_loop (fun m E ds w' => ∃ i : Int, I2 m i ∧ ds = [] ∧ E 1 = (Value.int .i64 a) ∧ E 2 = (Value.int .i64 b) ∧ E 3 = (Value.pointer (some (⟨g3, 0, none⟩ : Addr))) ∧ E 7 = (Value.int .i64 i) ∧ Sep w no O w' (rl [Res.box 24 g3 [(Value.int .i64 g), (Value.slice Ag lg cg)], Res.ro (FP.sl c3 Ag lg cg g2)])) m0 ⟨_, h0, rfl, rfl, rfl, rfl, rfl, (hS.sel [1, 0] (by decide))⟩ ?_
  clear h0 hS
  rintro m2 E ds w3 ⟨i, h, rfl, hE1, hE2, hE3, hE7, hS⟩ again
  replace h := hr m2 i h
  clear hr
  refine wt_seq ?_
  refine wt_seq ?_
  refine wl_region wd_wide ?_
  refine rl_q rfl rfl rfl (v_move (v := (Value.int .i64 i)) hE7) ?_
  refine rl_q rfl rfl rfl (v_faddr hE3 Try.underlying24 rfl info_22) ?_
  refine rl_q rfl rfl rfl (v_load rfl Try.underlying22 rfl (Row.cell (hS.bx 0 rfl) (i := 1) rfl)) ?_
  refine rl_q rfl rfl rfl (v_lenx (n := g2.length) rfl Try.underlying22 (rd_len (hS.rdr 1 rfl))) ?_
  refine rl_q rfl rfl rfl (v_lss rfl rfl) ?_
  refine rl_end ?_
  by_cases hp : i < ((g2.length : Nat) : Int)
  · replace h := h.1 hp
    refine wt_cond_t (congrArg Value.bool (decide_eq_true hp)) ?_
    refine wt_skip ?_
    refine wt_seq ?_
    refine wt_block ?_
    refine wt_seq ?_
    refine wl_region wd_wide ?_
    refine rl_q rfl rfl rfl (v_faddr hE3 Try.underlying24 rfl info_22) ?_
    refine rl_q rfl rfl rfl (v_load rfl Try.underlying22 rfl (Row.cell (hS.bx 0 rfl) (i := 1) rfl)) ?_
    refine rl_q rfl rfl rfl (v_move (v := (Value.int .i64 i)) hE7) ?_
    obtain ⟨hx, h⟩ := h
    refine rl_q rfl rfl rfl (v_iaddr rfl rfl Try.underlying22 info_63 (rd_ix (hS.rdr 1 rfl) hx)) ?_
    refine rl_q rfl rfl rfl (v_loadn (vs := [(Value.int .i64 ((ge g2 i.toNat).1)), (Value.int .i64 ((ge g2 i.toNat).2.1)), (Value.int .i64 ((ge g2 i.toNat).2.2))]) rfl Try.underlying63 rfl info_63 (rd_fs (hS.rdr 1 rfl) hx (fun q => ge_some q))) ?_
    refine rl_n rfl rfl rfl rfl (n_alloc info_63 ?_)
    intro g4 w4 hN
    replace hS : Sep w no O w4 (stl _ 2 (Res.box 63 g4 [(Value.int .i64 0), (Value.int .i64 0), (Value.int .i64 0)])) := hS.new 2 rfl hN
    clear hN
    refine ⟨Stb.none _, ?_⟩
    refine rl_n0 rfl rfl rfl (n_storen (b := g4) (o := 0) (cells := #[(Value.int .i64 ((ge g2 i.toNat).1)), (Value.int .i64 ((ge g2 i.toNat).2.1)), (Value.int .i64 ((ge g2 i.toNat).2.2))]) rfl rfl info_63 rfl rfl (there_row (hS.bx 2 rfl) (Nat.le_of_ble_eq_true rfl)) ?_)
    intro w5 e1
    replace hS := hS.bstn 2 rfl 0 [(Value.int .i64 ((ge g2 i.toNat).1)), (Value.int .i64 ((ge g2 i.toNat).2.1)), (Value.int .i64 ((ge g2 i.toNat).2.2))] e1
    clear e1
    refine ⟨Stb.none _, ?_⟩
    refine rl_end ?_
    refine wt_seq ?_
    refine wl_region wd_wide ?_
    refine rl_q rfl rfl rfl (v_faddr rfl Try.underlying63 rfl info_3) ?_
    refine rl_q rfl rfl rfl (v_load rfl Try.underlying3 rfl (Row.cell (hS.bx 2 rfl) (i := 0) rfl)) ?_
    refine rl_q rfl rfl rfl (v_move (v := (Value.int .i64 a)) hE1) ?_
    refine rl_q rfl rfl rfl (v_move (v := (Value.int .i64 b)) hE2) ?_
    refine rl_q rfl rfl rfl (v_min2 rfl rfl) ?_
    refine rl_q rfl rfl rfl (v_eql rfl rfl) ?_
    refine rl_q rfl rfl rfl (v_move (v := (Value.bool (decide (((ge g2 i.toNat).1) = (mnF a b))))) rfl) ?_
    by_cases hp2 : ((ge g2 i.toNat).1) = (mnF a b)
    · replace h := h.1 hp2
      refine rl_q (wanted_g rfl (yE_of rfl (congrArg Value.bool (decide_eq_true hp2)))) rfl rfl (v_faddr rfl Try.underlying63 rfl info_3) ?_
      refine rl_q (wanted_g rfl (yE_of rfl (congrArg Value.bool (decide_eq_true hp2)))) rfl rfl (v_load rfl Try.underlying3 rfl (Row.cell (hS.bx 2 rfl) (i := 1) rfl)) ?_
      refine rl_q (wanted_g rfl (yE_of rfl (congrArg Value.bool (decide_eq_true hp2)))) rfl rfl (v_move (v := (Value.int .i64 a)) hE1) ?_
      refine rl_q (wanted_g rfl (yE_of rfl (congrArg Value.bool (decide_eq_true hp2)))) rfl rfl (v_move (v := (Value.int .i64 b)) hE2) ?_
      refine rl_q (wanted_g rfl (yE_of rfl (congrArg Value.bool (decide_eq_true hp2)))) rfl rfl (v_max2 rfl rfl) ?_
      refine rl_q (wanted_g rfl (yE_of rfl (congrArg Value.bool (decide_eq_true hp2)))) rfl rfl (v_eql rfl rfl) ?_
      refine rl_q rfl rfl rfl (v_pick_t (v := (Value.bool (decide (((ge g2 i.toNat).2.1) = (mxF a b))))) (congrArg Value.bool (decide_eq_true hp2)) rfl) ?_
      refine rl_end ?_
      by_cases hp3 : ((ge g2 i.toNat).2.1) = (mxF a b)
      · replace h := h.1 hp3
        refine wt_cond_t (congrArg Value.bool (decide_eq_true hp3)) ?_
        refine wt_seq ?_
        refine wl_region wd_wide ?_
        refine rl_q rfl rfl rfl (v_faddr rfl Try.underlying63 rfl info_3) ?_
        refine rl_q rfl rfl rfl (v_load rfl Try.underlying3 rfl (Row.cell (hS.bx 2 rfl) (i := 2) rfl)) ?_
        refine rl_q rfl rfl rfl (v_assign (v := (Value.int .i64 ((ge g2 i.toNat).2.2))) rfl) ?_
        refine rl_end ?_
        exact wt_ret1 rfl rfl ⟨_, rfl, (hS.sel [] (by decide)), h⟩
      · replace h := h.2 hp3
        refine wt_cond_f (congrArg Value.bool (decide_eq_false hp3)) ?_
        refine wt_skip ?_
        refine wt_inBlock ?_
        refine wl_region wd_wide ?_
        refine rl_q rfl rfl rfl (v_move (v := (Value.int .i64 i)) hE7) ?_
        obtain ⟨hi, h⟩ := h
        refine rl_q rfl rfl rfl (v_add rfl rfl hi) ?_
        refine rl_q rfl rfl rfl (v_assign (v := (Value.int .i64 (i + 1))) rfl) ?_
        refine rl_end ?_
        obtain ⟨mq, hlt, h⟩ := h
        exact again mq _ _ _ ⟨_, h, rfl, hE1, hE2, hE3, rfl, (hS.sel [0, 1] (by decide))⟩ hlt
    · replace h := h.2 hp2
      refine rl_p (wanted_n rfl (yE_of rfl (congrArg Value.bool (decide_eq_false hp2))) rfl) rfl ?_
      refine rl_p (wanted_n rfl (yE_of rfl (congrArg Value.bool (decide_eq_false hp2))) rfl) rfl ?_
      refine rl_p (wanted_n rfl (yE_of rfl (congrArg Value.bool (decide_eq_false hp2))) rfl) rfl ?_
      refine rl_p (wanted_n rfl (yE_of rfl (congrArg Value.bool (decide_eq_false hp2))) rfl) rfl ?_
      refine rl_p (wanted_n rfl (yE_of rfl (congrArg Value.bool (decide_eq_false hp2))) rfl) rfl ?_
      refine rl_p (wanted_n rfl (yE_of rfl (congrArg Value.bool (decide_eq_false hp2))) rfl) rfl ?_
      refine rl_q rfl rfl rfl (v_pick_f (v := (Value.bool (false))) (congrArg Value.bool (decide_eq_false hp2)) rfl) ?_
      refine rl_end ?_
      refine wt_cond_f rfl ?_
      refine wt_skip ?_
      refine wt_inBlock ?_
      refine wl_region wd_wide ?_
      refine rl_q rfl rfl rfl (v_move (v := (Value.int .i64 i)) hE7) ?_
      obtain ⟨hi2, h⟩ := h
      refine rl_q rfl rfl rfl (v_add rfl rfl hi2) ?_
      refine rl_q rfl rfl rfl (v_assign (v := (Value.int .i64 (i + 1))) rfl) ?_
      refine rl_end ?_
      obtain ⟨mq, hlt, h⟩ := h
      exact again mq _ _ _ ⟨_, h, rfl, hE1, hE2, hE3, rfl, (hS.sel [0, 1] (by decide))⟩ hlt
  · replace h := h.2 hp
    refine wt_cond_f (congrArg Value.bool (decide_eq_false hp)) ?_
    refine wt_exit rfl ?_
    refine wt_seq ?_
    refine wl_region wd_wide ?_
    refine rl_q rfl rfl rfl (v_assign (v := (Value.int .i64 0)) rfl) ?_
    refine rl_end ?_
    exact wt_ret1 rfl rfl ⟨_, rfl, (hS.sel [] (by decide)), h⟩

/-- sandpile/sandpileref08.edge: what it computes. -/
def pf_r08_edge (d : Int) (d2 : List (Int × Int × Int)) (i : Int) (R : Int → Prop) : Prop :=
((0 ≤ i ∧ i < ((d2.length : Nat) : Int)) ∧
(∃ J2 : Prop, (J2 → ((((ge d2 i.toNat).2.1) < ((ge d2 i.toNat).1) →
R 9) ∧
(¬ (((ge d2 i.toNat).2.1) < ((ge d2 i.toNat).1)) →
((0 < i →
(In64 (i - 1) ∧
((0 ≤ (i - 1) ∧ (i - 1) < ((d2.length : Nat) : Int)) ∧
((((ge d2 i.toNat).1) < ((ge d2 (i - 1).toNat).1) →
R 9) ∧
(¬ (((ge d2 i.toNat).1) < ((ge d2 (i - 1).toNat).1)) →
((((ge d2 i.toNat).1) = ((ge d2 (i - 1).toNat).1) →
((((ge d2 i.toNat).2.1) ≤ ((ge d2 (i - 1).toNat).2.1) →
R 9) ∧
(¬ (((ge d2 i.toNat).2.1) ≤ ((ge d2 (i - 1).toNat).2.1)) →
R 0))) ∧
(¬ (((ge d2 i.toNat).1) = ((ge d2 (i - 1).toNat).1)) →
R 0))))))) ∧
(¬ (0 < i) →
R 0))))) ∧
pf_r08_Vertex d d2 ((ge d2 i.toNat).1) (fun (r : Bool) =>
((r = true →
pf_r08_Vertex d d2 ((ge d2 i.toNat).2.1) (fun (r2 : Bool) =>
((r2 = true →
((((ge d2 i.toNat).2.2) < 1 →
R 2) ∧
(¬ (((ge d2 i.toNat).2.2) < 1) →
((50 < ((ge d2 i.toNat).2.2) →
R 2) ∧
(¬ (50 < ((ge d2 i.toNat).2.2)) →
J2))))) ∧
(¬ (r2 = true) →
R 2)))) ∧
(¬ (r = true) →
R 2)))))
theorem pok_r08_edge {O : Nat → Prop} {w : World} {d : Int} {d2 : List (Int × Int × Int)} {i : Int} {Ad : Option Addr} {ld : Nat} {cd : Nat} {R : Int → Prop} (h : pf_r08_edge d d2 i R) (hO : ∀ k, O k → k < w.heap.size) (a0 : (FP.sl c3 Ad ld cd d2).P O w) :
    Calls Try.prog 152 #[(Value.agg #[(Value.int .i64 d), (Value.slice Ad ld cd)]), (Value.int .i64 i)] w fun e w' => ∃ r3 : Int, e = .returned (Value.int .i64 r3) ∧ Sep w no O w' (rl []) ∧ R r3 := by
  unfold pf_r08_edge at h
  have hS : Sep w no O w (rl [Res.ro (FP.sl c3 Ad ld cd d2)]) := Sep.startl hO [(FP.sl c3 Ad ld cd d2)] ⟨a0, trivial⟩
  refine calls_sh (l := [(Value.agg #[(Value.int .i64 d), (Value.slice Ad ld cd)]), (Value.int .i64 i)]) Try.func152 rfl Try.ntmps152 (Nat.le_of_ble_eq_true rfl) ?_
  refine wt_seq ?_
  refine wl_region wd_wide ?_
  refine rl_n rfl rfl rfl rfl (n_box (v := (Value.agg #[(Value.int .i64 d), (Value.slice Ad ld cd)])) rfl ?_)
  intro g w2 hN
  replace hS : Sep w no O w2 (stl _ 1 (Res.box 24 g [(Value.int .i64 d), (Value.slice Ad ld cd)])) := hS.new 1 rfl hN
  clear hN
  refine ⟨Stb.none _, ?_⟩
  refine rl_q rfl rfl rfl (v_assign (v := (Value.int .i64 0)) rfl) ?_
  refine rl_end ?_
  refine wt_seq ?_
  refine wl_region wd_wide ?_
  refine rl_q rfl rfl rfl (v_faddr rfl Try.underlying24 rfl info_22) ?_
  refine rl_q rfl rfl rfl (v_load rfl Try.underlying22 rfl (Row.cell (hS.bx 1 rfl) (i := 1) rfl)) ?_
  refine rl_q rfl rfl rfl (v_move (v := (Value.int .i64 i)) rfl) ?_
  obtain ⟨hx, h⟩ := h
  refine rl_q rfl rfl rfl (v_iaddr rfl rfl Try.underlying22 info_63 (rd_ix (hS.rdr 0 rfl) hx)) ?_
  refine rl_q rfl rfl rfl (v_loadn (vs := [(Value.int .i64 ((ge d2 i.toNat).1)), (Value.int .i64 ((ge d2 i.toNat).2.1)), (Value.int .i64 ((ge d2 i.toNat).2.2))]) rfl Try.underlying63 rfl info_63 (rd_fs (hS.rdr 0 rfl) hx (fun q => ge_some q))) ?_
  refine rl_n rfl rfl rfl rfl (n_alloc info_63 ?_)
  intro g2 w3 hN
  replace hS : Sep w no O w3 (stl _ 2 (Res.box 63 g2 [(Value.int .i64 0), (Value.int .i64 0), (Value.int .i64 0)])) := hS.new 2 rfl hN
  clear hN
  refine ⟨Stb.none _, ?_⟩
  refine rl_n0 rfl rfl rfl (n_storen (b := g2) (o := 0) (cells := #[(Value.int .i64 ((ge d2 i.toNat).1)), (Value.int .i64 ((ge d2 i.toNat).2.1)), (Value.int .i64 ((ge d2 i.toNat).2.2))]) rfl rfl info_63 rfl rfl (there_row (hS.bx 2 rfl) (Nat.le_of_ble_eq_true rfl)) ?_)
  intro w4 e1
  replace hS := hS.bstn 2 rfl 0 [(Value.int .i64 ((ge d2 i.toNat).1)), (Value.int .i64 ((ge d2 i.toNat).2.1)), (Value.int .i64 ((ge d2 i.toNat).2.2))] e1
  clear e1
  refine ⟨Stb.none _, ?_⟩
  refine rl_end ?_
  refine wt_seq ?_
  refine wt_seq ?_
  obtain ⟨J2, hJ, h⟩ := h
  refine wt_cutT1 (fun E ds w' => J2 ∧ ds = [] ∧ E 1 = (Value.int .i64 i) ∧ E 2 = (Value.pointer (some (⟨g, 0, none⟩ : Addr))) ∧ E 5 = (Value.pointer (some (⟨g2, 0, none⟩ : Addr))) ∧ Sep w no O w' (rl [Res.box 24 g [(Value.int .i64 d), (Value.slice Ad ld cd)], Res.ro (FP.sl c3 Ad ld cd d2), Res.box 63 g2 [(Value.int .i64 ((ge d2 i.toNat).1)), (Value.int .i64 ((ge d2 i.toNat).2.1)), (Value.int .i64 ((ge d2 i.toNat).2.2))]])) ?_ ?_
  · clear h hS
    rintro E ds w5 ⟨h, rfl, hE1, hE2, hE5, hS⟩
    replace h := hJ h
    refine wt_seq ?_
    refine wt_seq ?_
    refine wl_region wd_wide ?_
    refine rl_q rfl rfl rfl (v_faddr hE5 Try.underlying63 rfl info_3) ?_
    refine rl_q rfl rfl rfl (v_load rfl Try.underlying3 rfl (Row.cell (hS.bx 2 rfl) (i := 0) rfl)) ?_
    refine rl_q rfl rfl rfl (v_faddr hE5 Try.underlying63 rfl info_3) ?_
    refine rl_q rfl rfl rfl (v_load rfl Try.underlying3 rfl (Row.cell (hS.bx 2 rfl) (i := 1) rfl)) ?_
    refine rl_q rfl rfl rfl (v_gtr rfl rfl) ?_
    refine rl_end ?_
    by_cases hp : ((ge d2 i.toNat).2.1) < ((ge d2 i.toNat).1)
    · replace h := h.1 hp
      refine wt_cond_t (congrArg Value.bool (decide_eq_true hp)) ?_
      refine wt_seq ?_
      refine wl_region wd_wide ?_
      refine rl_q rfl rfl rfl (v_assign (v := (Value.int .i64 9)) rfl) ?_
      refine rl_end ?_
      exact wt_ret1 rfl rfl ⟨_, rfl, (hS.sel [] (by decide)), h⟩
    · replace h := h.2 hp
      refine wt_cond_f (congrArg Value.bool (decide_eq_false hp)) ?_
      refine wt_skip ?_
      refine wt_seq ?_
      refine wt_seq ?_
      refine wl_region wd_wide ?_
      refine rl_q rfl rfl rfl (v_move (v := (Value.int .i64 i)) hE1) ?_
      refine rl_q rfl rfl rfl (v_gtr rfl rfl) ?_
      refine rl_end ?_
      by_cases hp2 : 0 < i
      · replace h := h.1 hp2
        refine wt_cond_t (congrArg Value.bool (decide_eq_true hp2)) ?_
        refine wt_seq ?_
        refine wl_region wd_wide ?_
        refine rl_q rfl rfl rfl (v_faddr hE2 Try.underlying24 rfl info_22) ?_
        refine rl_q rfl rfl rfl (v_load rfl Try.underlying22 rfl (Row.cell (hS.bx 0 rfl) (i := 1) rfl)) ?_
        refine rl_q rfl rfl rfl (v_move (v := (Value.int .i64 i)) hE1) ?_
        obtain ⟨hi, h⟩ := h
        refine rl_q rfl rfl rfl (v_sub rfl rfl hi) ?_
        obtain ⟨hx2, h⟩ := h
        refine rl_q rfl rfl rfl (v_iaddr rfl rfl Try.underlying22 info_63 (rd_ix (hS.rdr 1 rfl) hx2)) ?_
        refine rl_q rfl rfl rfl (v_loadn (vs := [(Value.int .i64 ((ge d2 (i - 1).toNat).1)), (Value.int .i64 ((ge d2 (i - 1).toNat).2.1)), (Value.int .i64 ((ge d2 (i - 1).toNat).2.2))]) rfl Try.underlying63 rfl info_63 (rd_fs (hS.rdr 1 rfl) hx2 (fun q => ge_some q))) ?_
        refine rl_n rfl rfl rfl rfl (n_alloc info_63 ?_)
        intro g3 w6 hN
        replace hS : Sep w no O w6 (stl _ 3 (Res.box 63 g3 [(Value.int .i64 0), (Value.int .i64 0), (Value.int .i64 0)])) := hS.new 3 rfl hN
        clear hN
        refine ⟨Stb.none _, ?_⟩
        refine rl_n0 rfl rfl rfl (n_storen (b := g3) (o := 0) (cells := #[(Value.int .i64 ((ge d2 (i - 1).toNat).1)), (Value.int .i64 ((ge d2 (i - 1).toNat).2.1)), (Value.int .i64 ((ge d2 (i - 1).toNat).2.2))]) rfl rfl info_63 rfl rfl (there_row (hS.bx 3 rfl) (Nat.le_of_ble_eq_true rfl)) ?_)
        intro w7 e1
        replace hS := hS.bstn 3 rfl 0 [(Value.int .i64 ((ge d2 (i - 1).toNat).1)), (Value.int .i64 ((ge d2 (i - 1).toNat).2.1)), (Value.int .i64 ((ge d2 (i - 1).toNat).2.2))] e1
        clear e1
        refine ⟨Stb.none _, ?_⟩
        refine rl_end ?_
        refine wt_seq ?_
        refine wl_region wd_wide ?_
        refine rl_q rfl rfl rfl (v_faddr hE5 Try.underlying63 rfl info_3) ?_
        refine rl_q rfl rfl rfl (v_load rfl Try.underlying3 rfl (Row.cell (hS.bx 2 rfl) (i := 0) rfl)) ?_
        refine rl_q rfl rfl rfl (v_faddr rfl Try.underlying63 rfl info_3) ?_
        refine rl_q rfl rfl rfl (v_load rfl Try.underlying3 rfl (Row.cell (hS.bx 3 rfl) (i := 0) rfl)) ?_
        refine rl_q rfl rfl rfl (v_lss rfl rfl) ?_
        refine rl_q rfl rfl rfl (v_move (v := (Value.bool (decide (((ge d2 i.toNat).1) < ((ge d2 (i - 1).toNat).1))))) rfl) ?_
        by_cases hp3 : ((ge d2 i.toNat).1) < ((ge d2 (i - 1).toNat).1)
        · replace h := h.1 hp3
          refine rl_p (wanted_n rfl (yE_of rfl (congrArg Value.bool (decide_eq_true hp3))) rfl) rfl ?_
          refine rl_p (wanted_n rfl (yE_of rfl (congrArg Value.bool (decide_eq_true hp3))) rfl) rfl ?_
          refine rl_p (wanted_n rfl (yE_of rfl (congrArg Value.bool (decide_eq_true hp3))) rfl) rfl ?_
          refine rl_p (wanted_n rfl (yE_of rfl (congrArg Value.bool (decide_eq_true hp3))) rfl) rfl ?_
          refine rl_p (wanted_n rfl (yE_of rfl (congrArg Value.bool (decide_eq_true hp3))) rfl) rfl ?_
          refine rl_p (wanted_n rfl (yE_of rfl (congrArg Value.bool (decide_eq_true hp3))) rfl) rfl ?_
          refine rl_p (wanted_u rfl rfl) rfl ?_
          refine rl_p (wanted_u rfl rfl) rfl ?_
          refine rl_p (wanted_u rfl rfl) rfl ?_
          refine rl_p (wanted_u rfl rfl) rfl ?_
          refine rl_p (wanted_u rfl rfl) rfl ?_
          refine rl_p (wanted_n rfl (yE_of rfl (congrArg Value.bool (decide_eq_true hp3))) rfl) rfl ?_
          refine rl_q rfl rfl rfl (v_pick_t (v := (Value.bool (true))) (congrArg Value.bool (decide_eq_true hp3)) rfl) ?_
          refine rl_end ?_
          refine wt_cond_t rfl ?_
          refine wt_seq ?_
          refine wl_region wd_wide ?_
          refine rl_q rfl rfl rfl (v_assign (v := (Value.int .i64 9)) rfl) ?_
          refine rl_end ?_
          exact wt_ret1 rfl rfl ⟨_, rfl, (hS.sel [] (by decide)), h⟩
        · replace h := h.2 hp3
          refine rl_q (wanted_g rfl (yE_of rfl (congrArg Value.bool (decide_eq_false hp3)))) rfl rfl (v_faddr hE5 Try.underlying63 rfl info_3) ?_
          refine rl_q (wanted_g rfl (yE_of rfl (congrArg Value.bool (decide_eq_false hp3)))) rfl rfl (v_load rfl Try.underlying3 rfl (Row.cell (hS.bx 2 rfl) (i := 0) rfl)) ?_
          refine rl_q (wanted_g rfl (yE_of rfl (congrArg Value.bool (decide_eq_false hp3)))) rfl rfl (v_faddr rfl Try.underlying63 rfl info_3) ?_
          refine rl_q (wanted_g rfl (yE_of rfl (congrArg Value.bool (decide_eq_false hp3)))) rfl rfl (v_load rfl Try.underlying3 rfl (Row.cell (hS.bx 3 rfl) (i := 0) rfl)) ?_
          refine rl_q (wanted_g rfl (yE_of rfl (congrArg Value.bool (decide_eq_false hp3)))) rfl rfl (v_eql rfl rfl) ?_
          refine rl_q (wanted_g rfl (yE_of rfl (congrArg Value.bool (decide_eq_false hp3)))) rfl rfl (v_move (v := (Value.bool (decide (((ge d2 i.toNat).1) = ((ge d2 (i - 1).toNat).1))))) rfl) ?_
          by_cases hp4 : ((ge d2 i.toNat).1) = ((ge d2 (i - 1).toNat).1)
          · replace h := h.1 hp4
            refine rl_q (wanted_g rfl (yE_of rfl (congrArg Value.bool (decide_eq_true hp4)))) rfl rfl (v_faddr hE5 Try.underlying63 rfl info_3) ?_
            refine rl_q (wanted_g rfl (yE_of rfl (congrArg Value.bool (decide_eq_true hp4)))) rfl rfl (v_load rfl Try.underlying3 rfl (Row.cell (hS.bx 2 rfl) (i := 1) rfl)) ?_
            refine rl_q (wanted_g rfl (yE_of rfl (congrArg Value.bool (decide_eq_true hp4)))) rfl rfl (v_faddr rfl Try.underlying63 rfl info_3) ?_
            refine rl_q (wanted_g rfl (yE_of rfl (congrArg Value.bool (decide_eq_true hp4)))) rfl rfl (v_load rfl Try.underlying3 rfl (Row.cell (hS.bx 3 rfl) (i := 1) rfl)) ?_
            refine rl_q (wanted_g rfl (yE_of rfl (congrArg Value.bool (decide_eq_true hp4)))) rfl rfl (v_leq rfl rfl) ?_
            refine rl_q (wanted_g rfl (yE_of rfl (congrArg Value.bool (decide_eq_false hp3)))) rfl rfl (v_pick_t (v := (Value.bool (decide (((ge d2 i.toNat).2.1) ≤ ((ge d2 (i - 1).toNat).2.1))))) (congrArg Value.bool (decide_eq_true hp4)) rfl) ?_
            refine rl_q rfl rfl rfl (v_pick_f (v := (Value.bool (decide (((ge d2 i.toNat).2.1) ≤ ((ge d2 (i - 1).toNat).2.1))))) (congrArg Value.bool (decide_eq_false hp3)) rfl) ?_
            refine rl_end ?_
            by_cases hp5 : ((ge d2 i.toNat).2.1) ≤ ((ge d2 (i - 1).toNat).2.1)
            · replace h := h.1 hp5
              refine wt_cond_t (congrArg Value.bool (decide_eq_true hp5)) ?_
              refine wt_seq ?_
              refine wl_region wd_wide ?_
              refine rl_q rfl rfl rfl (v_assign (v := (Value.int .i64 9)) rfl) ?_
              refine rl_end ?_
              exact wt_ret1 rfl rfl ⟨_, rfl, (hS.sel [] (by decide)), h⟩
            · replace h := h.2 hp5
              refine wt_cond_f (congrArg Value.bool (decide_eq_false hp5)) ?_
              refine wt_skip ?_
              refine wt_seq ?_
              refine wl_region wd_wide ?_
              refine rl_q rfl rfl rfl (v_assign (v := (Value.int .i64 0)) rfl) ?_
              refine rl_end ?_
              exact wt_ret1 rfl rfl ⟨_, rfl, (hS.sel [] (by decide)), h⟩
          · replace h := h.2 hp4
            refine rl_p (wanted_n rfl (yE_of rfl (congrArg Value.bool (decide_eq_false hp4))) rfl) rfl ?_
            refine rl_p (wanted_n rfl (yE_of rfl (congrArg Value.bool (decide_eq_false hp4))) rfl) rfl ?_
            refine rl_p (wanted_n rfl (yE_of rfl (congrArg Value.bool (decide_eq_false hp4))) rfl) rfl ?_
            refine rl_p (wanted_n rfl (yE_of rfl (congrArg Value.bool (decide_eq_false hp4))) rfl) rfl ?_
            refine rl_p (wanted_n rfl (yE_of rfl (congrArg Value.bool (decide_eq_false hp4))) rfl) rfl ?_
            refine rl_q (wanted_g rfl (yE_of rfl (congrArg Value.bool (decide_eq_false hp3)))) rfl rfl (v_pick_f (v := (Value.bool (false))) (congrArg Value.bool (decide_eq_false hp4)) rfl) ?_
            refine rl_q rfl rfl rfl (v_pick_f (v := (Value.bool (false))) (congrArg Value.bool (decide_eq_false hp3)) rfl) ?_
            refine rl_end ?_
            refine wt_cond_f rfl ?_
            refine wt_skip ?_
            refine wt_seq ?_
            refine wl_region wd_wide ?_
            refine rl_q rfl rfl rfl (v_assign (v := (Value.int .i64 0)) rfl) ?_
            refine rl_end ?_
            exact wt_ret1 rfl rfl ⟨_, rfl, (hS.sel [] (by decide)), h⟩
      · replace h := h.2 hp2
        refine wt_cond_f (congrArg Value.bool (decide_eq_false hp2)) ?_
        refine wt_skip ?_
        refine wt_seq ?_
        refine wl_region wd_wide ?_
        refine rl_q rfl rfl rfl (v_assign (v := (Value.int .i64 0)) rfl) ?_
        refine rl_end ?_
        exact wt_ret1 rfl rfl ⟨_, rfl, (hS.sel [] (by decide)), h⟩
  clear hJ
  intro j
  refine wl_region wd_wide ?_
  refine rl_q rfl rfl rfl (v_loadn (vs := [(Value.int .i64 d), (Value.slice Ad ld cd)]) rfl Try.underlying24 rfl info_24 ⟨Row.cell (hS.bx 1 rfl) (i := 0) rfl, Row.cell (hS.bx 1 rfl) (i := 1) rfl, trivial⟩) ?_
  refine rl_q rfl rfl rfl (v_faddr rfl Try.underlying63 rfl info_3) ?_
  refine rl_q rfl rfl rfl (v_load rfl Try.underlying3 rfl (Row.cell (hS.bx 2 rfl) (i := 0) rfl)) ?_
  refine rl_n rfl rfl rfl rfl (n_call0 rfl (am2 rfl rfl) enter_75 ((pok_r08_Vertex h (no_lt _) (hS.rdr 0 rfl)).mono ?_))
  rintro _ w8 ⟨r, rfl, hC, h⟩
  replace hS := hS.pur hC.pure
  clear hC
  refine ⟨_, rfl, ?_⟩
  refine ⟨Stb.none _, ?_⟩
  refine rl_q rfl rfl rfl (v_not rfl) ?_
  refine rl_q rfl rfl rfl (v_move (v := (Value.bool (!(r)))) rfl) ?_
  by_cases hp6 : r = true
  · replace h := h.1 hp6
    refine rl_q (wanted_g rfl (yE_of rfl (congrArg Value.bool (congrArg Bool.not hp6)))) rfl rfl (v_loadn (vs := [(Value.int .i64 d), (Value.slice Ad ld cd)]) rfl Try.underlying24 rfl info_24 ⟨Row.cell (hS.bx 1 rfl) (i := 0) rfl, Row.cell (hS.bx 1 rfl) (i := 1) rfl, trivial⟩) ?_
    refine rl_q (wanted_g rfl (yE_of rfl (congrArg Value.bool (congrArg Bool.not hp6)))) rfl rfl (v_faddr rfl Try.underlying63 rfl info_3) ?_
    refine rl_q (wanted_g rfl (yE_of rfl (congrArg Value.bool (congrArg Bool.not hp6)))) rfl rfl (v_load rfl Try.underlying3 rfl (Row.cell (hS.bx 2 rfl) (i := 1) rfl)) ?_
    refine rl_n (wanted_g rfl (yE_of rfl (congrArg Value.bool (congrArg Bool.not hp6)))) rfl rfl rfl (n_call0 rfl (am2 rfl rfl) enter_75 ((pok_r08_Vertex h (no_lt _) (hS.rdr 0 rfl)).mono ?_))
    rintro _ w9 ⟨r2, rfl, hC, h⟩
    replace hS := hS.pur hC.pure
    clear hC
    refine ⟨_, rfl, ?_⟩
    refine ⟨Stb.none _, ?_⟩
    refine rl_q (wanted_g rfl (yE_of rfl (congrArg Value.bool (congrArg Bool.not hp6)))) rfl rfl (v_not rfl) ?_
    refine rl_q rfl rfl rfl (v_pick_f (v := (Value.bool (!(r2)))) (congrArg Value.bool (congrArg Bool.not hp6)) rfl) ?_
    refine rl_q rfl rfl rfl (v_move (v := (Value.bool (!(r2)))) rfl) ?_
    by_cases hp7 : r2 = true
    · replace h := h.1 hp7
      refine rl_q (wanted_g rfl (yE_of rfl (congrArg Value.bool (congrArg Bool.not hp7)))) rfl rfl (v_faddr rfl Try.underlying63 rfl info_3) ?_
      refine rl_q (wanted_g rfl (yE_of rfl (congrArg Value.bool (congrArg Bool.not hp7)))) rfl rfl (v_load rfl Try.underlying3 rfl (Row.cell (hS.bx 2 rfl) (i := 2) rfl)) ?_
      refine rl_q (wanted_g rfl (yE_of rfl (congrArg Value.bool (congrArg Bool.not hp7)))) rfl rfl (v_lss rfl rfl) ?_
      refine rl_q rfl rfl rfl (v_pick_f (v := (Value.bool (decide (((ge d2 i.toNat).2.2) < 1)))) (congrArg Value.bool (congrArg Bool.not hp7)) rfl) ?_
      refine rl_q rfl rfl rfl (v_move (v := (Value.bool (decide (((ge d2 i.toNat).2.2) < 1)))) rfl) ?_
      by_cases hp8 : ((ge d2 i.toNat).2.2) < 1
      · replace h := h.1 hp8
        refine rl_p (wanted_n rfl (yE_of rfl (congrArg Value.bool (decide_eq_true hp8))) rfl) rfl ?_
        refine rl_p (wanted_n rfl (yE_of rfl (congrArg Value.bool (decide_eq_true hp8))) rfl) rfl ?_
        refine rl_p (wanted_n rfl (yE_of rfl (congrArg Value.bool (decide_eq_true hp8))) rfl) rfl ?_
        refine rl_q rfl rfl rfl (v_pick_t (v := (Value.bool (true))) (congrArg Value.bool (decide_eq_true hp8)) rfl) ?_
        refine rl_end ?_
        refine wt_cond_t rfl ?_
        refine wt_seq ?_
        refine wl_region wd_wide ?_
        refine rl_q rfl rfl rfl (v_assign (v := (Value.int .i64 2)) rfl) ?_
        refine rl_end ?_
        exact wt_ret1 rfl rfl ⟨_, rfl, (hS.sel [] (by decide)), h⟩
      · replace h := h.2 hp8
        refine rl_q (wanted_g rfl (yE_of rfl (congrArg Value.bool (decide_eq_false hp8)))) rfl rfl (v_faddr rfl Try.underlying63 rfl info_3) ?_
        refine rl_q (wanted_g rfl (yE_of rfl (congrArg Value.bool (decide_eq_false hp8)))) rfl rfl (v_load rfl Try.underlying3 rfl (Row.cell (hS.bx 2 rfl) (i := 2) rfl)) ?_
        refine rl_q (wanted_g rfl (yE_of rfl (congrArg Value.bool (decide_eq_false hp8)))) rfl rfl (v_gtr rfl rfl) ?_
        refine rl_q rfl rfl rfl (v_pick_f (v := (Value.bool (decide (50 < ((ge d2 i.toNat).2.2))))) (congrArg Value.bool (decide_eq_false hp8)) rfl) ?_
        refine rl_end ?_
        by_cases hp9 : 50 < ((ge d2 i.toNat).2.2)
        · replace h := h.1 hp9
          refine wt_cond_t (congrArg Value.bool (decide_eq_true hp9)) ?_
          refine wt_seq ?_
          refine wl_region wd_wide ?_
          refine rl_q rfl rfl rfl (v_assign (v := (Value.int .i64 2)) rfl) ?_
          refine rl_end ?_
          exact wt_ret1 rfl rfl ⟨_, rfl, (hS.sel [] (by decide)), h⟩
        · replace h := h.2 hp9
          refine wt_cond_f (congrArg Value.bool (decide_eq_false hp9)) ?_
          refine wt_skip ?_
          exact j _ _ _ ⟨h, rfl, rfl, rfl, rfl, (hS.sel [1, 0, 2] (by decide))⟩
    · replace h := h.2 hp7
      refine rl_p (wanted_n rfl (yE_of rfl (congrArg Value.bool (congrArg Bool.not (Bool.eq_false_iff.2 hp7)))) rfl) rfl ?_
      refine rl_p (wanted_n rfl (yE_of rfl (congrArg Value.bool (congrArg Bool.not (Bool.eq_false_iff.2 hp7)))) rfl) rfl ?_
      refine rl_p (wanted_n rfl (yE_of rfl (congrArg Value.bool (congrArg Bool.not (Bool.eq_false_iff.2 hp7)))) rfl) rfl ?_
      refine rl_q rfl rfl rfl (v_pick_t (v := (Value.bool (true))) (congrArg Value.bool (congrArg Bool.not (Bool.eq_false_iff.2 hp7))) rfl) ?_
      refine rl_q rfl rfl rfl (v_move (v := (Value.bool (true))) rfl) ?_
      refine rl_p (wanted_n rfl (yE_of rfl rfl) rfl) rfl ?_
      refine rl_p (wanted_n rfl (yE_of rfl rfl) rfl) rfl ?_
      refine rl_p (wanted_n rfl (yE_of rfl rfl) rfl) rfl ?_
      refine rl_q rfl rfl rfl (v_pick_t (v := (Value.bool (true))) rfl rfl) ?_
      refine rl_end ?_
      refine wt_cond_t rfl ?_
      refine wt_seq ?_
      refine wl_region wd_wide ?_
      refine rl_q rfl rfl rfl (v_assign (v := (Value.int .i64 2)) rfl) ?_
      refine rl_end ?_
      exact wt_ret1 rfl rfl ⟨_, rfl, (hS.sel [] (by decide)), h⟩
  · replace h := h.2 hp6
    refine rl_p (wanted_n rfl (yE_of rfl (congrArg Value.bool (congrArg Bool.not (Bool.eq_false_iff.2 hp6)))) rfl) rfl ?_
    refine rl_p (wanted_n rfl (yE_of rfl (congrArg Value.bool (congrArg Bool.not (Bool.eq_false_iff.2 hp6)))) rfl) rfl ?_
    refine rl_p (wanted_n rfl (yE_of rfl (congrArg Value.bool (congrArg Bool.not (Bool.eq_false_iff.2 hp6)))) rfl) rfl ?_
    refine rl_p (wanted_n rfl (yE_of rfl (congrArg Value.bool (congrArg Bool.not (Bool.eq_false_iff.2 hp6)))) rfl) rfl ?_
    refine rl_p (wanted_n rfl (yE_of rfl (congrArg Value.bool (congrArg Bool.not (Bool.eq_false_iff.2 hp6)))) rfl) rfl ?_
    refine rl_q rfl rfl rfl (v_pick_t (v := (Value.bool (true))) (congrArg Value.bool (congrArg Bool.not (Bool.eq_false_iff.2 hp6))) rfl) ?_
    refine rl_q rfl rfl rfl (v_move (v := (Value.bool (true))) rfl) ?_
    refine rl_p (wanted_n rfl (yE_of rfl rfl) rfl) rfl ?_
    refine rl_p (wanted_n rfl (yE_of rfl rfl) rfl) rfl ?_
    refine rl_p (wanted_n rfl (yE_of rfl rfl) rfl) rfl ?_
    refine rl_q rfl rfl rfl (v_pick_t (v := (Value.bool (true))) rfl rfl) ?_
    refine rl_q rfl rfl rfl (v_move (v := (Value.bool (true))) rfl) ?_
    refine rl_p (wanted_n rfl (yE_of rfl rfl) rfl) rfl ?_
    refine rl_p (wanted_n rfl (yE_of rfl rfl) rfl) rfl ?_
    refine rl_p (wanted_n rfl (yE_of rfl rfl) rfl) rfl ?_
    refine rl_q rfl rfl rfl (v_pick_t (v := (Value.bool (true))) rfl rfl) ?_
    refine rl_end ?_
    refine wt_cond_t rfl ?_
    refine wt_seq ?_
    refine wl_region wd_wide ?_
    refine rl_q rfl rfl rfl (v_assign (v := (Value.int .i64 2)) rfl) ?_
    refine rl_end ?_
    exact wt_ret1 rfl rfl ⟨_, rfl, (hS.sel [] (by decide)), h⟩

/-- sandpile/sandpileref08.Check: what it computes. -/
def pf_r08_Check (g : Int) (g2 : List (Int × Int × Int)) (R : Int → Prop) : Prop :=
(∃ J2 : Prop, (J2 → (∃ I2 : Nat → Int → Prop, (∃ m0, I2 m0 0) ∧ ∀ (m2 : Nat) (i : Int), I2 m2 i → 
((i < ((g2.length : Nat) : Int) →
pf_r08_edge g g2 i (fun (r : Int) =>
((r = 0 →
(In64 (i + 1) ∧
∃ m3, m3 < m2 ∧ I2 m3 (i + 1))) ∧
(¬ (r = 0) →
R r)))) ∧
(¬ (i < ((g2.length : Nat) : Int)) →
R 0)))) ∧
((g < 1 →
R 2) ∧
(¬ (g < 1) →
((12 < g →
R 2) ∧
(¬ (12 < g) →
J2)))))
theorem pok_r08_Check {O : Nat → Prop} {w : World} {g : Int} {g2 : List (Int × Int × Int)} {Ag : Option Addr} {lg : Nat} {cg : Nat} {R : Int → Prop} (h : pf_r08_Check g g2 R) (hO : ∀ k, O k → k < w.heap.size) (a0 : (FP.sl c3 Ag lg cg g2).P O w) :
    Calls Try.prog 127 #[(Value.agg #[(Value.int .i64 g), (Value.slice Ag lg cg)])] w fun e w' => ∃ r2 : Int, e = .returned (Value.int .i64 r2) ∧ Sep w no O w' (rl []) ∧ R r2 := by
  unfold pf_r08_Check at h
  have hS : Sep w no O w (rl [Res.ro (FP.sl c3 Ag lg cg g2)]) := Sep.startl hO [(FP.sl c3 Ag lg cg g2)] ⟨a0, trivial⟩
  refine calls_sh (l := [(Value.agg #[(Value.int .i64 g), (Value.slice Ag lg cg)])]) Try.func127 rfl Try.ntmps127 (Nat.le_of_ble_eq_true rfl) ?_
  refine wt_seq ?_
  refine wl_region wd_wide ?_
  refine rl_n rfl rfl rfl rfl (n_box (v := (Value.agg #[(Value.int .i64 g), (Value.slice Ag lg cg)])) rfl ?_)
  intro g3 w2 hN
  replace hS : Sep w no O w2 (stl _ 1 (Res.box 24 g3 [(Value.int .i64 g), (Value.slice Ag lg cg)])) := hS.new 1 rfl hN
  clear hN
  refine ⟨Stb.none _, ?_⟩
  refine rl_q rfl rfl rfl (v_assign (v := (Value.int .i64 0)) rfl) ?_
  refine rl_end ?_
  refine wt_seq ?_
  refine wt_seq ?_
  obtain ⟨J2, hJ, h⟩ := h
  refine wt_cutT1 (fun E ds w' => J2 ∧ ds = [] ∧ E 1 = (Value.pointer (some (⟨g3, 0, none⟩ : Addr))) ∧ Sep w no O w' (rl [Res.box 24 g3 [(Value.int .i64 g), (Value.slice Ag lg cg)], Res.ro (FP.sl c3 Ag lg cg g2)])) ?_ ?_
  · clear h hS
    rintro E ds w3 ⟨h, rfl, hE1, hS⟩
    replace h := hJ h
    refine wt_seq ?_
    refine wt_seq ?_
    refine wl_region wd_wide ?_
    refine rl_q rfl rfl rfl (v_assign (v := (Value.int .i64 0)) rfl) ?_
    refine rl_end ?_
    refine wt_block ?_
    obtain ⟨I2, ⟨m0, h0⟩, hr⟩ := h
    refine wt_loop (fun m E ds w' => ∃ i : Int, I2 m i ∧ ds = [] ∧ E 1 = (Value.pointer (some (⟨g3, 0, none⟩ : Addr))) ∧ E 3 = (Value.int .i64 i) ∧ Sep w no O w' (rl [Res.box 24 g3 [(Value.int .i64 g), (Value.slice Ag lg cg)], Res.ro (FP.sl c3 Ag lg cg g2)])) m0 ⟨_, h0, rfl, hE1, rfl, (hS.sel [0, 1] (by decide))⟩ ?_
    clear h0 hS
    rintro m2 E ds w4 ⟨i, h, rfl, hE1, hE3, hS⟩ again
    replace h := hr m2 i h
    clear hr
    refine wt_seq ?_
    refine wt_seq ?_
    refine wl_region wd_wide ?_
    refine rl_q rfl rfl rfl (v_move (v := (Value.int .i64 i)) hE3) ?_
    refine rl_q rfl rfl rfl (v_faddr hE1 Try.underlying24 rfl info_22) ?_
    refine rl_q rfl rfl rfl (v_load rfl Try.underlying22 rfl (Row.cell (hS.bx 0 rfl) (i := 1) rfl)) ?_
    refine rl_q rfl rfl rfl (v_lenx (n := g2.length) rfl Try.underlying22 (rd_len (hS.rdr 1 rfl))) ?_
    refine rl_q rfl rfl rfl (v_lss rfl rfl) ?_
    refine rl_end ?_
    by_cases hp : i < ((g2.length : Nat) : Int)
    · replace h := h.1 hp
      refine wt_cond_t (congrArg Value.bool (decide_eq_true hp)) ?_
      refine wt_skip ?_
      refine wt_seq ?_
      refine wt_block ?_
      refine wt_seq ?_
      refine wl_region wd_wide ?_
      refine rl_q rfl rfl rfl (v_loadn (vs := [(Value.int .i64 g), (Value.slice Ag lg cg)]) hE1 Try.underlying24 rfl info_24 ⟨Row.cell (hS.bx 0 rfl) (i := 0) rfl, Row.cell (hS.bx 0 rfl) (i := 1) rfl, trivial⟩) ?_
      refine rl_q rfl rfl rfl (v_move (v := (Value.int .i64 i)) hE3) ?_
      refine rl_n rfl rfl rfl rfl (n_call0 rfl (am2 rfl rfl) enter_152 ((pok_r08_edge h (no_lt _) (hS.rdr 1 rfl)).mono ?_))
      rintro _ w5 ⟨r, rfl, hC, h⟩
      replace hS := hS.pur hC.pure
      clear hC
      refine ⟨_, rfl, ?_⟩
      refine ⟨Stb.none _, ?_⟩
      refine rl_q rfl rfl rfl (v_assign (v := (Value.int .i64 r)) rfl) ?_
      refine rl_end ?_
      refine wt_seq ?_
      refine wl_region wd_wide ?_
      refine rl_q rfl rfl rfl (v_move (v := (Value.int .i64 r)) rfl) ?_
      refine rl_q rfl rfl rfl (v_neq rfl rfl) ?_
      refine rl_end ?_
      by_cases hp2 : r = 0
      · replace h := h.1 hp2
        refine wt_cond_f (congrArg Value.bool (congrArg Bool.not (decide_eq_true hp2))) ?_
        refine wt_skip ?_
        refine wt_inBlock ?_
        refine wl_region wd_wide ?_
        refine rl_q rfl rfl rfl (v_move (v := (Value.int .i64 i)) hE3) ?_
        obtain ⟨hi, h⟩ := h
        refine rl_q rfl rfl rfl (v_add rfl rfl hi) ?_
        refine rl_q rfl rfl rfl (v_assign (v := (Value.int .i64 (i + 1))) rfl) ?_
        refine rl_end ?_
        obtain ⟨mq, hlt, h⟩ := h
        exact again mq _ _ _ ⟨_, h, rfl, hE1, rfl, (hS.sel [0, 1] (by decide))⟩ hlt
      · replace h := h.2 hp2
        refine wt_cond_t (congrArg Value.bool (congrArg Bool.not (decide_eq_false hp2))) ?_
        refine wt_seq ?_
        refine wl_region wd_wide ?_
        refine rl_q rfl rfl rfl (v_move (v := (Value.int .i64 r)) rfl) ?_
        refine rl_q rfl rfl rfl (v_assign (v := (Value.int .i64 r)) rfl) ?_
        refine rl_end ?_
        exact wt_ret1 rfl rfl ⟨_, rfl, (hS.sel [] (by decide)), h⟩
    · replace h := h.2 hp
      refine wt_cond_f (congrArg Value.bool (decide_eq_false hp)) ?_
      refine wt_exit rfl ?_
      refine wt_seq ?_
      refine wl_region wd_wide ?_
      refine rl_q rfl rfl rfl (v_assign (v := (Value.int .i64 0)) rfl) ?_
      refine rl_end ?_
      exact wt_ret1 rfl rfl ⟨_, rfl, (hS.sel [] (by decide)), h⟩
  clear hJ
  intro j
  refine wl_region wd_wide ?_
  refine rl_q rfl rfl rfl (v_faddr rfl Try.underlying24 rfl info_3) ?_
  refine rl_q rfl rfl rfl (v_load rfl Try.underlying3 rfl (Row.cell (hS.bx 1 rfl) (i := 0) rfl)) ?_
  refine rl_q rfl rfl rfl (v_lss rfl rfl) ?_
  refine rl_q rfl rfl rfl (v_move (v := (Value.bool (decide (g < 1)))) rfl) ?_
  by_cases hp3 : g < 1
  · replace h := h.1 hp3
    refine rl_p (wanted_n rfl (yE_of rfl (congrArg Value.bool (decide_eq_true hp3))) rfl) rfl ?_
    refine rl_p (wanted_n rfl (yE_of rfl (congrArg Value.bool (decide_eq_true hp3))) rfl) rfl ?_
    refine rl_p (wanted_n rfl (yE_of rfl (congrArg Value.bool (decide_eq_true hp3))) rfl) rfl ?_
    refine rl_q rfl rfl rfl (v_pick_t (v := (Value.bool (true))) (congrArg Value.bool (decide_eq_true hp3)) rfl) ?_
    refine rl_end ?_
    refine wt_cond_t rfl ?_
    refine wt_seq ?_
    refine wl_region wd_wide ?_
    refine rl_q rfl rfl rfl (v_assign (v := (Value.int .i64 2)) rfl) ?_
    refine rl_end ?_
    exact wt_ret1 rfl rfl ⟨_, rfl, (hS.sel [] (by decide)), h⟩
  · replace h := h.2 hp3
    refine rl_q (wanted_g rfl (yE_of rfl (congrArg Value.bool (decide_eq_false hp3)))) rfl rfl (v_faddr rfl Try.underlying24 rfl info_3) ?_
    refine rl_q (wanted_g rfl (yE_of rfl (congrArg Value.bool (decide_eq_false hp3)))) rfl rfl (v_load rfl Try.underlying3 rfl (Row.cell (hS.bx 1 rfl) (i := 0) rfl)) ?_
    refine rl_q (wanted_g rfl (yE_of rfl (congrArg Value.bool (decide_eq_false hp3)))) rfl rfl (v_gtr rfl rfl) ?_
    refine rl_q rfl rfl rfl (v_pick_f (v := (Value.bool (decide (12 < g)))) (congrArg Value.bool (decide_eq_false hp3)) rfl) ?_
    refine rl_end ?_
    by_cases hp4 : 12 < g
    · replace h := h.1 hp4
      refine wt_cond_t (congrArg Value.bool (decide_eq_true hp4)) ?_
      refine wt_seq ?_
      refine wl_region wd_wide ?_
      refine rl_q rfl rfl rfl (v_assign (v := (Value.int .i64 2)) rfl) ?_
      refine rl_end ?_
      exact wt_ret1 rfl rfl ⟨_, rfl, (hS.sel [] (by decide)), h⟩
    · replace h := h.2 hp4
      refine wt_cond_f (congrArg Value.bool (decide_eq_false hp4)) ?_
      refine wt_skip ?_
      exact j _ _ _ ⟨h, rfl, rfl, (hS.sel [1, 0] (by decide))⟩

/-- sandpile/sandpileref08.Ends: what it computes. -/
def pf_r08_Ends (g : Int) (g2 : List (Int × Int × Int)) (R : (List (Int × Int)) → Prop) : Prop :=
(∃ I2 : Nat → (List (Int × Int)) → Int → Prop, (∃ m0, I2 m0 ([]) 0) ∧ ∀ (m2 : Nat) (out : List (Int × Int)) (i : Int), I2 m2 out i → 
((i < ((g2.length : Nat) : Int) →
(∃ I3 : Nat → (List (Int × Int)) → Int → Prop, (∃ m0, I3 m0 out 0) ∧ ∀ (m3 : Nat) (out2 : List (Int × Int)) (k : Int), I3 m3 out2 k → 
((0 ≤ i ∧ i < ((g2.length : Nat) : Int)) ∧
((k < ((ge g2 i.toNat).2.2) →
(out2.length + 1 ≤ 1000000000 ∧
(In64 (k + 1) ∧
∃ m4, m4 < m3 ∧ I3 m4 (out2 ++ [((ge g2 i.toNat).1, (ge g2 i.toNat).2.1)]) (k + 1)))) ∧
(¬ (k < ((ge g2 i.toNat).2.2)) →
(In64 (i + 1) ∧
∃ m5, m5 < m2 ∧ I2 m5 out2 (i + 1))))))) ∧
(¬ (i < ((g2.length : Nat) : Int)) →
R out)))
theorem pok_r08_Ends {O : Nat → Prop} {w : World} {g : Int} {g2 : List (Int × Int × Int)} {Ag : Option Addr} {lg : Nat} {cg : Nat} {R : (List (Int × Int)) → Prop} (h : pf_r08_Ends g g2 R) (hO : ∀ k, O k → k < w.heap.size) (a0 : (FP.sl c3 Ag lg cg g2).P O w) :
    Calls Try.prog 161 #[(Value.agg #[(Value.int .i64 g), (Value.slice Ag lg cg)])] w fun e w' => ∃ r : List (Int × Int), ∃ Ar : Option Addr, ∃ lr : Nat, ∃ cr : Nat, e = .returned (Value.slice Ar lr cr) ∧ Sep w no O w' (rl [Res.own c2 199 Ar lr cr r]) ∧ R r := by
  unfold pf_r08_Ends at h
  have hS : Sep w no O w (rl [Res.ro (FP.sl c3 Ag lg cg g2)]) := Sep.startl hO [(FP.sl c3 Ag lg cg g2)] ⟨a0, trivial⟩
  refine calls_sh (l := [(Value.agg #[(Value.int .i64 g), (Value.slice Ag lg cg)])]) Try.func161 rfl Try.ntmps161 (Nat.le_of_ble_eq_true rfl) ?_
  refine wt_seq ?_
  refine wl_region wd_wide ?_
  refine rl_n rfl rfl rfl rfl (n_box (v := (Value.agg #[(Value.int .i64 g), (Value.slice Ag lg cg)])) rfl ?_)
  intro g3 w2 hN
  replace hS : Sep w no O w2 (stl _ 1 (Res.box 24 g3 [(Value.int .i64 g), (Value.slice Ag lg cg)])) := hS.new 1 rfl hN
  clear hN
  refine ⟨Stb.none _, ?_⟩
  refine rl_q rfl rfl rfl (v_assign (v := (Value.slice none 0 0)) rfl) ?_
  refine rl_end ?_
  refine wt_seq ?_
  refine wl_region wd_wide ?_
  refine rl_q rfl rfl rfl (v_assign (v := (Value.slice none 0 0)) rfl) ?_
  refine rl_end ?_
  refine wt_seq ?_
  refine wt_seq ?_
  refine wl_region wd_wide ?_
  refine rl_q rfl rfl rfl (v_assign (v := (Value.int .i64 0)) rfl) ?_
  refine rl_end ?_
  refine wt_block ?_
  replace hS := hS.nil 2 rfl c2 199
  obtain ⟨I2, ⟨m0, h0⟩, hr⟩ := h
  refine wt_loop (fun m E ds w' => ∃ out : List (Int × Int), ∃ i : Int, ∃ Aout : Option Addr, ∃ lout : Nat, ∃ cout : Nat, I2 m out i ∧ ds = [] ∧ E 1 = (Value.pointer (some (⟨g3, 0, none⟩ : Addr))) ∧ E 3 = (Value.slice Aout lout cout) ∧ E 4 = (Value.int .i64 i) ∧ Sep w no O w' (rl [Res.own c2 199 Aout lout cout out, Res.box 24 g3 [(Value.int .i64 g), (Value.slice Ag lg cg)], Res.ro (FP.sl c3 Ag lg cg g2)])) m0 ⟨_, _, _, _, _, h0, rfl, rfl, rfl, rfl, (hS.sel [2, 1, 0] (by decide))⟩ ?_
  clear h0 hS
  rintro m2 E ds w3 ⟨out, i, Aout, lout, cout, h, rfl, hE1, hE3, hE4, hS⟩ again
  replace h := hr m2 out i h
  clear hr
  refine wt_seq ?_
  refine wt_seq ?_
  refine wl_region wd_wide ?_
  refine rl_q rfl rfl rfl (v_move (v := (Value.int .i64 i)) hE4) ?_
  refine rl_q rfl rfl rfl (v_faddr hE1 Try.underlying24 rfl info_22) ?_
  refine rl_q rfl rfl rfl (v_load rfl Try.underlying22 rfl (Row.cell (hS.bx 1 rfl) (i := 1) rfl)) ?_
  refine rl_q rfl rfl rfl (v_lenx (n := g2.length) rfl Try.underlying22 (rd_len (hS.rdr 2 rfl))) ?_
  refine rl_q rfl rfl rfl (v_lss rfl rfl) ?_
  refine rl_end ?_
  by_cases hp : i < ((g2.length : Nat) : Int)
  · replace h := h.1 hp
    refine wt_cond_t (congrArg Value.bool (decide_eq_true hp)) ?_
    refine wt_skip ?_
    refine wt_seq ?_
    refine wt_block ?_
    refine wt_seq ?_
    refine wl_region wd_wide ?_
    refine rl_q rfl rfl rfl (v_assign (v := (Value.int .i64 0)) rfl) ?_
    refine rl_end ?_
    refine wt_block ?_
    obtain ⟨I3, ⟨m0, h0⟩, hr⟩ := h
    refine wt_loop (fun m E ds w' => ∃ out2 : List (Int × Int), ∃ k : Int, ∃ Aout2 : Option Addr, ∃ lout2 : Nat, ∃ cout2 : Nat, I3 m out2 k ∧ ds = [] ∧ E 1 = (Value.pointer (some (⟨g3, 0, none⟩ : Addr))) ∧ E 3 = (Value.slice Aout2 lout2 cout2) ∧ E 4 = (Value.int .i64 i) ∧ E 5 = (Value.int .i64 k) ∧ Sep w no O w' (rl [Res.own c2 199 Aout2 lout2 cout2 out2, Res.box 24 g3 [(Value.int .i64 g), (Value.slice Ag lg cg)], Res.ro (FP.sl c3 Ag lg cg g2)])) m0 ⟨_, _, _, _, _, h0, rfl, hE1, hE3, hE4, rfl, (hS.sel [0, 1, 2] (by decide))⟩ ?_
    clear h0 hS
    rintro m3 E ds w4 ⟨out2, k, Aout2, lout2, cout2, h, rfl, hE1, hE3, hE4, hE5, hS⟩ again2
    replace h := hr m3 out2 k h
    clear hr
    refine wt_seq ?_
    refine wt_seq ?_
    refine wl_region wd_wide ?_
    refine rl_q rfl rfl rfl (v_move (v := (Value.int .i64 k)) hE5) ?_
    refine rl_q rfl rfl rfl (v_faddr hE1 Try.underlying24 rfl info_22) ?_
    refine rl_q rfl rfl rfl (v_load rfl Try.underlying22 rfl (Row.cell (hS.bx 1 rfl) (i := 1) rfl)) ?_
    refine rl_q rfl rfl rfl (v_move (v := (Value.int .i64 i)) hE4) ?_
    obtain ⟨hx, h⟩ := h
    refine rl_q rfl rfl rfl (v_iaddr rfl rfl Try.underlying22 info_63 (rd_ix (hS.rdr 2 rfl) hx)) ?_
    refine rl_q rfl rfl rfl (v_faddr rfl Try.underlying63 rfl info_3) ?_
    refine rl_q rfl rfl rfl (v_load (v := (Value.int .i64 ((ge g2 i.toNat).2.2))) rfl Try.underlying3 rfl (rd_f (hS.rdr 2 rfl) hx (fun q => ge_some q) 2 rfl)) ?_
    refine rl_q rfl rfl rfl (v_lss rfl rfl) ?_
    refine rl_end ?_
    by_cases hp2 : k < ((ge g2 i.toNat).2.2)
    · replace h := h.1 hp2
      refine wt_cond_t (congrArg Value.bool (decide_eq_true hp2)) ?_
      refine wt_skip ?_
      refine wt_seq ?_
      refine wt_block ?_
      refine wp_draw [0, 1, 2, 3, 4, 5, 6, 7, 8, 9, 10, 11, 12, 13, 14, 15, 16] (fun i => match i with | 13 => [0] | 14 => [0] | _ => []) wd_wide (by kernel_rfl) (by kernel_rfl) ?_
      replace hS := hS.drew
      refine rp_q rfl rfl rfl (v_move (v := (Value.slice Aout2 lout2 cout2)) hE3) ?_
      refine rp_q rfl rfl rfl (v_faddr hE1 Try.underlying24 rfl info_22) ?_
      refine rp_q rfl rfl rfl (v_load rfl Try.underlying22 rfl (Row.cell (hS.bx 1 rfl) (i := 1) rfl)) ?_
      refine rp_q rfl rfl rfl (v_move (v := (Value.int .i64 i)) hE4) ?_
      refine rp_q rfl rfl rfl (v_iaddr rfl rfl Try.underlying22 info_63 (rd_ix (hS.rdr 2 rfl) hx)) ?_
      refine rp_q rfl rfl rfl (v_faddr rfl Try.underlying63 rfl info_3) ?_
      refine rp_q rfl rfl rfl (v_load (v := (Value.int .i64 ((ge g2 i.toNat).1))) rfl Try.underlying3 rfl (rd_f (hS.rdr 2 rfl) hx (fun q => ge_some q) 0 rfl)) ?_
      refine rp_q rfl rfl rfl (v_faddr hE1 Try.underlying24 rfl info_22) ?_
      refine rp_q rfl rfl rfl (v_load rfl Try.underlying22 rfl (Row.cell (hS.bx 1 rfl) (i := 1) rfl)) ?_
      refine rp_q rfl rfl rfl (v_move (v := (Value.int .i64 i)) hE4) ?_
      refine rp_q rfl rfl rfl (v_iaddr rfl rfl Try.underlying22 info_63 (rd_ix (hS.rdr 2 rfl) hx)) ?_
      refine rp_q rfl rfl rfl (v_faddr rfl Try.underlying63 rfl info_3) ?_
      refine rp_q rfl rfl rfl (v_load (v := (Value.int .i64 ((ge g2 i.toNat).2.1))) rfl Try.underlying3 rfl (rd_f (hS.rdr 2 rfl) hx (fun q => ge_some q) 1 rfl)) ?_
      refine rp_n rfl rfl rfl rfl (n_builda (l := [(0, (Value.int .i64 ((ge g2 i.toNat).1))), (1, (Value.int .i64 ((ge g2 i.toNat).2.1)))]) (cells := [(Value.int .i64 ((ge g2 i.toNat).1)), (Value.int .i64 ((ge g2 i.toNat).2.1))]) (bp2 rfl rfl) Try.underlying199 info_199 info_3 rfl ?_)
      refine ⟨⟨fun hh => Bool.noConfusion (show false = true from hh), ⟨fun hh => Bool.noConfusion (show false = true from hh), ⟨fun hh => Bool.noConfusion (show false = true from hh), ⟨fun hh => Bool.noConfusion (show false = true from hh), ⟨fun hh => Bool.noConfusion (show false = true from hh), ⟨fun hh => Bool.noConfusion (show false = true from hh), ⟨fun hh => Bool.noConfusion (show false = true from hh), ⟨fun hh => Bool.noConfusion (show false = true from hh), ⟨fun hh => Bool.noConfusion (show false = true from hh), ⟨fun hh => Bool.noConfusion (show false = true from hh), ⟨fun hh => Bool.noConfusion (show false = true from hh), ⟨fun hh => Bool.noConfusion (show false = true from hh), ⟨fun _ => (v_move (v := (Value.slice Aout2 lout2 cout2)) hE3), trivial⟩⟩⟩⟩⟩⟩⟩⟩⟩⟩⟩⟩⟩, ?_⟩
      refine rp_n rfl rfl rfl rfl (n_bslice (l := [(0, (Value.agg #[(Value.int .i64 ((ge g2 i.toNat).1)), (Value.int .i64 ((ge g2 i.toNat).2.1))]))]) (cells := [(Value.int .i64 ((ge g2 i.toNat).1)), (Value.int .i64 ((ge g2 i.toNat).2.1))]) (bp1 rfl) Try.underlying183 info_199 rfl rfl ?_)
      intro g4 w5 hN
      replace hS := hS.litf (n := 1) 3 rfl (fP (fI .i64) (fI .i64)) hN ([((ge g2 i.toNat).1, (ge g2 i.toNat).2.1)] : List (Int × Int)) rfl (by decide) rfl
      clear hN
      refine ⟨⟨fun hh => Bool.noConfusion (show false = true from hh), ⟨fun hh => Bool.noConfusion (show false = true from hh), ⟨fun hh => Bool.noConfusion (show false = true from hh), ⟨fun hh => Bool.noConfusion (show false = true from hh), ⟨fun hh => Bool.noConfusion (show false = true from hh), ⟨fun hh => Bool.noConfusion (show false = true from hh), ⟨fun hh => Bool.noConfusion (show false = true from hh), ⟨fun hh => Bool.noConfusion (show false = true from hh), ⟨fun hh => Bool.noConfusion (show false = true from hh), ⟨fun hh => Bool.noConfusion (show false = true from hh), ⟨fun hh => Bool.noConfusion (show false = true from hh), ⟨fun hh => Bool.noConfusion (show false = true from hh), ⟨fun _ => (v_move (v := (Value.slice Aout2 lout2 cout2)) hE3), trivial⟩⟩⟩⟩⟩⟩⟩⟩⟩⟩⟩⟩⟩, ?_⟩
      obtain ⟨hx2, h⟩ := h
      refine rp_n rfl rfl rfl rfl (n_app (c := c2) rfl rfl Try.underlying183 Try.underlying183 info_199 rfl rfl (by decide) hS 0 rfl (hS.yo 3 rfl) hx2 ?_)
      clear hS
      intro A c w6 hS
      refine ⟨Stb.none _, ?_⟩
      refine rp_q rfl rfl rfl (v_assign (v := (Value.slice A (lout2 + 1) c)) rfl) ?_
      refine rp_end ?_
      refine wt_inBlock ?_
      refine wl_region wd_wide ?_
      refine rl_q rfl rfl rfl (v_move (v := (Value.int .i64 k)) hE5) ?_
      obtain ⟨hi, h⟩ := h
      refine rl_q rfl rfl rfl (v_add rfl rfl hi) ?_
      refine rl_q rfl rfl rfl (v_assign (v := (Value.int .i64 (k + 1))) rfl) ?_
      refine rl_end ?_
      obtain ⟨mq, hlt, h⟩ := h
      exact again2 mq _ _ _ ⟨_, _, _, _, _, h, rfl, hE1, rfl, hE4, rfl, (hS.sel [0, 1, 2] (by decide))⟩ hlt
    · replace h := h.2 hp2
      refine wt_cond_f (congrArg Value.bool (decide_eq_false hp2)) ?_
      refine wt_exit rfl ?_
      refine wt_inBlock ?_
      refine wl_region wd_wide ?_
      refine rl_q rfl rfl rfl (v_move (v := (Value.int .i64 i)) hE4) ?_
      obtain ⟨hi2, h⟩ := h
      refine rl_q rfl rfl rfl (v_add rfl rfl hi2) ?_
      refine rl_q rfl rfl rfl (v_assign (v := (Value.int .i64 (i + 1))) rfl) ?_
      refine rl_end ?_
      obtain ⟨mq, hlt, h⟩ := h
      exact again mq _ _ _ ⟨_, _, _, _, _, h, rfl, hE1, hE3, rfl, (hS.sel [0, 1, 2] (by decide))⟩ hlt
  · replace h := h.2 hp
    refine wt_cond_f (congrArg Value.bool (decide_eq_false hp)) ?_
    refine wt_exit rfl ?_
    refine wt_seq ?_
    refine wl_region wd_wide ?_
    refine rl_q rfl rfl rfl (v_move (v := (Value.slice Aout lout cout)) hE3) ?_
    refine rl_q rfl rfl rfl (v_assign (v := (Value.slice Aout lout cout)) rfl) ?_
    refine rl_end ?_
    exact wt_ret1 rfl rfl ⟨_, _, _, _, rfl, (hS.sel [0] (by decide)), h⟩

/-- sandpile/sandpileref08.Size: what it computes. -/
def pf_r08_Size (g : Int) (g2 : List (Int × Int × Int)) (R : Int → Prop) : Prop :=
pf_r08_Ends g g2 (fun (r : List (Int × Int)) =>
R ((r.length : Nat) : Int))
theorem pok_r08_Size {O : Nat → Prop} {w : World} {g : Int} {g2 : List (Int × Int × Int)} {Ag : Option Addr} {lg : Nat} {cg : Nat} {R : Int → Prop} (h : pf_r08_Size g g2 R) (hO : ∀ k, O k → k < w.heap.size) (a0 : (FP.sl c3 Ag lg cg g2).P O w) :
    Calls Try.prog 138 #[(Value.agg #[(Value.int .i64 g), (Value.slice Ag lg cg)])] w fun e w' => ∃ r2 : Int, e = .returned (Value.int .i64 r2) ∧ Sep w no O w' (rl []) ∧ R r2 := by
  unfold pf_r08_Size at h
  have hS : Sep w no O w (rl [Res.ro (FP.sl c3 Ag lg cg g2)]) := Sep.startl hO [(FP.sl c3 Ag lg cg g2)] ⟨a0, trivial⟩
  refine calls_sh (l := [(Value.agg #[(Value.int .i64 g), (Value.slice Ag lg cg)])]) Try.func138 rfl Try.ntmps138 (Nat.le_of_ble_eq_true rfl) ?_
  refine wt_seq ?_
  refine wl_region wd_wide ?_
  refine rl_n rfl rfl rfl rfl (n_box (v := (Value.agg #[(Value.int .i64 g), (Value.slice Ag lg cg)])) rfl ?_)
  intro g3 w2 hN
  replace hS : Sep w no O w2 (stl _ 1 (Res.box 24 g3 [(Value.int .i64 g), (Value.slice Ag lg cg)])) := hS.new 1 rfl hN
  clear hN
  refine ⟨Stb.none _, ?_⟩
  refine rl_q rfl rfl rfl (v_assign (v := (Value.int .i64 0)) rfl) ?_
  refine rl_end ?_
  refine wt_seq ?_
  refine wl_region wd_wide ?_
  refine rl_q rfl rfl rfl (v_loadn (vs := [(Value.int .i64 g), (Value.slice Ag lg cg)]) rfl Try.underlying24 rfl info_24 ⟨Row.cell (hS.bx 1 rfl) (i := 0) rfl, Row.cell (hS.bx 1 rfl) (i := 1) rfl, trivial⟩) ?_
  refine rl_n rfl rfl rfl rfl (n_call0 rfl (am1 rfl) enter_161 ((pok_r08_Ends h (no_lt _) (hS.rdr 0 rfl)).mono ?_))
  rintro _ w3 ⟨r, Ar, lr, cr, rfl, hC, h⟩
  replace hS := hS.call1 (hC.widen (flatS (flat_own (fP (fI .i64) (fI .i64)) _ _ _ _ _) flat0) hS.blt) 2 0 rfl
  clear hC
  refine ⟨_, rfl, ?_⟩
  refine ⟨Stb.none _, ?_⟩
  refine rl_q rfl rfl rfl (v_lenx (n := r.length) rfl Try.underlying183 (rd_len (hS.rdo 2 rfl))) ?_
  refine rl_q rfl rfl rfl (v_assign (v := (Value.int .i64 ((r.length : Nat) : Int))) rfl) ?_
  refine rl_end ?_
  exact wt_ret1 rfl rfl ⟨_, rfl, (hS.sel [] (by decide)), h⟩

/-- sandpile/sandpileref08.small: what it computes. -/
def pf_r08_small (g : Int) (g2 : List (Int × Int × Int)) (vertices : Int) (single : Int) (R : Bool → Prop) : Prop :=
((40 < ((g2.length : Nat) : Int) →
R false) ∧
(¬ (40 < ((g2.length : Nat) : Int)) →
pf_r08_Check g g2 (fun (r : Int) =>
((r = 0 →
((g ≤ vertices →
pf_r08_Size g g2 (fun (r2 : Int) =>
R (decide (r2 ≤ single)))) ∧
(¬ (g ≤ vertices) →
R false))) ∧
(¬ (r = 0) →
R true)))))
theorem pok_r08_small {O : Nat → Prop} {w : World} {g : Int} {g2 : List (Int × Int × Int)} {vertices : Int} {single : Int} {Ag : Option Addr} {lg : Nat} {cg : Nat} {R : Bool → Prop} (h : pf_r08_small g g2 vertices single R) (hO : ∀ k, O k → k < w.heap.size) (a0 : (FP.sl c3 Ag lg cg g2).P O w) :
    Calls Try.prog 90 #[(Value.agg #[(Value.int .i64 g), (Value.slice Ag lg cg)]), (Value.int .i64 vertices), (Value.int .i64 single)] w fun e w' => ∃ r3 : Bool, e = .returned (Value.bool (r3)) ∧ Sep w no O w' (rl []) ∧ R r3 := by
  unfold pf_r08_small at h
  have hS : Sep w no O w (rl [Res.ro (FP.sl c3 Ag lg cg g2)]) := Sep.startl hO [(FP.sl c3 Ag lg cg g2)] ⟨a0, trivial⟩
  refine calls_sh (l := [(Value.agg #[(Value.int .i64 g), (Value.slice Ag lg cg)]), (Value.int .i64 vertices), (Value.int .i64 single)]) Try.func90 rfl Try.ntmps90 (Nat.le_of_ble_eq_true rfl) ?_
  refine wt_seq ?_
  refine wl_region wd_wide ?_
  refine rl_n rfl rfl rfl rfl (n_box (v := (Value.agg #[(Value.int .i64 g), (Value.slice Ag lg cg)])) rfl ?_)
  intro g3 w2 hN
  replace hS : Sep w no O w2 (stl _ 1 (Res.box 24 g3 [(Value.int .i64 g), (Value.slice Ag lg cg)])) := hS.new 1 rfl hN
  clear hN
  refine ⟨Stb.none _, ?_⟩
  refine rl_q rfl rfl rfl (v_assign (v := (Value.bool (false))) rfl) ?_
  refine rl_end ?_
  refine wt_seq ?_
  refine wt_seq ?_
  refine wl_region wd_wide ?_
  refine rl_q rfl rfl rfl (v_faddr rfl Try.underlying24 rfl info_22) ?_
  refine rl_q rfl rfl rfl (v_load rfl Try.underlying22 rfl (Row.cell (hS.bx 1 rfl) (i := 1) rfl)) ?_
  refine rl_q rfl rfl rfl (v_lenx (n := g2.length) rfl Try.underlying22 (rd_len (hS.rdr 0 rfl))) ?_
  refine rl_q rfl rfl rfl (v_gtr rfl rfl) ?_
  refine rl_end ?_
  by_cases hp : 40 < ((g2.length : Nat) : Int)
  · replace h := h.1 hp
    refine wt_cond_t (congrArg Value.bool (decide_eq_true hp)) ?_
    refine wt_seq ?_
    refine wl_region wd_wide ?_
    refine rl_q rfl rfl rfl (v_assign (v := (Value.bool (false))) rfl) ?_
    refine rl_end ?_
    exact wt_ret1 rfl rfl ⟨_, rfl, (hS.sel [] (by decide)), h⟩
  · replace h := h.2 hp
    refine wt_cond_f (congrArg Value.bool (decide_eq_false hp)) ?_
    refine wt_skip ?_
    refine wt_seq ?_
    refine wt_seq ?_
    refine wl_region wd_wide ?_
    refine rl_q rfl rfl rfl (v_loadn (vs := [(Value.int .i64 g), (Value.slice Ag lg cg)]) rfl Try.underlying24 rfl info_24 ⟨Row.cell (hS.bx 1 rfl) (i := 0) rfl, Row.cell (hS.bx 1 rfl) (i := 1) rfl, trivial⟩) ?_
    refine rl_n rfl rfl rfl rfl (n_call0 rfl (am1 rfl) enter_127 ((pok_r08_Check h (no_lt _) (hS.rdr 0 rfl)).mono ?_))
    rintro _ w3 ⟨r, rfl, hC, h⟩
    replace hS := hS.pur hC.pure
    clear hC
    refine ⟨_, rfl, ?_⟩
    refine ⟨Stb.none _, ?_⟩
    refine rl_q rfl rfl rfl (v_neq rfl rfl) ?_
    refine rl_end ?_
    by_cases hp2 : r = 0
    · replace h := h.1 hp2
      refine wt_cond_f (congrArg Value.bool (congrArg Bool.not (decide_eq_true hp2))) ?_
      refine wt_skip ?_
      refine wt_seq ?_
      refine wl_region wd_wide ?_
      refine rl_q rfl rfl rfl (v_faddr rfl Try.underlying24 rfl info_3) ?_
      refine rl_q rfl rfl rfl (v_load rfl Try.underlying3 rfl (Row.cell (hS.bx 1 rfl) (i := 0) rfl)) ?_
      refine rl_q rfl rfl rfl (v_move (v := (Value.int .i64 vertices)) rfl) ?_
      refine rl_q rfl rfl rfl (v_leq rfl rfl) ?_
      refine rl_q rfl rfl rfl (v_move (v := (Value.bool (decide (g ≤ vertices)))) rfl) ?_
      by_cases hp3 : g ≤ vertices
      · replace h := h.1 hp3
        refine rl_q (wanted_g rfl (yE_of rfl (congrArg Value.bool (decide_eq_true hp3)))) rfl rfl (v_loadn (vs := [(Value.int .i64 g), (Value.slice Ag lg cg)]) rfl Try.underlying24 rfl info_24 ⟨Row.cell (hS.bx 1 rfl) (i := 0) rfl, Row.cell (hS.bx 1 rfl) (i := 1) rfl, trivial⟩) ?_
        refine rl_n (wanted_g rfl (yE_of rfl (congrArg Value.bool (decide_eq_true hp3)))) rfl rfl rfl (n_call0 rfl (am1 rfl) enter_138 ((pok_r08_Size h (no_lt _) (hS.rdr 0 rfl)).mono ?_))
        rintro _ w4 ⟨r2, rfl, hC, h⟩
        replace hS := hS.pur hC.pure
        clear hC
        refine ⟨_, rfl, ?_⟩
        refine ⟨Stb.none _, ?_⟩
        refine rl_q (wanted_g rfl (yE_of rfl (congrArg Value.bool (decide_eq_true hp3)))) rfl rfl (v_move (v := (Value.int .i64 single)) rfl) ?_
        refine rl_q (wanted_g rfl (yE_of rfl (congrArg Value.bool (decide_eq_true hp3)))) rfl rfl (v_leq rfl rfl) ?_
        refine rl_q rfl rfl rfl (v_pick_t (v := (Value.bool (decide (r2 ≤ single)))) (congrArg Value.bool (decide_eq_true hp3)) rfl) ?_
        refine rl_q rfl rfl rfl (v_assign (v := (Value.bool (decide (r2 ≤ single)))) rfl) ?_
        refine rl_end ?_
        exact wt_ret1 rfl rfl ⟨_, rfl, (hS.sel [] (by decide)), h⟩
      · replace h := h.2 hp3
        refine rl_p (wanted_n rfl (yE_of rfl (congrArg Value.bool (decide_eq_false hp3))) rfl) rfl ?_
        refine rl_p (wanted_n rfl (yE_of rfl (congrArg Value.bool (decide_eq_false hp3))) rfl) rfl ?_
        refine rl_p (wanted_n rfl (yE_of rfl (congrArg Value.bool (decide_eq_false hp3))) rfl) rfl ?_
        refine rl_p (wanted_n rfl (yE_of rfl (congrArg Value.bool (decide_eq_false hp3))) rfl) rfl ?_
        refine rl_q rfl rfl rfl (v_pick_f (v := (Value.bool (false))) (congrArg Value.bool (decide_eq_false hp3)) rfl) ?_
        refine rl_q rfl rfl rfl (v_assign (v := (Value.bool (false))) rfl) ?_
        refine rl_end ?_
        exact wt_ret1 rfl rfl ⟨_, rfl, (hS.sel [] (by decide)), h⟩
    · replace h := h.2 hp2
      refine wt_cond_t (congrArg Value.bool (congrArg Bool.not (decide_eq_false hp2))) ?_
      refine wt_seq ?_
      refine wl_region wd_wide ?_
      refine rl_q rfl rfl rfl (v_assign (v := (Value.bool (true))) rfl) ?_
      refine rl_end ?_
      exact wt_ret1 rfl rfl ⟨_, rfl, (hS.sel [] (by decide)), h⟩

/-- sandpile/sandpileref08.Few: what it computes. -/
def pf_r08_Few (g : Int) (g2 : List (Int × Int × Int)) (R : Bool → Prop) : Prop :=
pf_r08_small g g2 6 9 (fun (r : Bool) =>
R r)
theorem pok_r08_Few {O : Nat → Prop} {w : World} {g : Int} {g2 : List (Int × Int × Int)} {Ag : Option Addr} {lg : Nat} {cg : Nat} {R : Bool → Prop} (h : pf_r08_Few g g2 R) (hO : ∀ k, O k → k < w.heap.size) (a0 : (FP.sl c3 Ag lg cg g2).P O w) :
    Calls Try.prog 113 #[(Value.agg #[(Value.int .i64 g), (Value.slice Ag lg cg)])] w fun e w' => ∃ r2 : Bool, e = .returned (Value.bool (r2)) ∧ Sep w no O w' (rl []) ∧ R r2 := by
  unfold pf_r08_Few at h
  have hS : Sep w no O w (rl [Res.ro (FP.sl c3 Ag lg cg g2)]) := Sep.startl hO [(FP.sl c3 Ag lg cg g2)] ⟨a0, trivial⟩
  refine calls_sh (l := [(Value.agg #[(Value.int .i64 g), (Value.slice Ag lg cg)])]) Try.func113 rfl Try.ntmps113 (Nat.le_of_ble_eq_true rfl) ?_
  refine wt_seq ?_
  refine wl_region wd_wide ?_
  refine rl_n rfl rfl rfl rfl (n_box (v := (Value.agg #[(Value.int .i64 g), (Value.slice Ag lg cg)])) rfl ?_)
  intro g3 w2 hN
  replace hS : Sep w no O w2 (stl _ 1 (Res.box 24 g3 [(Value.int .i64 g), (Value.slice Ag lg cg)])) := hS.new 1 rfl hN
  clear hN
  refine ⟨Stb.none _, ?_⟩
  refine rl_q rfl rfl rfl (v_assign (v := (Value.bool (false))) rfl) ?_
  refine rl_end ?_
  refine wt_seq ?_
  refine wl_region wd_wide ?_
  refine rl_q rfl rfl rfl (v_loadn (vs := [(Value.int .i64 g), (Value.slice Ag lg cg)]) rfl Try.underlying24 rfl info_24 ⟨Row.cell (hS.bx 1 rfl) (i := 0) rfl, Row.cell (hS.bx 1 rfl) (i := 1) rfl, trivial⟩) ?_
  refine rl_n rfl rfl rfl rfl (n_call0 rfl (am3 rfl rfl rfl) enter_90 ((pok_r08_small h (no_lt _) (hS.rdr 0 rfl)).mono ?_))
  rintro _ w3 ⟨r, rfl, hC, h⟩
  replace hS := hS.pur hC.pure
  clear hC
  refine ⟨_, rfl, ?_⟩
  refine ⟨Stb.none _, ?_⟩
  refine rl_q rfl rfl rfl (v_assign (v := (Value.bool (r))) rfl) ?_
  refine rl_end ?_
  exact wt_ret1 rfl rfl ⟨_, rfl, (hS.sel [] (by decide)), h⟩

/-- sandpile/sandpileref08.Reached: what it computes. -/
def pf_r08_Reached (g : Int) (g2 : List (Int × Int × Int)) (v : Int) (R : (List Bool) → Prop) : Prop :=
((0 ≤ g ∧ g ≤ 1000000) ∧
((0 ≤ v ∧ v < (((List.replicate g.toNat false).length : Nat) : Int)) ∧
(∃ I2 : Nat → Int → (List Bool) → Prop, (∃ m0, I2 m0 0 ((List.replicate g.toNat false).set v.toNat true)) ∧ ∀ (m2 : Nat) (round : Int) (out : List Bool), I2 m2 round out → 
((round < g →
(∃ I3 : Nat → Int → (List Bool) → Prop, (∃ m0, I3 m0 0 out) ∧ ∀ (m3 : Nat) (a : Int) (out2 : List Bool), I3 m3 a out2 → 
((a < g →
(∃ I4 : Nat → Int → (List Bool) → Prop, (∃ m0, I4 m0 0 out2) ∧ ∀ (m4 : Nat) (b : Int) (out3 : List Bool), I4 m4 b out3 → 
((b < g →
((0 ≤ a ∧ a < ((out3.length : Nat) : Int)) ∧
((gb out3 a.toNat = true →
pf_r08_Between g g2 a b (fun (r : Int) =>
((0 < r →
((0 ≤ b ∧ b < ((out3.length : Nat) : Int)) ∧
(In64 (b + 1) ∧
∃ m5, m5 < m4 ∧ I4 m5 (b + 1) (out3.set b.toNat true)))) ∧
(¬ (0 < r) →
(In64 (b + 1) ∧
∃ m6, m6 < m4 ∧ I4 m6 (b + 1) out3))))) ∧
(¬ (gb out3 a.toNat = true) →
(In64 (b + 1) ∧
∃ m7, m7 < m4 ∧ I4 m7 (b + 1) out3))))) ∧
(¬ (b < g) →
(In64 (a + 1) ∧
∃ m8, m8 < m3 ∧ I3 m8 (a + 1) out3))))) ∧
(¬ (a < g) →
(In64 (round + 1) ∧
∃ m9, m9 < m2 ∧ I2 m9 (round + 1) out2))))) ∧
(¬ (round < g) →
R out)))))
theorem pok_r08_Reached {O : Nat → Prop} {w : World} {g : Int} {g2 : List (Int × Int × Int)} {v : Int} {Ag : Option Addr} {lg : Nat} {cg : Nat} {R : (List Bool) → Prop} (h : pf_r08_Reached g g2 v R) (hO : ∀ k, O k → k < w.heap.size) (a0 : (FP.sl c3 Ag lg cg g2).P O w) :
    Calls Try.prog 170 #[(Value.agg #[(Value.int .i64 g), (Value.slice Ag lg cg)]), (Value.int .i64 v)] w fun e w' => ∃ r2 : List Bool, ∃ Ar : Option Addr, ∃ lr : Nat, ∃ cr : Nat, e = .returned (Value.slice Ar lr cr) ∧ Sep w no O w' (rl [Res.own cB 4 Ar lr cr r2]) ∧ R r2 := by
  unfold pf_r08_Reached at h
  have hS : Sep w no O w (rl [Res.ro (FP.sl c3 Ag lg cg g2)]) := Sep.startl hO [(FP.sl c3 Ag lg cg g2)] ⟨a0, trivial⟩
  refine calls_sh (l := [(Value.agg #[(Value.int .i64 g), (Value.slice Ag lg cg)]), (Value.int .i64 v)]) Try.func170 rfl Try.ntmps170 (Nat.le_of_ble_eq_true rfl) ?_
  refine wt_seq ?_
  refine wl_region wd_wide ?_
  refine rl_n rfl rfl rfl rfl (n_box (v := (Value.agg #[(Value.int .i64 g), (Value.slice Ag lg cg)])) rfl ?_)
  intro g3 w2 hN
  replace hS : Sep w no O w2 (stl _ 1 (Res.box 24 g3 [(Value.int .i64 g), (Value.slice Ag lg cg)])) := hS.new 1 rfl hN
  clear hN
  refine ⟨Stb.none _, ?_⟩
  refine rl_q rfl rfl rfl (v_assign (v := (Value.slice none 0 0)) rfl) ?_
  refine rl_end ?_
  refine wt_seq ?_
  refine wl_region wd_wide ?_
  refine rl_q rfl rfl rfl (v_faddr rfl Try.underlying24 rfl info_3) ?_
  refine rl_q rfl rfl rfl (v_load rfl Try.underlying3 rfl (Row.cell (hS.bx 1 rfl) (i := 0) rfl)) ?_
  obtain ⟨hx, h⟩ := h
  refine rl_n rfl rfl rfl rfl (n_make rfl rfl Try.underlying145 info_4 (by decide) rfl hx ?_)
  intro g4 w3 hN
  replace hS := hS.made 2 rfl cB (Value.bool (false)) false (fun _ _ => rfl) hN (by omega)
  clear hN
  refine ⟨Stb.none _, ?_⟩
  refine rl_q rfl rfl rfl (v_assign (v := (Value.slice (some ⟨g4, 0, none⟩) g.toNat g.toNat)) rfl) ?_
  refine rl_end ?_
  refine wt_seq ?_
  refine wl_region wd_wide ?_
  refine rl_q rfl rfl rfl (v_move (v := (Value.slice (some ⟨g4, 0, none⟩) g.toNat g.toNat)) rfl) ?_
  refine rl_q rfl rfl rfl (v_move (v := (Value.int .i64 v)) rfl) ?_
  obtain ⟨hx2, h⟩ := h
  refine rl_q rfl rfl rfl (v_iaddr rfl rfl Try.underlying145 info_4 (rd_ix (hS.rdo 2 rfl) hx2)) ?_
  refine rl_n0 rfl rfl rfl (n_store (v := (Value.bool (true))) rfl rfl rfl info_4 (hS.wr 2 rfl rfl hx2) ?_)
  intro w4 e1
  replace hS := hS.st 2 rfl rfl hx2 (x := true) rfl e1
  clear e1
  refine ⟨Stb.none _, ?_⟩
  refine rl_end ?_
  refine wt_seq ?_
  refine wt_seq ?_
  refine wl_region wd_wide ?_
  refine rl_q rfl rfl rfl (v_assign (v := (Value.int .i64 0)) rfl) ?_
  refine rl_end ?_
  refine wt_block ?_
  obtain ⟨I2, ⟨m0, h0⟩, hr⟩ := h
  refine wt_loop (fun m E ds w' => ∃ round : Int, ∃ out : List Bool, ∃ Aout : Option Addr, ∃ lout : Nat, ∃ cout : Nat, I2 m round out ∧ ds = [] ∧ E 2 = (Value.pointer (some (⟨g3, 0, none⟩ : Addr))) ∧ E 5 = (Value.slice Aout lout cout) ∧ E 6 = (Value.int .i64 round) ∧ Sep w no O w' (rl [Res.box 24 g3 [(Value.int .i64 g), (Value.slice Ag lg cg)], Res.ro (FP.sl c3 Ag lg cg g2), Res.own cB 4 Aout lout cout out])) m0 ⟨_, _, _, _, _, h0, rfl, rfl, rfl, rfl, (hS.sel [1, 0, 2] (by decide))⟩ ?_
  clear h0 hS
  rintro m2 E ds w5 ⟨round, out, Aout, lout, cout, h, rfl, hE2, hE5, hE6, hS⟩ again
  replace h := hr m2 round out h
  clear hr
  refine wt_seq ?_
  refine wt_seq ?_
  refine wl_region wd_wide ?_
  refine rl_q rfl rfl rfl (v_move (v := (Value.int .i64 round)) hE6) ?_
  refine rl_q rfl rfl rfl (v_faddr hE2 Try.underlying24 rfl info_3) ?_
  refine rl_q rfl rfl rfl (v_load rfl Try.underlying3 rfl (Row.cell (hS.bx 0 rfl) (i := 0) rfl)) ?_
  refine rl_q rfl rfl rfl (v_lss rfl rfl) ?_
  refine rl_end ?_
  by_cases hp : round < g
  · replace h := h.1 hp
    refine wt_cond_t (congrArg Value.bool (decide_eq_true hp)) ?_
    refine wt_skip ?_
    refine wt_seq ?_
    refine wt_block ?_
    refine wt_seq ?_
    refine wl_region wd_wide ?_
    refine rl_q rfl rfl rfl (v_assign (v := (Value.int .i64 0)) rfl) ?_
    refine rl_end ?_
    refine wt_block ?_
    obtain ⟨I3, ⟨m0, h0⟩, hr⟩ := h
    refine wt_loop (fun m E ds w' => ∃ a : Int, ∃ out2 : List Bool, ∃ Aout2 : Option Addr, ∃ lout2 : Nat, ∃ cout2 : Nat, I3 m a out2 ∧ ds = [] ∧ E 2 = (Value.pointer (some (⟨g3, 0, none⟩ : Addr))) ∧ E 5 = (Value.slice Aout2 lout2 cout2) ∧ E 6 = (Value.int .i64 round) ∧ E 7 = (Value.int .i64 a) ∧ Sep w no O w' (rl [Res.box 24 g3 [(Value.int .i64 g), (Value.slice Ag lg cg)], Res.ro (FP.sl c3 Ag lg cg g2), Res.own cB 4 Aout2 lout2 cout2 out2])) m0 ⟨_, _, _, _, _, h0, rfl, hE2, hE5, hE6, rfl, (hS.sel [0, 1, 2] (by decide))⟩ ?_
    clear h0 hS
    rintro m3 E ds w6 ⟨a, out2, Aout2, lout2, cout2, h, rfl, hE2, hE5, hE6, hE7, hS⟩ again2
    replace h := hr m3 a out2 h
    clear hr
    refine wt_seq ?_
    refine wt_seq ?_
    refine wl_region wd_wide ?_
    refine rl_q rfl rfl rfl (v_move (v := (Value.int .i64 a)) hE7) ?_
    refine rl_q rfl rfl rfl (v_faddr hE2 Try.underlying24 rfl info_3) ?_
    refine rl_q rfl rfl rfl (v_load rfl Try.underlying3 rfl (Row.cell (hS.bx 0 rfl) (i := 0) rfl)) ?_
    refine rl_q rfl rfl rfl (v_lss rfl rfl) ?_
    refine rl_end ?_
    by_cases hp2 : a < g
    · replace h := h.1 hp2
      refine wt_cond_t (congrArg Value.bool (decide_eq_true hp2)) ?_
      refine wt_skip ?_
      refine wt_seq ?_
      refine wt_block ?_
      refine wt_seq ?_
      refine wl_region wd_wide ?_
      refine rl_q rfl rfl rfl (v_assign (v := (Value.int .i64 0)) rfl) ?_
      refine rl_end ?_
      refine wt_block ?_
      obtain ⟨I4, ⟨m0, h0⟩, hr⟩ := h
      refine wt_loop (fun m E ds w' => ∃ b : Int, ∃ out3 : List Bool, ∃ Aout3 : Option Addr, ∃ lout3 : Nat, ∃ cout3 : Nat, I4 m b out3 ∧ ds = [] ∧ E 2 = (Value.pointer (some (⟨g3, 0, none⟩ : Addr))) ∧ E 5 = (Value.slice Aout3 lout3 cout3) ∧ E 6 = (Value.int .i64 round) ∧ E 7 = (Value.int .i64 a) ∧ E 8 = (Value.int .i64 b) ∧ Sep w no O w' (rl [Res.box 24 g3 [(Value.int .i64 g), (Value.slice Ag lg cg)], Res.ro (FP.sl c3 Ag lg cg g2), Res.own cB 4 Aout3 lout3 cout3 out3])) m0 ⟨_, _, _, _, _, h0, rfl, hE2, hE5, hE6, hE7, rfl, (hS.sel [0, 1, 2] (by decide))⟩ ?_
      clear h0 hS
      rintro m4 E ds w7 ⟨b, out3, Aout3, lout3, cout3, h, rfl, hE2, hE5, hE6, hE7, hE8, hS⟩ again3
      replace h := hr m4 b out3 h
      clear hr
      refine wt_seq ?_
      refine wt_seq ?_
      refine wl_region wd_wide ?_
      refine rl_q rfl rfl rfl (v_move (v := (Value.int .i64 b)) hE8) ?_
      refine rl_q rfl rfl rfl (v_faddr hE2 Try.underlying24 rfl info_3) ?_
      refine rl_q rfl rfl rfl (v_load rfl Try.underlying3 rfl (Row.cell (hS.bx 0 rfl) (i := 0) rfl)) ?_
      refine rl_q rfl rfl rfl (v_lss rfl rfl) ?_
      refine rl_end ?_
      by_cases hp3 : b < g
      · replace h := h.1 hp3
        refine wt_cond_t (congrArg Value.bool (decide_eq_true hp3)) ?_
        refine wt_skip ?_
        refine wt_seq ?_
        refine wt_block ?_
        refine wt_seq ?_
        refine wl_region wd_wide ?_
        refine rl_q rfl rfl rfl (v_move (v := (Value.slice Aout3 lout3 cout3)) hE5) ?_
        refine rl_q rfl rfl rfl (v_move (v := (Value.int .i64 a)) hE7) ?_
        obtain ⟨hx3, h⟩ := h
        refine rl_q rfl rfl rfl (v_iaddr rfl rfl Try.underlying145 info_4 (rd_ix (hS.rdo 2 rfl) hx3)) ?_
        refine rl_q rfl rfl rfl (v_load (v := (Value.bool (gb out3 a.toNat))) rfl Try.underlying4 rfl (rd_1 (hS.rdo 2 rfl) hx3 (fun q => gb_some q) rfl)) ?_
        refine rl_q rfl rfl rfl (v_move (v := (Value.bool (gb out3 a.toNat))) rfl) ?_
        by_cases hp4 : gb out3 a.toNat = true
        · replace h := h.1 hp4
          refine rl_q (wanted_g rfl (yE_of rfl (congrArg Value.bool hp4))) rfl rfl (v_loadn (vs := [(Value.int .i64 g), (Value.slice Ag lg cg)]) hE2 Try.underlying24 rfl info_24 ⟨Row.cell (hS.bx 0 rfl) (i := 0) rfl, Row.cell (hS.bx 0 rfl) (i := 1) rfl, trivial⟩) ?_
          refine rl_q (wanted_g rfl (yE_of rfl (congrArg Value.bool hp4))) rfl rfl (v_move (v := (Value.int .i64 a)) hE7) ?_
          refine rl_q (wanted_g rfl (yE_of rfl (congrArg Value.bool hp4))) rfl rfl (v_move (v := (Value.int .i64 b)) hE8) ?_
          refine rl_n (wanted_g rfl (yE_of rfl (congrArg Value.bool hp4))) rfl rfl rfl (n_call0 rfl (am3 rfl rfl rfl) enter_125 ((pok_r08_Between h (no_lt _) (hS.rdr 1 rfl)).mono ?_))
          rintro _ w8 ⟨r, rfl, hC, h⟩
          replace hS := hS.pur hC.pure
          clear hC
          refine ⟨_, rfl, ?_⟩
          refine ⟨Stb.none _, ?_⟩
          refine rl_q (wanted_g rfl (yE_of rfl (congrArg Value.bool hp4))) rfl rfl (v_gtr rfl rfl) ?_
          refine rl_q rfl rfl rfl (v_pick_t (v := (Value.bool (decide (0 < r)))) (congrArg Value.bool hp4) rfl) ?_
          refine rl_end ?_
          by_cases hp5 : 0 < r
          · replace h := h.1 hp5
            refine wt_cond_t (congrArg Value.bool (decide_eq_true hp5)) ?_
            refine wl_region wd_wide ?_
            refine rl_q rfl rfl rfl (v_move (v := (Value.slice Aout3 lout3 cout3)) hE5) ?_
            refine rl_q rfl rfl rfl (v_move (v := (Value.int .i64 b)) hE8) ?_
            obtain ⟨hx4, h⟩ := h
            refine rl_q rfl rfl rfl (v_iaddr rfl rfl Try.underlying145 info_4 (rd_ix (hS.rdo 2 rfl) hx4)) ?_
            refine rl_n0 rfl rfl rfl (n_store (v := (Value.bool (true))) rfl rfl rfl info_4 (hS.wr 2 rfl rfl hx4) ?_)
            intro w9 e1
            replace hS := hS.st 2 rfl rfl hx4 (x := true) rfl e1
            clear e1
            refine ⟨Stb.none _, ?_⟩
            refine rl_end ?_
            refine wt_inBlock ?_
            refine wl_region wd_wide ?_
            refine rl_q rfl rfl rfl (v_move (v := (Value.int .i64 b)) hE8) ?_
            obtain ⟨hi, h⟩ := h
            refine rl_q rfl rfl rfl (v_add rfl rfl hi) ?_
            refine rl_q rfl rfl rfl (v_assign (v := (Value.int .i64 (b + 1))) rfl) ?_
            refine rl_end ?_
            obtain ⟨mq, hlt, h⟩ := h
            exact again3 mq _ _ _ ⟨_, _, _, _, _, h, rfl, hE2, hE5, hE6, hE7, rfl, (hS.sel [0, 1, 2] (by decide))⟩ hlt
          · replace h := h.2 hp5
            refine wt_cond_f (congrArg Value.bool (decide_eq_false hp5)) ?_
            refine wt_skip ?_
            refine wt_inBlock ?_
            refine wl_region wd_wide ?_
            refine rl_q rfl rfl rfl (v_move (v := (Value.int .i64 b)) hE8) ?_
            obtain ⟨hi2, h⟩ := h
            refine rl_q rfl rfl rfl (v_add rfl rfl hi2) ?_
            refine rl_q rfl rfl rfl (v_assign (v := (Value.int .i64 (b + 1))) rfl) ?_
            refine rl_end ?_
            obtain ⟨mq, hlt, h⟩ := h
            exact again3 mq _ _ _ ⟨_, _, _, _, _, h, rfl, hE2, hE5, hE6, hE7, rfl, (hS.sel [0, 1, 2] (by decide))⟩ hlt
        · replace h := h.2 hp4
          refine rl_p (wanted_n rfl (yE_of rfl (congrArg Value.bool (Bool.eq_false_iff.2 hp4))) rfl) rfl ?_
          refine rl_p (wanted_n rfl (yE_of rfl (congrArg Value.bool (Bool.eq_false_iff.2 hp4))) rfl) rfl ?_
          refine rl_p (wanted_n rfl (yE_of rfl (congrArg Value.bool (Bool.eq_false_iff.2 hp4))) rfl) rfl ?_
          refine rl_p (wanted_n rfl (yE_of rfl (congrArg Value.bool (Bool.eq_false_iff.2 hp4))) rfl) rfl ?_
          refine rl_p (wanted_n rfl (yE_of rfl (congrArg Value.bool (Bool.eq_false_iff.2 hp4))) rfl) rfl ?_
          refine rl_q rfl rfl rfl (v_pick_f (v := (Value.bool (false))) (congrArg Value.bool (Bool.eq_false_iff.2 hp4)) rfl) ?_
          refine rl_end ?_
          refine wt_cond_f rfl ?_
          refine wt_skip ?_
          refine wt_inBlock ?_
          refine wl_region wd_wide ?_
          refine rl_q rfl rfl rfl (v_move (v := (Value.int .i64 b)) hE8) ?_
          obtain ⟨hi3, h⟩ := h
          refine rl_q rfl rfl rfl (v_add rfl rfl hi3) ?_
          refine rl_q rfl rfl rfl (v_assign (v := (Value.int .i64 (b + 1))) rfl) ?_
          refine rl_end ?_
          obtain ⟨mq, hlt, h⟩ := h
          exact again3 mq _ _ _ ⟨_, _, _, _, _, h, rfl, hE2, hE5, hE6, hE7, rfl, (hS.sel [0, 1, 2] (by decide))⟩ hlt
      · replace h := h.2 hp3
        refine wt_cond_f (congrArg Value.bool (decide_eq_false hp3)) ?_
        refine wt_exit rfl ?_
        refine wt_inBlock ?_
        refine wl_region wd_wide ?_
        refine rl_q rfl rfl rfl (v_move (v := (Value.int .i64 a)) hE7) ?_
        obtain ⟨hi4, h⟩ := h
        refine rl_q rfl rfl rfl (v_add rfl rfl hi4) ?_
        refine rl_q rfl rfl rfl (v_assign (v := (Value.int .i64 (a + 1))) rfl) ?_
        refine rl_end ?_
        obtain ⟨mq, hlt, h⟩ := h
        exact again2 mq _ _ _ ⟨_, _, _, _, _, h, rfl, hE2, hE5, hE6, rfl, (hS.sel [0, 1, 2] (by decide))⟩ hlt
    · replace h := h.2 hp2
      refine wt_cond_f (congrArg Value.bool (decide_eq_false hp2)) ?_
      refine wt_exit rfl ?_
      refine wt_inBlock ?_
      refine wl_region wd_wide ?_
      refine rl_q rfl rfl rfl (v_move (v := (Value.int .i64 round)) hE6) ?_
      obtain ⟨hi5, h⟩ := h
      refine rl_q rfl rfl rfl (v_add rfl rfl hi5) ?_
      refine rl_q rfl rfl rfl (v_assign (v := (Value.int .i64 (round + 1))) rfl) ?_
      refine rl_end ?_
      obtain ⟨mq, hlt, h⟩ := h
      exact again mq _ _ _ ⟨_, _, _, _, _, h, rfl, hE2, hE5, rfl, (hS.sel [0, 1, 2] (by decide))⟩ hlt
  · replace h := h.2 hp
    refine wt_cond_f (congrArg Value.bool (decide_eq_false hp)) ?_
    refine wt_exit rfl ?_
    refine wt_seq ?_
    refine wl_region wd_wide ?_
    refine rl_q rfl rfl rfl (v_move (v := (Value.slice Aout lout cout)) hE5) ?_
    refine rl_q rfl rfl rfl (v_assign (v := (Value.slice Aout lout cout)) rfl) ?_
    refine rl_end ?_
    exact wt_ret1 rfl rfl ⟨_, _, _, _, rfl, (hS.sel [2] (by decide)), h⟩

/-- sandpile/sandpileref08.Parts: what it computes. -/
def pf_r08_Parts (g : Int) (g2 : List (Int × Int × Int)) (R : Int → Prop) : Prop :=
((0 ≤ g ∧ g ≤ 1000000) ∧
(∃ I2 : Nat → Int → Int → (List Bool) → Prop, (∃ m0, I2 m0 0 0 (List.replicate g.toNat false)) ∧ ∀ (m2 : Nat) (n : Int) (v : Int) (seen : List Bool), I2 m2 n v seen → 
((v < g →
((0 ≤ v ∧ v < ((seen.length : Nat) : Int)) ∧
((gb seen v.toNat = true →
(In64 (v + 1) ∧
∃ m3, m3 < m2 ∧ I2 m3 n (v + 1) seen)) ∧
(¬ (gb seen v.toNat = true) →
(In64 (n + 1) ∧
pf_r08_Reached g g2 v (fun (r : List Bool) =>
(∃ I3 : Nat → Int → (List Bool) → Prop, (∃ m0, I3 m0 0 seen) ∧ ∀ (m4 : Nat) (u : Int) (seen2 : List Bool), I3 m4 u seen2 → 
((u < g →
((0 ≤ u ∧ u < ((seen2.length : Nat) : Int)) ∧
((gb seen2 u.toNat = true →
(In64 (u + 1) ∧
∃ m5, m5 < m4 ∧ I3 m5 (u + 1) (seen2.set u.toNat true))) ∧
(¬ (gb seen2 u.toNat = true) →
((0 ≤ u ∧ u < ((r.length : Nat) : Int)) ∧
(In64 (u + 1) ∧
∃ m6, m6 < m4 ∧ I3 m6 (u + 1) (seen2.set u.toNat (gb r u.toNat)))))))) ∧
(¬ (u < g) →
(In64 (v + 1) ∧
∃ m7, m7 < m2 ∧ I2 m7 (n + 1) (v + 1) seen2)))))))))) ∧
(¬ (v < g) →
R n))))
theorem pok_r08_Parts {O : Nat → Prop} {w : World} {g : Int} {g2 : List (Int × Int × Int)} {Ag : Option Addr} {lg : Nat} {cg : Nat} {R : Int → Prop} (h : pf_r08_Parts g g2 R) (hO : ∀ k, O k → k < w.heap.size) (a0 : (FP.sl c3 Ag lg cg g2).P O w) :
    Calls Try.prog 153 #[(Value.agg #[(Value.int .i64 g), (Value.slice Ag lg cg)])] w fun e w' => ∃ r2 : Int, e = .returned (Value.int .i64 r2) ∧ Sep w no O w' (rl []) ∧ R r2 := by
  unfold pf_r08_Parts at h
  have hS : Sep w no O w (rl [Res.ro (FP.sl c3 Ag lg cg g2)]) := Sep.startl hO [(FP.sl c3 Ag lg cg g2)] ⟨a0, trivial⟩
  refine calls_sh (l := [(Value.agg #[(Value.int .i64 g), (Value.slice Ag lg cg)])]) Try.func153 rfl Try.ntmps153 (Nat.le_of_ble_eq_true rfl) ?_
  refine wt_seq ?_
  refine wl_region wd_wide ?_
  refine rl_n rfl rfl rfl rfl (n_box (v := (Value.agg #[(Value.int .i64 g), (Value.slice Ag lg cg)])) rfl ?_)
  intro g3 w2 hN
  replace hS : Sep w no O w2 (stl _ 1 (Res.box 24 g3 [(Value.int .i64 g), (Value.slice Ag lg cg)])) := hS.new 1 rfl hN
  clear hN
  refine ⟨Stb.none _, ?_⟩
  refine rl_q rfl rfl rfl (v_assign (v := (Value.int .i64 0)) rfl) ?_
  refine rl_end ?_
  refine wt_seq ?_
  refine wl_region wd_wide ?_
  refine rl_q rfl rfl rfl (v_assign (v := (Value.int .i64 0)) rfl) ?_
  refine rl_end ?_
  refine wt_seq ?_
  refine wl_region wd_wide ?_
  refine rl_q rfl rfl rfl (v_faddr rfl Try.underlying24 rfl info_3) ?_
  refine rl_q rfl rfl rfl (v_load rfl Try.underlying3 rfl (Row.cell (hS.bx 1 rfl) (i := 0) rfl)) ?_
  obtain ⟨hx, h⟩ := h
  refine rl_n rfl rfl rfl rfl (n_make rfl rfl Try.underlying145 info_4 (by decide) rfl hx ?_)
  intro g4 w3 hN
  replace hS := hS.made 2 rfl cB (Value.bool (false)) false (fun _ _ => rfl) hN (by omega)
  clear hN
  refine ⟨Stb.none _, ?_⟩
  refine rl_q rfl rfl rfl (v_assign (v := (Value.slice (some ⟨g4, 0, none⟩) g.toNat g.toNat)) rfl) ?_
  refine rl_end ?_
  refine wt_seq ?_
  refine wt_seq ?_
  refine wl_region wd_wide ?_
  refine rl_q rfl rfl rfl (v_assign (v := (Value.int .i64 0)) rfl) ?_
  refine rl_end ?_
  refine wt_block ?_
  obtain ⟨I2, ⟨m0, h0⟩, hr⟩ := h
  refine wt_loop (fun m E ds w' => ∃ n : Int, ∃ v : Int, ∃ seen : List Bool, ∃ Aseen : Option Addr, ∃ lseen : Nat, ∃ cseen : Nat, I2 m n v seen ∧ ds = [] ∧ E 1 = (Value.pointer (some (⟨g3, 0, none⟩ : Addr))) ∧ E 3 = (Value.int .i64 n) ∧ E 4 = (Value.slice Aseen lseen cseen) ∧ E 5 = (Value.int .i64 v) ∧ Sep w no O w' (rl [Res.box 24 g3 [(Value.int .i64 g), (Value.slice Ag lg cg)], Res.ro (FP.sl c3 Ag lg cg g2), Res.own cB 4 Aseen lseen cseen seen])) m0 ⟨_, _, _, _, _, _, h0, rfl, rfl, rfl, rfl, rfl, (hS.sel [1, 0, 2] (by decide))⟩ ?_
  clear h0 hS
  rintro m2 E ds w4 ⟨n, v, seen, Aseen, lseen, cseen, h, rfl, hE1, hE3, hE4, hE5, hS⟩ again
  replace h := hr m2 n v seen h
  clear hr
  refine wt_seq ?_
  refine wt_seq ?_
  refine wl_region wd_wide ?_
  refine rl_q rfl rfl rfl (v_move (v := (Value.int .i64 v)) hE5) ?_
  refine rl_q rfl rfl rfl (v_faddr hE1 Try.underlying24 rfl info_3) ?_
  refine rl_q rfl rfl rfl (v_load rfl Try.underlying3 rfl (Row.cell (hS.bx 0 rfl) (i := 0) rfl)) ?_
  refine rl_q rfl rfl rfl (v_lss rfl rfl) ?_
  refine rl_end ?_
  by_cases hp : v < g
  · replace h := h.1 hp
    refine wt_cond_t (congrArg Value.bool (decide_eq_true hp)) ?_
    refine wt_skip ?_
    refine wt_seq ?_
    refine wt_block ?_
    refine wt_seq ?_
    refine wt_seq ?_
    refine wl_region wd_wide ?_
    refine rl_q rfl rfl rfl (v_move (v := (Value.slice Aseen lseen cseen)) hE4) ?_
    refine rl_q rfl rfl rfl (v_move (v := (Value.int .i64 v)) hE5) ?_
    obtain ⟨hx2, h⟩ := h
    refine rl_q rfl rfl rfl (v_iaddr rfl rfl Try.underlying145 info_4 (rd_ix (hS.rdo 2 rfl) hx2)) ?_
    refine rl_q rfl rfl rfl (v_load (v := (Value.bool (gb seen v.toNat))) rfl Try.underlying4 rfl (rd_1 (hS.rdo 2 rfl) hx2 (fun q => gb_some q) rfl)) ?_
    refine rl_end ?_
    by_cases hp2 : gb seen v.toNat = true
    · replace h := h.1 hp2
      refine wt_cond_t (congrArg Value.bool hp2) ?_
      refine wt_exit rfl ?_
      refine wl_region wd_wide ?_
      refine rl_q rfl rfl rfl (v_move (v := (Value.int .i64 v)) hE5) ?_
      obtain ⟨hi, h⟩ := h
      refine rl_q rfl rfl rfl (v_add rfl rfl hi) ?_
      refine rl_q rfl rfl rfl (v_assign (v := (Value.int .i64 (v + 1))) rfl) ?_
      refine rl_end ?_
      obtain ⟨mq, hlt, h⟩ := h
      exact again mq _ _ _ ⟨_, _, _, _, _, _, h, rfl, hE1, hE3, hE4, rfl, (hS.sel [0, 1, 2] (by decide))⟩ hlt
    · replace h := h.2 hp2
      refine wt_cond_f (congrArg Value.bool (Bool.eq_false_iff.2 hp2)) ?_
      refine wt_skip ?_
      refine wt_seq ?_
      refine wl_region wd_wide ?_
      refine rl_q rfl rfl rfl (v_move (v := (Value.int .i64 n)) hE3) ?_
      obtain ⟨hi2, h⟩ := h
      refine rl_q rfl rfl rfl (v_add rfl rfl hi2) ?_
      refine rl_q rfl rfl rfl (v_assign (v := (Value.int .i64 (n + 1))) rfl) ?_
      refine rl_end ?_
      refine wt_seq ?_
      refine wl_region wd_wide ?_
      refine rl_q rfl rfl rfl (v_loadn (vs := [(Value.int .i64 g), (Value.slice Ag lg cg)]) hE1 Try.underlying24 rfl info_24 ⟨Row.cell (hS.bx 0 rfl) (i := 0) rfl, Row.cell (hS.bx 0 rfl) (i := 1) rfl, trivial⟩) ?_
      refine rl_q rfl rfl rfl (v_move (v := (Value.int .i64 v)) hE5) ?_
      refine rl_n rfl rfl rfl rfl (n_call0 rfl (am2 rfl rfl) enter_170 ((pok_r08_Reached h (no_lt _) (hS.rdr 1 rfl)).mono ?_))
      rintro _ w5 ⟨r, Ar, lr, cr, rfl, hC, h⟩
      replace hS := hS.call1 (hC.widen (flatS (flat_own fB _ _ _ _ _) flat0) hS.blt) 3 0 rfl
      clear hC
      refine ⟨_, rfl, ?_⟩
      refine ⟨Stb.none _, ?_⟩
      refine rl_q rfl rfl rfl (v_assign (v := (Value.slice Ar lr cr)) rfl) ?_
      refine rl_end ?_
      refine wt_seq ?_
      refine wl_region wd_wide ?_
      refine rl_q rfl rfl rfl (v_assign (v := (Value.int .i64 0)) rfl) ?_
      refine rl_end ?_
      refine wt_block ?_
      obtain ⟨I3, ⟨m0, h0⟩, hr⟩ := h
      refine wt_loop (fun m E ds w' => ∃ u : Int, ∃ seen2 : List Bool, ∃ Aseen2 : Option Addr, ∃ lseen2 : Nat, ∃ cseen2 : Nat, I3 m u seen2 ∧ ds = [] ∧ E 1 = (Value.pointer (some (⟨g3, 0, none⟩ : Addr))) ∧ E 3 = (Value.int .i64 (n + 1)) ∧ E 4 = (Value.slice Aseen2 lseen2 cseen2) ∧ E 5 = (Value.int .i64 v) ∧ E 6 = (Value.slice Ar lr cr) ∧ E 7 = (Value.int .i64 u) ∧ Sep w no O w' (rl [Res.box 24 g3 [(Value.int .i64 g), (Value.slice Ag lg cg)], Res.ro (FP.sl c3 Ag lg cg g2), Res.own cB 4 Aseen2 lseen2 cseen2 seen2, Res.own cB 4 Ar lr cr r])) m0 ⟨_, _, _, _, _, h0, rfl, hE1, rfl, hE4, hE5, rfl, rfl, (hS.sel [0, 1, 2, 3] (by decide))⟩ ?_
      clear h0 hS
      rintro m4 E ds w6 ⟨u, seen2, Aseen2, lseen2, cseen2, h, rfl, hE1, hE3, hE4, hE5, hE6, hE7, hS⟩ again2
      replace h := hr m4 u seen2 h
      clear hr
      refine wt_seq ?_
      refine wt_seq ?_
      refine wl_region wd_wide ?_
      refine rl_q rfl rfl rfl (v_move (v := (Value.int .i64 u)) hE7) ?_
      refine rl_q rfl rfl rfl (v_faddr hE1 Try.underlying24 rfl info_3) ?_
      refine rl_q rfl rfl rfl (v_load rfl Try.underlying3 rfl (Row.cell (hS.bx 0 rfl) (i := 0) rfl)) ?_
      refine rl_q rfl rfl rfl (v_lss rfl rfl) ?_
      refine rl_end ?_
      by_cases hp3 : u < g
      · replace h := h.1 hp3
        refine wt_cond_t (congrArg Value.bool (decide_eq_true hp3)) ?_
        refine wt_skip ?_
        refine wt_seq ?_
        refine wt_block ?_
        refine wl_region wd_wide ?_
        refine rl_q rfl rfl rfl (v_move (v := (Value.slice Aseen2 lseen2 cseen2)) hE4) ?_
        refine rl_q rfl rfl rfl (v_move (v := (Value.int .i64 u)) hE7) ?_
        refine rl_q rfl rfl rfl (v_move (v := (Value.slice Aseen2 lseen2 cseen2)) hE4) ?_
        refine rl_q rfl rfl rfl (v_move (v := (Value.int .i64 u)) hE7) ?_
        obtain ⟨hx3, h⟩ := h
        refine rl_q rfl rfl rfl (v_iaddr rfl rfl Try.underlying145 info_4 (rd_ix (hS.rdo 2 rfl) hx3)) ?_
        refine rl_q rfl rfl rfl (v_load (v := (Value.bool (gb seen2 u.toNat))) rfl Try.underlying4 rfl (rd_1 (hS.rdo 2 rfl) hx3 (fun q => gb_some q) rfl)) ?_
        refine rl_q rfl rfl rfl (v_move (v := (Value.bool (gb seen2 u.toNat))) rfl) ?_
        by_cases hp4 : gb seen2 u.toNat = true
        · replace h := h.1 hp4
          refine rl_p (wanted_n rfl (yE_of rfl (congrArg Value.bool hp4)) rfl) rfl ?_
          refine rl_p (wanted_n rfl (yE_of rfl (congrArg Value.bool hp4)) rfl) rfl ?_
          refine rl_p (wanted_n rfl (yE_of rfl (congrArg Value.bool hp4)) rfl) rfl ?_
          refine rl_p (wanted_n rfl (yE_of rfl (congrArg Value.bool hp4)) rfl) rfl ?_
          refine rl_q rfl rfl rfl (v_pick_t (v := (Value.bool (true))) (congrArg Value.bool hp4) rfl) ?_
          refine rl_q rfl rfl rfl (v_iaddr rfl rfl Try.underlying145 info_4 (rd_ix (hS.rdo 2 rfl) hx3)) ?_
          refine rl_n0 rfl rfl rfl (n_store (v := (Value.bool (true))) rfl rfl rfl info_4 (hS.wr 2 rfl rfl hx3) ?_)
          intro w7 e1
          replace hS := hS.st 2 rfl rfl hx3 (x := true) rfl e1
          clear e1
          refine ⟨Stb.none _, ?_⟩
          refine rl_end ?_
          refine wt_inBlock ?_
          refine wl_region wd_wide ?_
          refine rl_q rfl rfl rfl (v_move (v := (Value.int .i64 u)) hE7) ?_
          obtain ⟨hi3, h⟩ := h
          refine rl_q rfl rfl rfl (v_add rfl rfl hi3) ?_
          refine rl_q rfl rfl rfl (v_assign (v := (Value.int .i64 (u + 1))) rfl) ?_
          refine rl_end ?_
          obtain ⟨mq, hlt, h⟩ := h
          exact again2 mq _ _ _ ⟨_, _, _, _, _, h, rfl, hE1, hE3, hE4, hE5, hE6, rfl, (hS.sel [0, 1, 2, 3] (by decide))⟩ hlt
        · replace h := h.2 hp4
          refine rl_q (wanted_g rfl (yE_of rfl (congrArg Value.bool (Bool.eq_false_iff.2 hp4)))) rfl rfl (v_move (v := (Value.slice Ar lr cr)) hE6) ?_
          refine rl_q (wanted_g rfl (yE_of rfl (congrArg Value.bool (Bool.eq_false_iff.2 hp4)))) rfl rfl (v_move (v := (Value.int .i64 u)) hE7) ?_
          obtain ⟨hx4, h⟩ := h
          refine rl_q (wanted_g rfl (yE_of rfl (congrArg Value.bool (Bool.eq_false_iff.2 hp4)))) rfl rfl (v_iaddr rfl rfl Try.underlying145 info_4 (rd_ix (hS.rdo 3 rfl) hx4)) ?_
          refine rl_q (wanted_g rfl (yE_of rfl (congrArg Value.bool (Bool.eq_false_iff.2 hp4)))) rfl rfl (v_load (v := (Value.bool (gb r u.toNat))) rfl Try.underlying4 rfl (rd_1 (hS.rdo 3 rfl) hx4 (fun q => gb_some q) rfl)) ?_
          refine rl_q rfl rfl rfl (v_pick_f (v := (Value.bool (gb r u.toNat))) (congrArg Value.bool (Bool.eq_false_iff.2 hp4)) rfl) ?_
          refine rl_q rfl rfl rfl (v_iaddr rfl rfl Try.underlying145 info_4 (rd_ix (hS.rdo 2 rfl) hx3)) ?_
          refine rl_n0 rfl rfl rfl (n_store (v := (Value.bool (gb r u.toNat))) rfl rfl rfl info_4 (hS.wr 2 rfl rfl hx3) ?_)
          intro w8 e1
          replace hS := hS.st 2 rfl rfl hx3 (x := gb r u.toNat) rfl e1
          clear e1
          refine ⟨Stb.none _, ?_⟩
          refine rl_end ?_
          refine wt_inBlock ?_
          refine wl_region wd_wide ?_
          refine rl_q rfl rfl rfl (v_move (v := (Value.int .i64 u)) hE7) ?_
          obtain ⟨hi4, h⟩ := h
          refine rl_q rfl rfl rfl (v_add rfl rfl hi4) ?_
          refine rl_q rfl rfl rfl (v_assign (v := (Value.int .i64 (u + 1))) rfl) ?_
          refine rl_end ?_
          obtain ⟨mq, hlt, h⟩ := h
          exact again2 mq _ _ _ ⟨_, _, _, _, _, h, rfl, hE1, hE3, hE4, hE5, hE6, rfl, (hS.sel [0, 1, 2, 3] (by decide))⟩ hlt
      · replace h := h.2 hp3
        refine wt_cond_f (congrArg Value.bool (decide_eq_false hp3)) ?_
        refine wt_exit rfl ?_
        refine wt_inBlock ?_
        refine wl_region wd_wide ?_
        refine rl_q rfl rfl rfl (v_move (v := (Value.int .i64 v)) hE5) ?_
        obtain ⟨hi5, h⟩ := h
        refine rl_q rfl rfl rfl (v_add rfl rfl hi5) ?_
        refine rl_q rfl rfl rfl (v_assign (v := (Value.int .i64 (v + 1))) rfl) ?_
        refine rl_end ?_
        obtain ⟨mq, hlt, h⟩ := h
        exact again mq _ _ _ ⟨_, _, _, _, _, _, h, rfl, hE1, hE3, hE4, rfl, (hS.sel [0, 1, 2] (by decide))⟩ hlt
  · replace h := h.2 hp
    refine wt_cond_f (congrArg Value.bool (decide_eq_false hp)) ?_
    refine wt_exit rfl ?_
    refine wt_seq ?_
    refine wl_region wd_wide ?_
    refine rl_q rfl rfl rfl (v_move (v := (Value.int .i64 n)) hE3) ?_
    refine rl_q rfl rfl rfl (v_assign (v := (Value.int .i64 n)) rfl) ?_
    refine rl_end ?_
    exact wt_ret1 rfl rfl ⟨_, rfl, (hS.sel [] (by decide)), h⟩

/-- sandpile/sandpileref08.Connected: what it computes. -/
def pf_r08_Connected (g : Int) (g2 : List (Int × Int × Int)) (R : Bool → Prop) : Prop :=
pf_r08_Parts g g2 (fun (r : Int) =>
R (decide (r = 1)))
theorem pok_r08_Connected {O : Nat → Prop} {w : World} {g : Int} {g2 : List (Int × Int × Int)} {Ag : Option Addr} {lg : Nat} {cg : Nat} {R : Bool → Prop} (h : pf_r08_Connected g g2 R) (hO : ∀ k, O k → k < w.heap.size) (a0 : (FP.sl c3 Ag lg cg g2).P O w) :
    Calls Try.prog 128 #[(Value.agg #[(Value.int .i64 g), (Value.slice Ag lg cg)])] w fun e w' => ∃ r2 : Bool, e = .returned (Value.bool (r2)) ∧ Sep w no O w' (rl []) ∧ R r2 := by
  unfold pf_r08_Connected at h
  have hS : Sep w no O w (rl [Res.ro (FP.sl c3 Ag lg cg g2)]) := Sep.startl hO [(FP.sl c3 Ag lg cg g2)] ⟨a0, trivial⟩
  refine calls_sh (l := [(Value.agg #[(Value.int .i64 g), (Value.slice Ag lg cg)])]) Try.func128 rfl Try.ntmps128 (Nat.le_of_ble_eq_true rfl) ?_
  refine wt_seq ?_
  refine wl_region wd_wide ?_
  refine rl_n rfl rfl rfl rfl (n_box (v := (Value.agg #[(Value.int .i64 g), (Value.slice Ag lg cg)])) rfl ?_)
  intro g3 w2 hN
  replace hS : Sep w no O w2 (stl _ 1 (Res.box 24 g3 [(Value.int .i64 g), (Value.slice Ag lg cg)])) := hS.new 1 rfl hN
  clear hN
  refine ⟨Stb.none _, ?_⟩
  refine rl_q rfl rfl rfl (v_assign (v := (Value.bool (false))) rfl) ?_
  refine rl_end ?_
  refine wt_seq ?_
  refine wl_region wd_wide ?_
  refine rl_q rfl rfl rfl (v_loadn (vs := [(Value.int .i64 g), (Value.slice Ag lg cg)]) rfl Try.underlying24 rfl info_24 ⟨Row.cell (hS.bx 1 rfl) (i := 0) rfl, Row.cell (hS.bx 1 rfl) (i := 1) rfl, trivial⟩) ?_
  refine rl_n rfl rfl rfl rfl (n_call0 rfl (am1 rfl) enter_153 ((pok_r08_Parts h (no_lt _) (hS.rdr 0 rfl)).mono ?_))
  rintro _ w3 ⟨r, rfl, hC, h⟩
  replace hS := hS.pur hC.pure
  clear hC
  refine ⟨_, rfl, ?_⟩
  refine ⟨Stb.none _, ?_⟩
  refine rl_q rfl rfl rfl (v_eql rfl rfl) ?_
  refine rl_q rfl rfl rfl (v_assign (v := (Value.bool (decide (r = 1)))) rfl) ?_
  refine rl_end ?_
  exact wt_ret1 rfl rfl ⟨_, rfl, (hS.sel [] (by decide)), h⟩

/-- sandpile/sandpileref25.Few: what it computes. -/
def pf_r25_Few (g : Int) (g2 : List (Int × Int × Int)) (R : Bool → Prop) : Prop :=
pf_r08_Few g g2 (fun (r : Bool) =>
R r)
theorem pok_r25_Few {O : Nat → Prop} {w : World} {g : Int} {g2 : List (Int × Int × Int)} {Ag : Option Addr} {lg : Nat} {cg : Nat} {R : Bool → Prop} (h : pf_r25_Few g g2 R) (hO : ∀ k, O k → k < w.heap.size) (a0 : (FP.sl c3 Ag lg cg g2).P O w) :
    Calls Try.prog 60 #[(Value.agg #[(Value.int .i64 g), (Value.slice Ag lg cg)])] w fun e w' => ∃ r2 : Bool, e = .returned (Value.bool (r2)) ∧ Sep w no O w' (rl []) ∧ R r2 := by
  unfold pf_r25_Few at h
  have hS : Sep w no O w (rl [Res.ro (FP.sl c3 Ag lg cg g2)]) := Sep.startl hO [(FP.sl c3 Ag lg cg g2)] ⟨a0, trivial⟩
  refine calls_sh (l := [(Value.agg #[(Value.int .i64 g), (Value.slice Ag lg cg)])]) Try.func60 rfl Try.ntmps60 (Nat.le_of_ble_eq_true rfl) ?_
  refine wt_seq ?_
  refine wl_region wd_wide ?_
  refine rl_n rfl rfl rfl rfl (n_box (v := (Value.agg #[(Value.int .i64 g), (Value.slice Ag lg cg)])) rfl ?_)
  intro g3 w2 hN
  replace hS : Sep w no O w2 (stl _ 1 (Res.box 24 g3 [(Value.int .i64 g), (Value.slice Ag lg cg)])) := hS.new 1 rfl hN
  clear hN
  refine ⟨Stb.none _, ?_⟩
  refine rl_q rfl rfl rfl (v_assign (v := (Value.bool (false))) rfl) ?_
  refine rl_end ?_
  refine wt_seq ?_
  refine wl_region wd_wide ?_
  refine rl_q rfl rfl rfl (v_loadn (vs := [(Value.int .i64 g), (Value.slice Ag lg cg)]) rfl Try.underlying24 rfl info_24 ⟨Row.cell (hS.bx 1 rfl) (i := 0) rfl, Row.cell (hS.bx 1 rfl) (i := 1) rfl, trivial⟩) ?_
  refine rl_n rfl rfl rfl rfl (n_call0 rfl (am1 rfl) enter_113 ((pok_r08_Few h (no_lt _) (hS.rdr 0 rfl)).mono ?_))
  rintro _ w3 ⟨r, rfl, hC, h⟩
  replace hS := hS.pur hC.pure
  clear hC
  refine ⟨_, rfl, ?_⟩
  refine ⟨Stb.none _, ?_⟩
  refine rl_q rfl rfl rfl (v_assign (v := (Value.bool (r))) rfl) ?_
  refine rl_end ?_
  exact wt_ret1 rfl rfl ⟨_, rfl, (hS.sel [] (by decide)), h⟩

/-- sandpile/sandpileref25.Joined: what it computes. -/
def pf_r25_Joined (g : Int) (g2 : List (Int × Int × Int)) (R : Int → Prop) : Prop :=
pf_r08_Check g g2 (fun (r : Int) =>
((r = 0 →
pf_r08_Connected g g2 (fun (r2 : Bool) =>
((r2 = true →
R 0) ∧
(¬ (r2 = true) →
R 13)))) ∧
(¬ (r = 0) →
R r)))
theorem pok_r25_Joined {O : Nat → Prop} {w : World} {g : Int} {g2 : List (Int × Int × Int)} {Ag : Option Addr} {lg : Nat} {cg : Nat} {R : Int → Prop} (h : pf_r25_Joined g g2 R) (hO : ∀ k, O k → k < w.heap.size) (a0 : (FP.sl c3 Ag lg cg g2).P O w) :
    Calls Try.prog 79 #[(Value.agg #[(Value.int .i64 g), (Value.slice Ag lg cg)])] w fun e w' => ∃ r3 : Int, e = .returned (Value.int .i64 r3) ∧ Sep w no O w' (rl []) ∧ R r3 := by
  unfold pf_r25_Joined at h
  have hS : Sep w no O w (rl [Res.ro (FP.sl c3 Ag lg cg g2)]) := Sep.startl hO [(FP.sl c3 Ag lg cg g2)] ⟨a0, trivial⟩
  refine calls_sh (l := [(Value.agg #[(Value.int .i64 g), (Value.slice Ag lg cg)])]) Try.func79 rfl Try.ntmps79 (Nat.le_of_ble_eq_true rfl) ?_
  refine wt_seq ?_
  refine wl_region wd_wide ?_
  refine rl_n rfl rfl rfl rfl (n_box (v := (Value.agg #[(Value.int .i64 g), (Value.slice Ag lg cg)])) rfl ?_)
  intro g3 w2 hN
  replace hS : Sep w no O w2 (stl _ 1 (Res.box 24 g3 [(Value.int .i64 g), (Value.slice Ag lg cg)])) := hS.new 1 rfl hN
  clear hN
  refine ⟨Stb.none _, ?_⟩
  refine rl_q rfl rfl rfl (v_assign (v := (Value.int .i64 0)) rfl) ?_
  refine rl_end ?_
  refine wt_seq ?_
  refine wt_seq ?_
  refine wl_region wd_wide ?_
  refine rl_q rfl rfl rfl (v_loadn (vs := [(Value.int .i64 g), (Value.slice Ag lg cg)]) rfl Try.underlying24 rfl info_24 ⟨Row.cell (hS.bx 1 rfl) (i := 0) rfl, Row.cell (hS.bx 1 rfl) (i := 1) rfl, trivial⟩) ?_
  refine rl_n rfl rfl rfl rfl (n_call0 rfl (am1 rfl) enter_127 ((pok_r08_Check h (no_lt _) (hS.rdr 0 rfl)).mono ?_))
  rintro _ w3 ⟨r, rfl, hC, h⟩
  replace hS := hS.pur hC.pure
  clear hC
  refine ⟨_, rfl, ?_⟩
  refine ⟨Stb.none _, ?_⟩
  refine rl_q rfl rfl rfl (v_assign (v := (Value.int .i64 r)) rfl) ?_
  refine rl_end ?_
  refine wt_seq ?_
  refine wl_region wd_wide ?_
  refine rl_q rfl rfl rfl (v_move (v := (Value.int .i64 r)) rfl) ?_
  refine rl_q rfl rfl rfl (v_neq rfl rfl) ?_
  refine rl_end ?_
  by_cases hp : r = 0
  · replace h := h.1 hp
    refine wt_cond_f (congrArg Value.bool (congrArg Bool.not (decide_eq_true hp))) ?_
    refine wt_skip ?_
    refine wt_seq ?_
    refine wt_seq ?_
    refine wl_region wd_wide ?_
    refine rl_q rfl rfl rfl (v_loadn (vs := [(Value.int .i64 g), (Value.slice Ag lg cg)]) rfl Try.underlying24 rfl info_24 ⟨Row.cell (hS.bx 1 rfl) (i := 0) rfl, Row.cell (hS.bx 1 rfl) (i := 1) rfl, trivial⟩) ?_
    refine rl_n rfl rfl rfl rfl (n_call0 rfl (am1 rfl) enter_128 ((pok_r08_Connected h (no_lt _) (hS.rdr 0 rfl)).mono ?_))
    rintro _ w4 ⟨r2, rfl, hC, h⟩
    replace hS := hS.pur hC.pure
    clear hC
    refine ⟨_, rfl, ?_⟩
    refine ⟨Stb.none _, ?_⟩
    refine rl_q rfl rfl rfl (v_not rfl) ?_
    refine rl_end ?_
    by_cases hp2 : r2 = true
    · replace h := h.1 hp2
      refine wt_cond_f (congrArg Value.bool (congrArg Bool.not hp2)) ?_
      refine wt_skip ?_
      refine wt_seq ?_
      refine wl_region wd_wide ?_
      refine rl_q rfl rfl rfl (v_assign (v := (Value.int .i64 0)) rfl) ?_
      refine rl_end ?_
      exact wt_ret1 rfl rfl ⟨_, rfl, (hS.sel [] (by decide)), h⟩
    · replace h := h.2 hp2
      refine wt_cond_t (congrArg Value.bool (congrArg Bool.not (Bool.eq_false_iff.2 hp2))) ?_
      refine wt_seq ?_
      refine wl_region wd_wide ?_
      refine rl_q rfl rfl rfl (v_assign (v := (Value.int .i64 13)) rfl) ?_
      refine rl_end ?_
      exact wt_ret1 rfl rfl ⟨_, rfl, (hS.sel [] (by decide)), h⟩
  · replace h := h.2 hp
    refine wt_cond_t (congrArg Value.bool (congrArg Bool.not (decide_eq_false hp))) ?_
    refine wt_seq ?_
    refine wl_region wd_wide ?_
    refine rl_q rfl rfl rfl (v_move (v := (Value.int .i64 r)) rfl) ?_
    refine rl_q rfl rfl rfl (v_assign (v := (Value.int .i64 r)) rfl) ?_
    refine rl_end ?_
    exact wt_ret1 rfl rfl ⟨_, rfl, (hS.sel [] (by decide)), h⟩

/-- sandpile/sandpileref34.Few: what it computes. -/
def pf_r34_Few (g : Int) (g2 : List (Int × Int × Int)) (R : Bool → Prop) : Prop :=
pf_r25_Few g g2 (fun (r : Bool) =>
R r)
theorem pok_r34_Few {O : Nat → Prop} {w : World} {g : Int} {g2 : List (Int × Int × Int)} {Ag : Option Addr} {lg : Nat} {cg : Nat} {R : Bool → Prop} (h : pf_r34_Few g g2 R) (hO : ∀ k, O k → k < w.heap.size) (a0 : (FP.sl c3 Ag lg cg g2).P O w) :
    Calls Try.prog 16 #[(Value.agg #[(Value.int .i64 g), (Value.slice Ag lg cg)])] w fun e w' => ∃ r2 : Bool, e = .returned (Value.bool (r2)) ∧ Sep w no O w' (rl []) ∧ R r2 := by
  unfold pf_r34_Few at h
  have hS : Sep w no O w (rl [Res.ro (FP.sl c3 Ag lg cg g2)]) := Sep.startl hO [(FP.sl c3 Ag lg cg g2)] ⟨a0, trivial⟩
  refine calls_sh (l := [(Value.agg #[(Value.int .i64 g), (Value.slice Ag lg cg)])]) Try.func16 rfl Try.ntmps16 (Nat.le_of_ble_eq_true rfl) ?_
  refine wt_seq ?_
  refine wl_region wd_wide ?_
  refine rl_n rfl rfl rfl rfl (n_box (v := (Value.agg #[(Value.int .i64 g), (Value.slice Ag lg cg)])) rfl ?_)
  intro g3 w2 hN
  replace hS : Sep w no O w2 (stl _ 1 (Res.box 24 g3 [(Value.int .i64 g), (Value.slice Ag lg cg)])) := hS.new 1 rfl hN
  clear hN
  refine ⟨Stb.none _, ?_⟩
  refine rl_q rfl rfl rfl (v_assign (v := (Value.bool (false))) rfl) ?_
  refine rl_end ?_
  refine wt_seq ?_
  refine wl_region wd_wide ?_
  refine rl_q rfl rfl rfl (v_loadn (vs := [(Value.int .i64 g), (Value.slice Ag lg cg)]) rfl Try.underlying24 rfl info_24 ⟨Row.cell (hS.bx 1 rfl) (i := 0) rfl, Row.cell (hS.bx 1 rfl) (i := 1) rfl, trivial⟩) ?_
  refine rl_n rfl rfl rfl rfl (n_call0 rfl (am1 rfl) enter_60 ((pok_r25_Few h (no_lt _) (hS.rdr 0 rfl)).mono ?_))
  rintro _ w3 ⟨r, rfl, hC, h⟩
  replace hS := hS.pur hC.pure
  clear hC
  refine ⟨_, rfl, ?_⟩
  refine ⟨Stb.none _, ?_⟩
  refine rl_q rfl rfl rfl (v_assign (v := (Value.bool (r))) rfl) ?_
  refine rl_end ?_
  exact wt_ret1 rfl rfl ⟨_, rfl, (hS.sel [] (by decide)), h⟩

/-- sandpile/sandpileref34.Low: what it computes. -/
def pf_r34_Low (g : Int) (g2 : List (Int × Int × Int)) (d : List Int) (R : Bool → Prop) : Prop :=
((100 < ((d.length : Nat) : Int) →
R false) ∧
(¬ (100 < ((d.length : Nat) : Int)) →
pf_r17_Check d g (fun (r : Int) =>
((r = 0 →
(∃ I2 : Nat → Int → Prop, (∃ m0, I2 m0 0) ∧ ∀ (m2 : Nat) (i : Int), I2 m2 i → 
((i < ((d.length : Nat) : Int) →
((0 ≤ i ∧ i < ((d.length : Nat) : Int)) ∧
(((gi d i.toNat) < (-100) →
R false) ∧
(¬ ((gi d i.toNat) < (-100)) →
((100 < (gi d i.toNat) →
R false) ∧
(¬ (100 < (gi d i.toNat)) →
(In64 (i + 1) ∧
∃ m3, m3 < m2 ∧ I2 m3 (i + 1)))))))) ∧
(¬ (i < ((d.length : Nat) : Int)) →
R true)))) ∧
(¬ (r = 0) →
R true)))))
theorem pok_r34_Low {O : Nat → Prop} {w : World} {g : Int} {g2 : List (Int × Int × Int)} {d : List Int} {Ag : Option Addr} {lg : Nat} {cg : Nat} {Ad : Option Addr} {ld : Nat} {cd : Nat} {R : Bool → Prop} (h : pf_r34_Low g g2 d R) (hO : ∀ k, O k → k < w.heap.size) (a0 : (FP.sl c3 Ag lg cg g2).P O w) (a1 : (FP.sl cI Ad ld cd d).P O w) :
    Calls Try.prog 37 #[(Value.agg #[(Value.int .i64 g), (Value.slice Ag lg cg)]), (Value.slice Ad ld cd)] w fun e w' => ∃ r2 : Bool, e = .returned (Value.bool (r2)) ∧ Sep w no O w' (rl []) ∧ R r2 := by
  unfold pf_r34_Low at h
  have hS : Sep w no O w (rl [Res.ro (FP.sl c3 Ag lg cg g2), Res.ro (FP.sl cI Ad ld cd d)]) := Sep.startl hO [(FP.sl c3 Ag lg cg g2), (FP.sl cI Ad ld cd d)] ⟨a0, a1, trivial⟩
  refine calls_sh (l := [(Value.agg #[(Value.int .i64 g), (Value.slice Ag lg cg)]), (Value.slice Ad ld cd)]) Try.func37 rfl Try.ntmps37 (Nat.le_of_ble_eq_true rfl) ?_
  refine wt_seq ?_
  refine wl_region wd_wide ?_
  refine rl_n rfl rfl rfl rfl (n_box (v := (Value.agg #[(Value.int .i64 g), (Value.slice Ag lg cg)])) rfl ?_)
  intro g3 w2 hN
  replace hS : Sep w no O w2 (stl _ 2 (Res.box 24 g3 [(Value.int .i64 g), (Value.slice Ag lg cg)])) := hS.new 2 rfl hN
  clear hN
  refine ⟨Stb.none _, ?_⟩
  refine rl_q rfl rfl rfl (v_assign (v := (Value.bool (false))) rfl) ?_
  refine rl_end ?_
  refine wt_seq ?_
  refine wt_seq ?_
  refine wl_region wd_wide ?_
  refine rl_q rfl rfl rfl (v_move (v := (Value.slice Ad ld cd)) rfl) ?_
  refine rl_q rfl rfl rfl (v_lenx (n := d.length) rfl Try.underlying25 (rd_len (hS.rdr 1 rfl))) ?_
  refine rl_q rfl rfl rfl (v_gtr rfl rfl) ?_
  refine rl_end ?_
  by_cases hp : 100 < ((d.length : Nat) : Int)
  · replace h := h.1 hp
    refine wt_cond_t (congrArg Value.bool (decide_eq_true hp)) ?_
    refine wt_seq ?_
    refine wl_region wd_wide ?_
    refine rl_q rfl rfl rfl (v_assign (v := (Value.bool (false))) rfl) ?_
    refine rl_end ?_
    exact wt_ret1 rfl rfl ⟨_, rfl, (hS.sel [] (by decide)), h⟩
  · replace h := h.2 hp
    refine wt_cond_f (congrArg Value.bool (decide_eq_false hp)) ?_
    refine wt_skip ?_
    refine wt_seq ?_
    refine wt_seq ?_
    refine wl_region wd_wide ?_
    refine rl_q rfl rfl rfl (v_move (v := (Value.slice Ad ld cd)) rfl) ?_
    refine rl_q rfl rfl rfl (v_faddr rfl Try.underlying24 rfl info_3) ?_
    refine rl_q rfl rfl rfl (v_load rfl Try.underlying3 rfl (Row.cell (hS.bx 2 rfl) (i := 0) rfl)) ?_
    refine rl_n rfl rfl rfl rfl (n_call0 rfl (am2 rfl rfl) enter_57 ((pok_r17_Check h (no_lt _) (hS.rdr 1 rfl)).mono ?_))
    rintro _ w3 ⟨r, rfl, hC, h⟩
    replace hS := hS.pur hC.pure
    clear hC
    refine ⟨_, rfl, ?_⟩
    refine ⟨Stb.none _, ?_⟩
    refine rl_q rfl rfl rfl (v_neq rfl rfl) ?_
    refine rl_end ?_
    by_cases hp2 : r = 0
    · replace h := h.1 hp2
      refine wt_cond_f (congrArg Value.bool (congrArg Bool.not (decide_eq_true hp2))) ?_
      refine wt_skip ?_
      refine wt_seq ?_
      refine wt_seq ?_
      refine wl_region wd_wide ?_
      refine rl_q rfl rfl rfl (v_assign (v := (Value.int .i64 0)) rfl) ?_
      refine rl_end ?_
      refine wt_block ?_
      obtain ⟨I2, ⟨m0, h0⟩, hr⟩ := h
      refine wt_loop (fun m E ds w' => ∃ i : Int, I2 m i ∧ ds = [] ∧ E 1 = (Value.slice Ad ld cd) ∧ E 5 = (Value.int .i64 i) ∧ Sep w no O w' (rl [Res.ro (FP.sl cI Ad ld cd d)])) m0 ⟨_, h0, rfl, rfl, rfl, (hS.sel [1] (by decide))⟩ ?_
      clear h0 hS
      rintro m2 E ds w4 ⟨i, h, rfl, hE1, hE5, hS⟩ again
      replace h := hr m2 i h
      clear hr
      refine wt_seq ?_
      refine wt_seq ?_
      refine wl_region wd_wide ?_
      refine rl_q rfl rfl rfl (v_move (v := (Value.int .i64 i)) hE5) ?_
      refine rl_q rfl rfl rfl (v_move (v := (Value.slice Ad ld cd)) hE1) ?_
      refine rl_q rfl rfl rfl (v_lenx (n := d.length) rfl Try.underlying25 (rd_len (hS.rdr 0 rfl))) ?_
      refine rl_q rfl rfl rfl (v_lss rfl rfl) ?_
      refine rl_end ?_
      by_cases hp3 : i < ((d.length : Nat) : Int)
      · replace h := h.1 hp3
        refine wt_cond_t (congrArg Value.bool (decide_eq_true hp3)) ?_
        refine wt_skip ?_
        refine wt_seq ?_
        refine wt_block ?_
        refine wt_seq ?_
        refine wl_region wd_wide ?_
        refine rl_q rfl rfl rfl (v_move (v := (Value.slice Ad ld cd)) hE1) ?_
        refine rl_q rfl rfl rfl (v_move (v := (Value.int .i64 i)) hE5) ?_
        obtain ⟨hx, h⟩ := h
        refine rl_q rfl rfl rfl (v_iaddr rfl rfl Try.underlying25 info_3 (rd_ix (hS.rdr 0 rfl) hx)) ?_
        refine rl_q rfl rfl rfl (v_load (v := (Value.int .i64 (gi d i.toNat))) rfl Try.underlying3 rfl (rd_1 (hS.rdr 0 rfl) hx (fun q => gi_some q) rfl)) ?_
        refine rl_q rfl rfl rfl (v_lss rfl rfl) ?_
        refine rl_q rfl rfl rfl (v_move (v := (Value.bool (decide ((gi d i.toNat) < (-100))))) rfl) ?_
        by_cases hp4 : (gi d i.toNat) < (-100)
        · replace h := h.1 hp4
          refine rl_p (wanted_n rfl (yE_of rfl (congrArg Value.bool (decide_eq_true hp4))) rfl) rfl ?_
          refine rl_p (wanted_n rfl (yE_of rfl (congrArg Value.bool (decide_eq_true hp4))) rfl) rfl ?_
          refine rl_p (wanted_n rfl (yE_of rfl (congrArg Value.bool (decide_eq_true hp4))) rfl) rfl ?_
          refine rl_p (wanted_n rfl (yE_of rfl (congrArg Value.bool (decide_eq_true hp4))) rfl) rfl ?_
          refine rl_p (wanted_n rfl (yE_of rfl (congrArg Value.bool (decide_eq_true hp4))) rfl) rfl ?_
          refine rl_q rfl rfl rfl (v_pick_t (v := (Value.bool (true))) (congrArg Value.bool (decide_eq_true hp4)) rfl) ?_
          refine rl_end ?_
          refine wt_cond_t rfl ?_
          refine wt_seq ?_
          refine wl_region wd_wide ?_
          refine rl_q rfl rfl rfl (v_assign (v := (Value.bool (false))) rfl) ?_
          refine rl_end ?_
          exact wt_ret1 rfl rfl ⟨_, rfl, (hS.sel [] (by decide)), h⟩
        · replace h := h.2 hp4
          refine rl_q (wanted_g rfl (yE_of rfl (congrArg Value.bool (decide_eq_false hp4)))) rfl rfl (v_move (v := (Value.slice Ad ld cd)) hE1) ?_
          refine rl_q (wanted_g rfl (yE_of rfl (congrArg Value.bool (decide_eq_false hp4)))) rfl rfl (v_move (v := (Value.int .i64 i)) hE5) ?_
          refine rl_q (wanted_g rfl (yE_of rfl (congrArg Value.bool (decide_eq_false hp4)))) rfl rfl (v_iaddr rfl rfl Try.underlying25 info_3 (rd_ix (hS.rdr 0 rfl) hx)) ?_
          refine rl_q (wanted_g rfl (yE_of rfl (congrArg Value.bool (decide_eq_false hp4)))) rfl rfl (v_load (v := (Value.int .i64 (gi d i.toNat))) rfl Try.underlying3 rfl (rd_1 (hS.rdr 0 rfl) hx (fun q => gi_some q) rfl)) ?_
          refine rl_q (wanted_g rfl (yE_of rfl (congrArg Value.bool (decide_eq_false hp4)))) rfl rfl (v_gtr rfl rfl) ?_
          refine rl_q rfl rfl rfl (v_pick_f (v := (Value.bool (decide (100 < (gi d i.toNat))))) (congrArg Value.bool (decide_eq_false hp4)) rfl) ?_
          refine rl_end ?_
          by_cases hp5 : 100 < (gi d i.toNat)
          · replace h := h.1 hp5
            refine wt_cond_t (congrArg Value.bool (decide_eq_true hp5)) ?_
            refine wt_seq ?_
            refine wl_region wd_wide ?_
            refine rl_q rfl rfl rfl (v_assign (v := (Value.bool (false))) rfl) ?_
            refine rl_end ?_
            exact wt_ret1 rfl rfl ⟨_, rfl, (hS.sel [] (by decide)), h⟩
          · replace h := h.2 hp5
            refine wt_cond_f (congrArg Value.bool (decide_eq_false hp5)) ?_
            refine wt_skip ?_
            refine wt_inBlock ?_
            refine wl_region wd_wide ?_
            refine rl_q rfl rfl rfl (v_move (v := (Value.int .i64 i)) hE5) ?_
            obtain ⟨hi, h⟩ := h
            refine rl_q rfl rfl rfl (v_add rfl rfl hi) ?_
            refine rl_q rfl rfl rfl (v_assign (v := (Value.int .i64 (i + 1))) rfl) ?_
            refine rl_end ?_
            obtain ⟨mq, hlt, h⟩ := h
            exact again mq _ _ _ ⟨_, h, rfl, hE1, rfl, (hS.sel [0] (by decide))⟩ hlt
      · replace h := h.2 hp3
        refine wt_cond_f (congrArg Value.bool (decide_eq_false hp3)) ?_
        refine wt_exit rfl ?_
        refine wt_seq ?_
        refine wl_region wd_wide ?_
        refine rl_q rfl rfl rfl (v_assign (v := (Value.bool (true))) rfl) ?_
        refine rl_end ?_
        exact wt_ret1 rfl rfl ⟨_, rfl, (hS.sel [] (by decide)), h⟩
    · replace h := h.2 hp2
      refine wt_cond_t (congrArg Value.bool (congrArg Bool.not (decide_eq_false hp2))) ?_
      refine wt_seq ?_
      refine wl_region wd_wide ?_
      refine rl_q rfl rfl rfl (v_assign (v := (Value.bool (true))) rfl) ?_
      refine rl_end ?_
      exact wt_ret1 rfl rfl ⟨_, rfl, (hS.sel [] (by decide)), h⟩

end Go.Proofs.Ytbehbjfcenlaeaa

/- Pure forms of functions, made by program (pf.py), each with the proof that the code does so. -/
namespace Go.Proofs.Ytbehbjfcenlaeaa
open Go Go.RowKit Go.Shelf
set_option linter.unusedVariables false
set_option maxRecDepth 100000
set_option maxHeartbeats 1000000
/-- slices.Equal[sandpile/api.Divisor,int]: what it computes. -/
def pf_slices_Equal_Divisor (s1 : List Int) (s2 : List Int) (R : Bool → Prop) : Prop :=
((((s1.length : Nat) : Int) = ((s2.length : Nat) : Int) →
(∃ I2 : Nat → Int → Prop, (∃ m0, I2 m0 0) ∧ ∀ (m2 : Nat) (v : Int), I2 m2 v → 
((v < ((s1.length : Nat) : Int) →
((0 ≤ v ∧ v < ((s1.length : Nat) : Int)) ∧
((0 ≤ v ∧ v < ((s2.length : Nat) : Int)) ∧
(((gi s1 v.toNat) = (gi s2 v.toNat) →
(In64 (v + 1) ∧
∃ m3, m3 < m2 ∧ I2 m3 (v + 1))) ∧
(¬ ((gi s1 v.toNat) = (gi s2 v.toNat)) →
R false))))) ∧
(¬ (v < ((s1.length : Nat) : Int)) →
R true)))) ∧
(¬ (((s1.length : Nat) : Int) = ((s2.length : Nat) : Int)) →
R false))
theorem pok_slices_Equal_Divisor {O : Nat → Prop} {w : World} {s1 : List Int} {s2 : List Int} {As1 : Option Addr} {ls1 : Nat} {cs1 : Nat} {As2 : Option Addr} {ls2 : Nat} {cs2 : Nat} {R : Bool → Prop} (h : pf_slices_Equal_Divisor s1 s2 R) (hO : ∀ k, O k → k < w.heap.size) (a0 : (FP.sl cI As1 ls1 cs1 s1).P O w) (a1 : (FP.sl cI As2 ls2 cs2 s2).P O w) :
    Calls Try.prog 33 #[(Value.slice As1 ls1 cs1), (Value.slice As2 ls2 cs2)] w fun e w' => ∃ r : Bool, e = .returned (Value.bool (r)) ∧ Sep w no O w' (rl []) ∧ R r := by
  unfold pf_slices_Equal_Divisor at h
  have hS : Sep w no O w (rl [Res.ro (FP.sl cI As1 ls1 cs1 s1), Res.ro (FP.sl cI As2 ls2 cs2 s2)]) := Sep.startl hO [(FP.sl cI As1 ls1 cs1 s1), (FP.sl cI As2 ls2 cs2 s2)] ⟨a0, a1, trivial⟩
  refine calls_sh (l := [(Value.slice As1 ls1 cs1), (Value.slice As2 ls2 cs2)]) Try.func33 rfl Try.ntmps33 (Nat.le_of_ble_eq_true rfl) ?_
  refine wt_seq ?_
  refine wl_region wd_wide ?_
  refine rl_q rfl rfl rfl (v_assign (v := (Value.bool (false))) rfl) ?_
  refine rl_end ?_
  refine wt_seq ?_
  refine wt_seq ?_
  refine wl_region wd_wide ?_
  refine rl_q rfl rfl rfl (v_move (v := (Value.slice As1 ls1 cs1)) rfl) ?_
  refine rl_q rfl rfl rfl (v_lenx (n := s1.length) rfl Try.underlying26 (rd_len (hS.rdr 0 rfl))) ?_
  refine rl_q rfl rfl rfl (v_move (v := (Value.slice As2 ls2 cs2)) rfl) ?_
  refine rl_q rfl rfl rfl (v_lenx (n := s2.length) rfl Try.underlying26 (rd_len (hS.rdr 1 rfl))) ?_
  refine rl_q rfl rfl rfl (v_neq rfl rfl) ?_
  refine rl_end ?_
  by_cases hp : ((s1.length : Nat) : Int) = ((s2.length : Nat) : Int)
  · replace h := h.1 hp
    refine wt_cond_f (congrArg Value.bool (congrArg Bool.not (decide_eq_true hp))) ?_
    refine wt_skip ?_
    refine wt_seq ?_
    refine wt_seq ?_
    refine wl_region wd_wide ?_
    refine rl_q rfl rfl rfl (v_move (v := (Value.slice As1 ls1 cs1)) rfl) ?_
    refine rl_q rfl rfl rfl (v_lenx (n := s1.length) rfl Try.underlying26 (rd_len (hS.rdr 0 rfl))) ?_
    refine rl_q rfl rfl rfl (v_move (v := (Value.int .i64 0)) rfl) ?_
    refine rl_end ?_
    refine wt_block ?_
    obtain ⟨I2, ⟨m0, h0⟩, hr⟩ := h
    refine wt_loop (fun m E ds w' => ∃ v : Int, I2 m v ∧ ds = [] ∧ E 0 = (Value.slice As1 ls1 cs1) ∧ E 1 = (Value.slice As2 ls2 cs2) ∧ E 12 = (Value.int .i64 ((s1.length : Nat) : Int)) ∧ E 13 = (Value.int .i64 v) ∧ Sep w no O w' (rl [Res.ro (FP.sl cI As1 ls1 cs1 s1), Res.ro (FP.sl cI As2 ls2 cs2 s2)])) m0 ⟨_, h0, rfl, rfl, rfl, rfl, rfl, (hS.sel [0, 1] (by decide))⟩ ?_
    clear h0 hS
    rintro m2 E ds w2 ⟨v, h, rfl, hE0, hE1, hE12, hE13, hS⟩ again
    replace h := hr m2 v h
    clear hr
    refine wt_seq ?_
    refine wl_region wd_wide ?_
    refine rl_q rfl rfl rfl (v_lss hE13 hE12) ?_
    refine rl_end ?_
    refine wt_seq ?_
    by_cases hp2 : v < ((s1.length : Nat) : Int)
    · replace h := h.1 hp2
      refine wt_cond_t (congrArg Value.bool (decide_eq_true hp2)) ?_
      refine wt_skip ?_
      refine wt_seq ?_
      refine wt_block ?_
      refine wt_seq ?_
      refine wl_region wd_wide ?_
      refine rl_q rfl rfl rfl (v_move (v := (Value.int .i64 v)) hE13) ?_
      refine rl_q rfl rfl rfl (v_assign (v := (Value.int .i64 v)) rfl) ?_
      refine rl_end ?_
      refine wt_seq ?_
      refine wp_draw [0, 1, 2, 3, 4, 5, 6, 7, 8] st0 wd_wide (by kernel_rfl) (by kernel_rfl) ?_
      replace hS := hS.drew
      refine rp_q rfl rfl rfl (v_move (v := (Value.slice As1 ls1 cs1)) hE0) ?_
      refine rp_q rfl rfl rfl (v_move (v := (Value.int .i64 v)) rfl) ?_
      obtain ⟨hx, h⟩ := h
      refine rp_q rfl rfl rfl (v_iaddr rfl rfl Try.underlying26 info_3 (rd_ix (hS.rdr 0 rfl) hx)) ?_
      refine rp_q rfl rfl rfl (v_load (v := (Value.int .i64 (gi s1 v.toNat))) rfl Try.underlying3 rfl (rd_1 (hS.rdr 0 rfl) hx (fun q => gi_some q) rfl)) ?_
      refine rp_q rfl rfl rfl (v_move (v := (Value.slice As2 ls2 cs2)) hE1) ?_
      refine rp_q rfl rfl rfl (v_move (v := (Value.int .i64 v)) rfl) ?_
      obtain ⟨hx2, h⟩ := h
      refine rp_q rfl rfl rfl (v_iaddr rfl rfl Try.underlying26 info_3 (rd_ix (hS.rdr 1 rfl) hx2)) ?_
      refine rp_q rfl rfl rfl (v_load (v := (Value.int .i64 (gi s2 v.toNat))) rfl Try.underlying3 rfl (rd_1 (hS.rdr 1 rfl) hx2 (fun q => gi_some q) rfl)) ?_
      refine rp_q rfl rfl rfl (v_neq rfl rfl) ?_
      refine rp_end ?_
      by_cases hp3 : (gi s1 v.toNat) = (gi s2 v.toNat)
      · replace h := h.1 hp3
        refine wt_cond_f (congrArg Value.bool (congrArg Bool.not (decide_eq_true hp3))) ?_
        refine wt_skip ?_
        refine wt_inBlock ?_
        refine wl_region wd_wide ?_
        obtain ⟨hi, h⟩ := h
        refine rl_q rfl rfl rfl (v_add hE13 rfl hi) ?_
        refine rl_q rfl rfl rfl (v_move (v := (Value.int .i64 (v + 1))) rfl) ?_
        refine rl_end ?_
        obtain ⟨mq, hlt, h⟩ := h
        exact again mq _ _ _ ⟨_, h, rfl, hE0, hE1, hE12, rfl, (hS.sel [0, 1] (by decide))⟩ hlt
      · replace h := h.2 hp3
        refine wt_cond_t (congrArg Value.bool (congrArg Bool.not (decide_eq_false hp3))) ?_
        refine wt_seq ?_
        refine wl_region wd_wide ?_
        refine rl_q rfl rfl rfl (v_assign (v := (Value.bool (false))) rfl) ?_
        refine rl_end ?_
        exact wt_ret1 rfl rfl ⟨_, rfl, (hS.sel [] (by decide)), h⟩
    · replace h := h.2 hp2
      refine wt_cond_f (congrArg Value.bool (decide_eq_false hp2)) ?_
      refine wt_exit rfl ?_
      refine wt_seq ?_
      refine wl_region wd_wide ?_
      refine rl_q rfl rfl rfl (v_assign (v := (Value.bool (true))) rfl) ?_
      refine rl_end ?_
      exact wt_ret1 rfl rfl ⟨_, rfl, (hS.sel [] (by decide)), h⟩
  · replace h := h.2 hp
    refine wt_cond_t (congrArg Value.bool (congrArg Bool.not (decide_eq_false hp))) ?_
    refine wt_seq ?_
    refine wl_region wd_wide ?_
    refine rl_q rfl rfl rfl (v_assign (v := (Value.bool (false))) rfl) ?_
    refine rl_end ?_
    exact wt_ret1 rfl rfl ⟨_, rfl, (hS.sel [] (by decide)), h⟩

/-- slices.Equal[[]int,int]: what it computes. -/
def pf_slices_Equal_intS (s1 : List Int) (s2 : List Int) (R : Bool → Prop) : Prop :=
((((s1.length : Nat) : Int) = ((s2.length : Nat) : Int) →
(∃ I2 : Nat → Int → Prop, (∃ m0, I2 m0 0) ∧ ∀ (m2 : Nat) (v : Int), I2 m2 v → 
((v < ((s1.length : Nat) : Int) →
((0 ≤ v ∧ v < ((s1.length : Nat) : Int)) ∧
((0 ≤ v ∧ v < ((s2.length : Nat) : Int)) ∧
(((gi s1 v.toNat) = (gi s2 v.toNat) →
(In64 (v + 1) ∧
∃ m3, m3 < m2 ∧ I2 m3 (v + 1))) ∧
(¬ ((gi s1 v.toNat) = (gi s2 v.toNat)) →
R false))))) ∧
(¬ (v < ((s1.length : Nat) : Int)) →
R true)))) ∧
(¬ (((s1.length : Nat) : Int) = ((s2.length : Nat) : Int)) →
R false))
theorem pok_slices_Equal_intS {O : Nat → Prop} {w : World} {s1 : List Int} {s2 : List Int} {As1 : Option Addr} {ls1 : Nat} {cs1 : Nat} {As2 : Option Addr} {ls2 : Nat} {cs2 : Nat} {R : Bool → Prop} (h : pf_slices_Equal_intS s1 s2 R) (hO : ∀ k, O k → k < w.heap.size) (a0 : (FP.sl cI As1 ls1 cs1 s1).P O w) (a1 : (FP.sl cI As2 ls2 cs2 s2).P O w) :
    Calls Try.prog 28 #[(Value.slice As1 ls1 cs1), (Value.slice As2 ls2 cs2)] w fun e w' => ∃ r : Bool, e = .returned (Value.bool (r)) ∧ Sep w no O w' (rl []) ∧ R r := by
  unfold pf_slices_Equal_intS at h
  have hS : Sep w no O w (rl [Res.ro (FP.sl cI As1 ls1 cs1 s1), Res.ro (FP.sl cI As2 ls2 cs2 s2)]) := Sep.startl hO [(FP.sl cI As1 ls1 cs1 s1), (FP.sl cI As2 ls2 cs2 s2)] ⟨a0, a1, trivial⟩
  refine calls_sh (l := [(Value.slice As1 ls1 cs1), (Value.slice As2 ls2 cs2)]) Try.func28 rfl Try.ntmps28 (Nat.le_of_ble_eq_true rfl) ?_
  refine wt_seq ?_
  refine wl_region wd_wide ?_
  refine rl_q rfl rfl rfl (v_assign (v := (Value.bool (false))) rfl) ?_
  refine rl_end ?_
  refine wt_seq ?_
  refine wt_seq ?_
  refine wl_region wd_wide ?_
  refine rl_q rfl rfl rfl (v_move (v := (Value.slice As1 ls1 cs1)) rfl) ?_
  refine rl_q rfl rfl rfl (v_lenx (n := s1.length) rfl Try.underlying25 (rd_len (hS.rdr 0 rfl))) ?_
  refine rl_q rfl rfl rfl (v_move (v := (Value.slice As2 ls2 cs2)) rfl) ?_
  refine rl_q rfl rfl rfl (v_lenx (n := s2.length) rfl Try.underlying25 (rd_len (hS.rdr 1 rfl))) ?_
  refine rl_q rfl rfl rfl (v_neq rfl rfl) ?_
  refine rl_end ?_
  by_cases hp : ((s1.length : Nat) : Int) = ((s2.length : Nat) : Int)
  · replace h := h.1 hp
    refine wt_cond_f (congrArg Value.bool (congrArg Bool.not (decide_eq_true hp))) ?_
    refine wt_skip ?_
    refine wt_seq ?_
    refine wt_seq ?_
    refine wl_region wd_wide ?_
    refine rl_q rfl rfl rfl (v_move (v := (Value.slice As1 ls1 cs1)) rfl) ?_
    refine rl_q rfl rfl rfl (v_lenx (n := s1.length) rfl Try.underlying25 (rd_len (hS.rdr 0 rfl))) ?_
    refine rl_q rfl rfl rfl (v_move (v := (Value.int .i64 0)) rfl) ?_
    refine rl_end ?_
    refine wt_block ?_
    obtain ⟨I2, ⟨m0, h0⟩, hr⟩ := h
    refine wt_loop (fun m E ds w' => ∃ v : Int, I2 m v ∧ ds = [] ∧ E 0 = (Value.slice As1 ls1 cs1) ∧ E 1 = (Value.slice As2 ls2 cs2) ∧ E 12 = (Value.int .i64 ((s1.length : Nat) : Int)) ∧ E 13 = (Value.int .i64 v) ∧ Sep w no O w' (rl [Res.ro (FP.sl cI As1 ls1 cs1 s1), Res.ro (FP.sl cI As2 ls2 cs2 s2)])) m0 ⟨_, h0, rfl, rfl, rfl, rfl, rfl, (hS.sel [0, 1] (by decide))⟩ ?_
    clear h0 hS
    rintro m2 E ds w2 ⟨v, h, rfl, hE0, hE1, hE12, hE13, hS⟩ again
    replace h := hr m2 v h
    clear hr
    refine wt_seq ?_
    refine wl_region wd_wide ?_
    refine rl_q rfl rfl rfl (v_lss hE13 hE12) ?_
    refine rl_end ?_
    refine wt_seq ?_
    by_cases hp2 : v < ((s1.length : Nat) : Int)
    · replace h := h.1 hp2
      refine wt_cond_t (congrArg Value.bool (decide_eq_true hp2)) ?_
      refine wt_skip ?_
      refine wt_seq ?_
      refine wt_block ?_
      refine wt_seq ?_
      refine wl_region wd_wide ?_
      refine rl_q rfl rfl rfl (v_move (v := (Value.int .i64 v)) hE13) ?_
      refine rl_q rfl rfl rfl (v_assign (v := (Value.int .i64 v)) rfl) ?_
      refine rl_end ?_
      refine wt_seq ?_
      refine wp_draw [0, 1, 2, 3, 4, 5, 6, 7, 8] st0 wd_wide (by kernel_rfl) (by kernel_rfl) ?_
      replace hS := hS.drew
      refine rp_q rfl rfl rfl (v_move (v := (Value.slice As1 ls1 cs1)) hE0) ?_
      refine rp_q rfl rfl rfl (v_move (v := (Value.int .i64 v)) rfl) ?_
      obtain ⟨hx, h⟩ := h
      refine rp_q rfl rfl rfl (v_iaddr rfl rfl Try.underlying25 info_3 (rd_ix (hS.rdr 0 rfl) hx)) ?_
      refine rp_q rfl rfl rfl (v_load (v := (Value.int .i64 (gi s1 v.toNat))) rfl Try.underlying3 rfl (rd_1 (hS.rdr 0 rfl) hx (fun q => gi_some q) rfl)) ?_
      refine rp_q rfl rfl rfl (v_move (v := (Value.slice As2 ls2 cs2)) hE1) ?_
      refine rp_q rfl rfl rfl (v_move (v := (Value.int .i64 v)) rfl) ?_
      obtain ⟨hx2, h⟩ := h
      refine rp_q rfl rfl rfl (v_iaddr rfl rfl Try.underlying25 info_3 (rd_ix (hS.rdr 1 rfl) hx2)) ?_
      refine rp_q rfl rfl rfl (v_load (v := (Value.int .i64 (gi s2 v.toNat))) rfl Try.underlying3 rfl (rd_1 (hS.rdr 1 rfl) hx2 (fun q => gi_some q) rfl)) ?_
      refine rp_q rfl rfl rfl (v_neq rfl rfl) ?_
      refine rp_end ?_
      by_cases hp3 : (gi s1 v.toNat) = (gi s2 v.toNat)
      · replace h := h.1 hp3
        refine wt_cond_f (congrArg Value.bool (congrArg Bool.not (decide_eq_true hp3))) ?_
        refine wt_skip ?_
        refine wt_inBlock ?_
        refine wl_region wd_wide ?_
        obtain ⟨hi, h⟩ := h
        refine rl_q rfl rfl rfl (v_add hE13 rfl hi) ?_
        refine rl_q rfl rfl rfl (v_move (v := (Value.int .i64 (v + 1))) rfl) ?_
        refine rl_end ?_
        obtain ⟨mq, hlt, h⟩ := h
        exact again mq _ _ _ ⟨_, h, rfl, hE0, hE1, hE12, rfl, (hS.sel [0, 1] (by decide))⟩ hlt
      · replace h := h.2 hp3
        refine wt_cond_t (congrArg Value.bool (congrArg Bool.not (decide_eq_false hp3))) ?_
        refine wt_seq ?_
        refine wl_region wd_wide ?_
        refine rl_q rfl rfl rfl (v_assign (v := (Value.bool (false))) rfl) ?_
        refine rl_end ?_
        exact wt_ret1 rfl rfl ⟨_, rfl, (hS.sel [] (by decide)), h⟩
    · replace h := h.2 hp2
      refine wt_cond_f (congrArg Value.bool (decide_eq_false hp2)) ?_
      refine wt_exit rfl ?_
      refine wt_seq ?_
      refine wl_region wd_wide ?_
      refine rl_q rfl rfl rfl (v_assign (v := (Value.bool (true))) rfl) ?_
      refine rl_end ?_
      exact wt_ret1 rfl rfl ⟨_, rfl, (hS.sel [] (by decide)), h⟩
  · replace h := h.2 hp
    refine wt_cond_t (congrArg Value.bool (congrArg Bool.not (decide_eq_false hp))) ?_
    refine wt_seq ?_
    refine wl_region wd_wide ?_
    refine rl_q rfl rfl rfl (v_assign (v := (Value.bool (false))) rfl) ?_
    refine rl_end ?_
    exact wt_ret1 rfl rfl ⟨_, rfl, (hS.sel [] (by decide)), h⟩

/-- slices.Clone[sandpile/api.Divisor,int]: what it computes. -/
def pf_slices_Clone_Divisor (s : List Int) (R : (List Int) → Prop) : Prop :=
(∀ nil : Bool, (nil = true → s = []) →
((nil = true →
R ([])) ∧
(¬ (nil = true) →
(0 + s.length ≤ 1000000000 ∧
R ([] ++ s)))))
theorem pok_slices_Clone_Divisor {O : Nat → Prop} {w : World} {s : List Int} {As : Option Addr} {ls : Nat} {cs : Nat} {R : (List Int) → Prop} (h : pf_slices_Clone_Divisor s R) (hO : ∀ k, O k → k < w.heap.size) (a0 : (FP.sl cI As ls cs s).P O w) :
    Calls Try.prog 31 #[(Value.slice As ls cs)] w fun e w' => ∃ r : List Int, ∃ Ar : Option Addr, ∃ lr : Nat, ∃ cr : Nat, e = .returned (Value.slice Ar lr cr) ∧ Sep w no O w' (rl [Res.own cI 3 Ar lr cr r]) ∧ R r := by
  unfold pf_slices_Clone_Divisor at h
  have hS : Sep w no O w (rl [Res.ro (FP.sl cI As ls cs s)]) := Sep.startl hO [(FP.sl cI As ls cs s)] ⟨a0, trivial⟩
  refine calls_sh (l := [(Value.slice As ls cs)]) Try.func31 rfl Try.ntmps31 (Nat.le_of_ble_eq_true rfl) ?_
  refine wt_seq ?_
  refine wl_region wd_wide ?_
  refine rl_q rfl rfl rfl (v_assign (v := (Value.slice none 0 0)) rfl) ?_
  refine rl_end ?_
  refine wt_seq ?_
  refine wt_seq ?_
  refine wl_region wd_wide ?_
  refine rl_q rfl rfl rfl (v_move (v := (Value.slice As ls cs)) rfl) ?_
  obtain ⟨nil, hn⟩ : ∃ b, Option.isNone As = b := ⟨_, rfl⟩
  replace h := h nil (by rw [← hn]; exact rd_nil (hS.rdr 0 rfl))
  refine rl_q rfl rfl rfl (v_seqlx rfl rfl Try.underlying26 hn) ?_
  refine rl_end ?_
  by_cases hp : nil = true
  · replace h := h.1 hp
    refine wt_cond_t (congrArg Value.bool hp) ?_
    refine wt_seq ?_
    refine wl_region wd_wide ?_
    refine rl_q rfl rfl rfl (v_assign (v := (Value.slice none 0 0)) rfl) ?_
    refine rl_end ?_
    replace hS := hS.nil 1 rfl cI 3
    exact wt_ret1 rfl rfl ⟨_, _, _, _, rfl, (hS.sel [1] (by decide)), h⟩
  · replace h := h.2 hp
    refine wt_cond_f (congrArg Value.bool (Bool.eq_false_iff.2 hp)) ?_
    refine wt_skip ?_
    refine wt_seq ?_
    refine wl_region wd_wide ?_
    refine rl_n rfl rfl rfl rfl (n_bslice (l := []) (cells := []) (bp0) Try.underlying26 info_3 rfl rfl ?_)
    intro g w2 hN
    replace hS := hS.litf (n := 0) 1 rfl (fI .i64) hN ([] : List Int) rfl (by decide) rfl
    clear hN
    refine ⟨Stb.none _, ?_⟩
    refine rl_q rfl rfl rfl (v_move (v := (Value.slice As ls cs)) rfl) ?_
    obtain ⟨hx, h⟩ := h
    refine rl_n rfl rfl rfl rfl (n_app (c := cI) rfl rfl Try.underlying26 Try.underlying26 info_3 rfl rfl (by decide) hS 1 rfl (hS.yr 0 rfl) hx ?_)
    clear hS
    intro A c w3 hS
    refine ⟨Stb.none _, ?_⟩
    refine rl_q rfl rfl rfl (v_assign (v := (Value.slice A (0 + ls) c)) rfl) ?_
    refine rl_end ?_
    exact wt_ret1 rfl rfl ⟨_, _, _, _, rfl, (hS.sel [1] (by decide)), h⟩
end Go.Proofs.Ytbehbjfcenlaeaa

/- Pure forms of functions, made by program (pf.py), each with the proof that the code does so. -/
namespace Go.Proofs.Ytbehbjfcenlaeaa
open Go Go.RowKit Go.Shelf
set_option linter.unusedVariables false
set_option maxRecDepth 100000
set_option maxHeartbeats 1000000
/-- slices.IndexFunc[sandpile/api.Divisor,int]: what it computes. -/
def pf_slices_IndexFunc_Divisor (s : List Int) (Ff : Int → (Bool → Prop) → Prop) (R : Int → Prop) : Prop :=
(∃ I2 : Nat → Int → Prop, (∃ m0, I2 m0 0) ∧ ∀ (m2 : Nat) (v : Int), I2 m2 v → 
((v < ((s.length : Nat) : Int) →
((0 ≤ v ∧ v < ((s.length : Nat) : Int)) ∧
Ff (gi s v.toNat) (fun (r : Bool) =>
((r = true →
R v) ∧
(¬ (r = true) →
(In64 (v + 1) ∧
∃ m3, m3 < m2 ∧ I2 m3 (v + 1))))))) ∧
(¬ (v < ((s.length : Nat) : Int)) →
R (-1))))
theorem pok_slices_IndexFunc_Divisor {O : Nat → Prop} {w : World} {s : List Int} {Ff : Int → (Bool → Prop) → Prop} {As : Option Addr} {ls : Nat} {cs : Nat} {f : Value} {R : Int → Prop} (h : pf_slices_IndexFunc_Divisor s Ff R) (hO : ∀ k, O k → k < w.heap.size) (a0 : (FP.sl cI As ls cs s).P O w) (a1 : (FP.st fun w' => ∃ (fid : Nat) (us : Array Value), f = Value.func (.func fid) #[] us ∧ Enters Try.prog fid ∧ ∀ (x0 : Int) (R : Bool → Prop), Ff x0 R → Calls Try.prog fid (#[(Value.int .i64 x0)] ++ us) w' fun e w'' => ∃ r0 : Bool, e = .returned (Value.bool (r0)) ∧ Sep w' no no w'' (rl []) ∧ R r0).P O w) :
    Calls Try.prog 123 #[(Value.slice As ls cs), f] w fun e w' => ∃ r2 : Int, e = .returned (Value.int .i64 r2) ∧ Sep w no O w' (rl []) ∧ R r2 := by
  unfold pf_slices_IndexFunc_Divisor at h
  have hS : Sep w no O w (rl [Res.ro (FP.sl cI As ls cs s), Res.ro (FP.st fun w' => ∃ (fid : Nat) (us : Array Value), f = Value.func (.func fid) #[] us ∧ Enters Try.prog fid ∧ ∀ (x0 : Int) (R : Bool → Prop), Ff x0 R → Calls Try.prog fid (#[(Value.int .i64 x0)] ++ us) w' fun e w'' => ∃ r0 : Bool, e = .returned (Value.bool (r0)) ∧ Sep w' no no w'' (rl []) ∧ R r0)]) := Sep.startl hO [(FP.sl cI As ls cs s), (FP.st fun w' => ∃ (fid : Nat) (us : Array Value), f = Value.func (.func fid) #[] us ∧ Enters Try.prog fid ∧ ∀ (x0 : Int) (R : Bool → Prop), Ff x0 R → Calls Try.prog fid (#[(Value.int .i64 x0)] ++ us) w' fun e w'' => ∃ r0 : Bool, e = .returned (Value.bool (r0)) ∧ Sep w' no no w'' (rl []) ∧ R r0)] ⟨a0, a1, trivial⟩
  refine calls_sh (l := [(Value.slice As ls cs), f]) Try.func123 rfl Try.ntmps123 (Nat.le_of_ble_eq_true rfl) ?_
  refine wt_seq ?_
  refine wl_region wd_wide ?_
  refine rl_q rfl rfl rfl (v_assign (v := (Value.int .i64 0)) rfl) ?_
  refine rl_end ?_
  refine wt_seq ?_
  refine wt_seq ?_
  refine wl_region wd_wide ?_
  refine rl_q rfl rfl rfl (v_move (v := (Value.slice As ls cs)) rfl) ?_
  refine rl_q rfl rfl rfl (v_lenx (n := s.length) rfl Try.underlying26 (rd_len (hS.rdr 0 rfl))) ?_
  refine rl_q rfl rfl rfl (v_move (v := (Value.int .i64 0)) rfl) ?_
  refine rl_end ?_
  refine wt_block ?_
  obtain ⟨I2, ⟨m0, h0⟩, hr⟩ := h
  refine wt_loop (fun m E ds w' => ∃ v : Int, I2 m v ∧ ds = [] ∧ E 0 = (Value.slice As ls cs) ∧ E 1 = f ∧ E 7 = (Value.int .i64 ((s.length : Nat) : Int)) ∧ E 8 = (Value.int .i64 v) ∧ Sep w no O w' (rl [Res.ro (FP.sl cI As ls cs s), Res.ro (FP.st fun w' => ∃ (fid : Nat) (us : Array Value), f = Value.func (.func fid) #[] us ∧ Enters Try.prog fid ∧ ∀ (x0 : Int) (R : Bool → Prop), Ff x0 R → Calls Try.prog fid (#[(Value.int .i64 x0)] ++ us) w' fun e w'' => ∃ r0 : Bool, e = .returned (Value.bool (r0)) ∧ Sep w' no no w'' (rl []) ∧ R r0)])) m0 ⟨_, h0, rfl, rfl, rfl, rfl, rfl, (hS.sel [0, 1] (by decide))⟩ ?_
  clear h0 hS
  rintro m2 E ds w2 ⟨v, h, rfl, hE0, hE1, hE7, hE8, hS⟩ again
  replace h := hr m2 v h
  clear hr
  refine wt_seq ?_
  refine wl_region wd_wide ?_
  refine rl_q rfl rfl rfl (v_lss hE8 hE7) ?_
  refine rl_end ?_
  refine wt_seq ?_
  by_cases hp : v < ((s.length : Nat) : Int)
  · replace h := h.1 hp
    refine wt_cond_t (congrArg Value.bool (decide_eq_true hp)) ?_
    refine wt_skip ?_
    refine wt_seq ?_
    refine wt_block ?_
    refine wt_seq ?_
    refine wl_region wd_wide ?_
    refine rl_q rfl rfl rfl (v_move (v := (Value.int .i64 v)) hE8) ?_
    refine rl_q rfl rfl rfl (v_assign (v := (Value.int .i64 v)) rfl) ?_
    refine rl_end ?_
    refine wt_seq ?_
    refine wl_region wd_wide ?_
    refine rl_q rfl rfl rfl (v_move (v := f) hE1) ?_
    refine rl_q rfl rfl rfl (v_move (v := (Value.slice As ls cs)) hE0) ?_
    refine rl_q rfl rfl rfl (v_move (v := (Value.int .i64 v)) rfl) ?_
    obtain ⟨hx, h⟩ := h
    refine rl_q rfl rfl rfl (v_iaddr rfl rfl Try.underlying26 info_3 (rd_ix (hS.rdr 0 rfl) hx)) ?_
    refine rl_q rfl rfl rfl (v_load (v := (Value.int .i64 (gi s v.toNat))) rfl Try.underlying3 rfl (rd_1 (hS.rdr 0 rfl) hx (fun q => gi_some q) rfl)) ?_
    obtain ⟨fid, us, hf, he, hcl⟩ := hS.ro 1 rfl _ (Keeps.refl _ _)
    replace h := hcl _ _ h
    clear hcl
    refine rl_n rfl rfl rfl rfl (n_call (hf) (am1 rfl) he (h.mono ?_))
    clear hf he
    rintro _ w3 ⟨r, rfl, hC, h⟩
    replace hS := hS.pur hC.pure
    clear hC
    refine ⟨_, rfl, ?_⟩
    refine ⟨Stb.none _, ?_⟩
    refine rl_end ?_
    by_cases hp2 : r = true
    · replace h := h.1 hp2
      refine wt_cond_t (congrArg Value.bool hp2) ?_
      refine wt_seq ?_
      refine wl_region wd_wide ?_
      refine rl_q rfl rfl rfl (v_move (v := (Value.int .i64 v)) rfl) ?_
      refine rl_q rfl rfl rfl (v_assign (v := (Value.int .i64 v)) rfl) ?_
      refine rl_end ?_
      exact wt_ret1 rfl rfl ⟨_, rfl, (hS.sel [] (by decide)), h⟩
    · replace h := h.2 hp2
      refine wt_cond_f (congrArg Value.bool (Bool.eq_false_iff.2 hp2)) ?_
      refine wt_skip ?_
      refine wt_inBlock ?_
      refine wl_region wd_wide ?_
      obtain ⟨hi, h⟩ := h
      refine rl_q rfl rfl rfl (v_add hE8 rfl hi) ?_
      refine rl_q rfl rfl rfl (v_move (v := (Value.int .i64 (v + 1))) rfl) ?_
      refine rl_end ?_
      obtain ⟨mq, hlt, h⟩ := h
      exact again mq _ _ _ ⟨_, h, rfl, hE0, hE1, hE7, rfl, (hS.sel [0, 1] (by decide))⟩ hlt
  · replace h := h.2 hp
    refine wt_cond_f (congrArg Value.bool (decide_eq_false hp)) ?_
    refine wt_exit rfl ?_
    refine wt_seq ?_
    refine wl_region wd_wide ?_
    refine rl_q rfl rfl rfl (v_assign (v := (Value.int .i64 (-1))) rfl) ?_
    refine rl_end ?_
    exact wt_ret1 rfl rfl ⟨_, rfl, (hS.sel [] (by decide)), h⟩

/-- slices.ContainsFunc[sandpile/api.Divisor,int]: what it computes. -/
def pf_slices_ContainsFunc_Divisor (s : List Int) (Ff : Int → (Bool → Prop) → Prop) (R : Bool → Prop) : Prop :=
pf_slices_IndexFunc_Divisor s Ff (fun (r : Int) =>
R (decide (0 ≤ r)))
theorem pok_slices_ContainsFunc_Divisor {O : Nat → Prop} {w : World} {s : List Int} {Ff : Int → (Bool → Prop) → Prop} {As : Option Addr} {ls : Nat} {cs : Nat} {f : Value} {R : Bool → Prop} (h : pf_slices_ContainsFunc_Divisor s Ff R) (hO : ∀ k, O k → k < w.heap.size) (a0 : (FP.sl cI As ls cs s).P O w) (a1 : (FP.st fun w' => ∃ (fid : Nat) (us : Array Value), f = Value.func (.func fid) #[] us ∧ Enters Try.prog fid ∧ ∀ (x0 : Int) (R : Bool → Prop), Ff x0 R → Calls Try.prog fid (#[(Value.int .i64 x0)] ++ us) w' fun e w'' => ∃ r0 : Bool, e = .returned (Value.bool (r0)) ∧ Sep w' no no w'' (rl []) ∧ R r0).P O w) :
    Calls Try.prog 72 #[(Value.slice As ls cs), f] w fun e w' => ∃ r2 : Bool, e = .returned (Value.bool (r2)) ∧ Sep w no O w' (rl []) ∧ R r2 := by
  unfold pf_slices_ContainsFunc_Divisor at h
  have hS : Sep w no O w (rl [Res.ro (FP.sl cI As ls cs s), Res.ro (FP.st fun w' => ∃ (fid : Nat) (us : Array Value), f = Value.func (.func fid) #[] us ∧ Enters Try.prog fid ∧ ∀ (x0 : Int) (R : Bool → Prop), Ff x0 R → Calls Try.prog fid (#[(Value.int .i64 x0)] ++ us) w' fun e w'' => ∃ r0 : Bool, e = .returned (Value.bool (r0)) ∧ Sep w' no no w'' (rl []) ∧ R r0)]) := Sep.startl hO [(FP.sl cI As ls cs s), (FP.st fun w' => ∃ (fid : Nat) (us : Array Value), f = Value.func (.func fid) #[] us ∧ Enters Try.prog fid ∧ ∀ (x0 : Int) (R : Bool → Prop), Ff x0 R → Calls Try.prog fid (#[(Value.int .i64 x0)] ++ us) w' fun e w'' => ∃ r0 : Bool, e = .returned (Value.bool (r0)) ∧ Sep w' no no w'' (rl []) ∧ R r0)] ⟨a0, a1, trivial⟩
  refine calls_sh (l := [(Value.slice As ls cs), f]) Try.func72 rfl Try.ntmps72 (Nat.le_of_ble_eq_true rfl) ?_
  refine wt_seq ?_
  refine wl_region wd_wide ?_
  refine rl_q rfl rfl rfl (v_assign (v := (Value.bool (false))) rfl) ?_
  refine rl_end ?_
  refine wt_seq ?_
  refine wl_region wd_wide ?_
  refine rl_q rfl rfl rfl (v_move (v := (Value.slice As ls cs)) rfl) ?_
  refine rl_q rfl rfl rfl (v_move (v := f) rfl) ?_
  refine rl_n rfl rfl rfl rfl (n_call0 rfl (am2 rfl rfl) enter_123 ((pok_slices_IndexFunc_Divisor h (no_lt _) (hS.rdr 0 rfl) (FP.sub _ (hS.ro 1 rfl) (fun _ _ h => h.elim) : FP.P _ no _)).mono ?_))
  rintro _ w2 ⟨r, rfl, hC, h⟩
  replace hS := hS.pur hC.pure
  clear hC
  refine ⟨_, rfl, ?_⟩
  refine ⟨Stb.none _, ?_⟩
  refine rl_q rfl rfl rfl (v_geq rfl rfl) ?_
  refine rl_q rfl rfl rfl (v_assign (v := (Value.bool (decide (0 ≤ r)))) rfl) ?_
  refine rl_end ?_
  exact wt_ret1 rfl rfl ⟨_, rfl, (hS.sel [] (by decide)), h⟩

/-- cmp.isNaN[int]: what it computes. -/
def pf_cmp_isNaN_int (x : Int) (R : Bool → Prop) : Prop :=
R (!(decide (x = x)))
theorem pok_cmp_isNaN_int {O : Nat → Prop} {w : World} {x : Int} {R : Bool → Prop} (h : pf_cmp_isNaN_int x R) (hO : ∀ k, O k → k < w.heap.size) :
    Calls Try.prog 179 #[(Value.int .i64 x)] w fun e w' => ∃ r : Bool, e = .returned (Value.bool (r)) ∧ Sep w no O w' (rl []) ∧ R r := by
  unfold pf_cmp_isNaN_int at h
  have hS : Sep w no O w (rl []) := Sep.start w hO
  refine calls_sh (l := [(Value.int .i64 x)]) Try.func179 rfl Try.ntmps179 (Nat.le_of_ble_eq_true rfl) ?_
  refine wt_seq ?_
  refine wl_region wd_wide ?_
  refine rl_q rfl rfl rfl (v_assign (v := (Value.bool (false))) rfl) ?_
  refine rl_end ?_
  refine wt_seq ?_
  refine wl_region wd_wide ?_
  refine rl_q rfl rfl rfl (v_move (v := (Value.int .i64 x)) rfl) ?_
  refine rl_q rfl rfl rfl (v_move (v := (Value.int .i64 x)) rfl) ?_
  refine rl_q rfl rfl rfl (v_neq rfl rfl) ?_
  refine rl_q rfl rfl rfl (v_assign (v := (Value.bool (!(decide (x = x))))) rfl) ?_
  refine rl_end ?_
  exact wt_ret1 rfl rfl ⟨_, rfl, (hS.sel [] (by decide)), h⟩

/-- slices.Min[sandpile/api.Divisor,int]: what it computes. -/
def pf_slices_Min_Divisor (x : List Int) (R : Int → Prop) : Prop :=
(∃ J2 : Prop, (J2 → ((0 ≤ (0 : Int) ∧ (0 : Int) < ((x.length : Nat) : Int)) ∧
(∃ I2 : Nat → Int → Int → Prop, (∃ m0, I2 m0 (gi x (0 : Int).toNat) 1) ∧ ∀ (m2 : Nat) (m3 : Int) (i : Int), I2 m2 m3 i → 
((i < ((x.length : Nat) : Int) →
((0 ≤ i ∧ i < ((x.length : Nat) : Int)) ∧
(In64 (i + 1) ∧
∃ m4, m4 < m2 ∧ I2 m4 (mnF m3 (gi x i.toNat)) (i + 1)))) ∧
(¬ (i < ((x.length : Nat) : Int)) →
R m3))))) ∧
((((x.length : Nat) : Int) < 1 →
False) ∧
(¬ (((x.length : Nat) : Int) < 1) →
J2)))
theorem pok_slices_Min_Divisor {O : Nat → Prop} {w : World} {x : List Int} {Ax : Option Addr} {lx : Nat} {cx : Nat} {R : Int → Prop} (h : pf_slices_Min_Divisor x R) (hO : ∀ k, O k → k < w.heap.size) (a0 : (FP.sl cI Ax lx cx x).P O w) :
    Calls Try.prog 105 #[(Value.slice Ax lx cx)] w fun e w' => ∃ r : Int, e = .returned (Value.int .i64 r) ∧ Sep w no O w' (rl []) ∧ R r := by
  unfold pf_slices_Min_Divisor at h
  have hS : Sep w no O w (rl [Res.ro (FP.sl cI Ax lx cx x)]) := Sep.startl hO [(FP.sl cI Ax lx cx x)] ⟨a0, trivial⟩
  refine calls_sh (l := [(Value.slice Ax lx cx)]) Try.func105 rfl Try.ntmps105 (Nat.le_of_ble_eq_true rfl) ?_
  refine wt_seq ?_
  refine wl_region wd_wide ?_
  refine rl_q rfl rfl rfl (v_assign (v := (Value.int .i64 0)) rfl) ?_
  refine rl_end ?_
  refine wt_seq ?_
  refine wt_seq ?_
  refine wl_region wd_wide ?_
  refine rl_q rfl rfl rfl (v_move (v := (Value.slice Ax lx cx)) rfl) ?_
  refine rl_q rfl rfl rfl (v_lenx (n := x.length) rfl Try.underlying26 (rd_len (hS.rdr 0 rfl))) ?_
  refine rl_q rfl rfl rfl (v_lss rfl rfl) ?_
  refine rl_end ?_
  obtain ⟨J2, hJ, h⟩ := h
  refine wt_cutT0 (fun E ds w' => J2 ∧ ds = [] ∧ E 0 = (Value.slice Ax lx cx) ∧ Sep w no O w' (rl [Res.ro (FP.sl cI Ax lx cx x)])) ?_ ?_
  · clear h hS
    rintro E ds w2 ⟨h, rfl, hE0, hS⟩
    replace h := hJ h
    refine wt_seq ?_
    refine wl_region wd_wide ?_
    refine rl_q rfl rfl rfl (v_move (v := (Value.slice Ax lx cx)) hE0) ?_
    obtain ⟨hx, h⟩ := h
    refine rl_q rfl rfl rfl (v_iaddr rfl rfl Try.underlying26 info_3 (rd_ix (hS.rdr 0 rfl) hx)) ?_
    refine rl_q rfl rfl rfl (v_load (v := (Value.int .i64 (gi x (0 : Int).toNat))) rfl Try.underlying3 rfl (rd_1 (hS.rdr 0 rfl) hx (fun q => gi_some q) rfl)) ?_
    refine rl_q rfl rfl rfl (v_assign (v := (Value.int .i64 (gi x (0 : Int).toNat))) rfl) ?_
    refine rl_end ?_
    refine wt_seq ?_
    refine wt_seq ?_
    refine wl_region wd_wide ?_
    refine rl_q rfl rfl rfl (v_assign (v := (Value.int .i64 1)) rfl) ?_
    refine rl_end ?_
    refine wt_block ?_
    obtain ⟨I2, ⟨m0, h0⟩, hr⟩ := h
    refine wt_loop (fun m E ds w' => ∃ m3 : Int, ∃ i : Int, I2 m m3 i ∧ ds = [] ∧ E 0 = (Value.slice Ax lx cx) ∧ E 3 = (Value.int .i64 m3) ∧ E 4 = (Value.int .i64 i) ∧ Sep w no O w' (rl [Res.ro (FP.sl cI Ax lx cx x)])) m0 ⟨_, _, h0, rfl, hE0, rfl, rfl, (hS.sel [0] (by decide))⟩ ?_
    clear h0 hS
    rintro m2 E ds w3 ⟨m3, i, h, rfl, hE0, hE3, hE4, hS⟩ again
    replace h := hr m2 m3 i h
    clear hr
    refine wt_seq ?_
    refine wt_seq ?_
    refine wl_region wd_wide ?_
    refine rl_q rfl rfl rfl (v_move (v := (Value.int .i64 i)) hE4) ?_
    refine rl_q rfl rfl rfl (v_move (v := (Value.slice Ax lx cx)) hE0) ?_
    refine rl_q rfl rfl rfl (v_lenx (n := x.length) rfl Try.underlying26 (rd_len (hS.rdr 0 rfl))) ?_
    refine rl_q rfl rfl rfl (v_lss rfl rfl) ?_
    refine rl_end ?_
    by_cases hp : i < ((x.length : Nat) : Int)
    · replace h := h.1 hp
      refine wt_cond_t (congrArg Value.bool (decide_eq_true hp)) ?_
      refine wt_skip ?_
      refine wt_seq ?_
      refine wt_block ?_
      refine wl_region wd_wide ?_
      refine rl_q rfl rfl rfl (v_move (v := (Value.int .i64 m3)) hE3) ?_
      refine rl_q rfl rfl rfl (v_move (v := (Value.slice Ax lx cx)) hE0) ?_
      refine rl_q rfl rfl rfl (v_move (v := (Value.int .i64 i)) hE4) ?_
      obtain ⟨hx2, h⟩ := h
      refine rl_q rfl rfl rfl (v_iaddr rfl rfl Try.underlying26 info_3 (rd_ix (hS.rdr 0 rfl) hx2)) ?_
      refine rl_q rfl rfl rfl (v_load (v := (Value.int .i64 (gi x i.toNat))) rfl Try.underlying3 rfl (rd_1 (hS.rdr 0 rfl) hx2 (fun q => gi_some q) rfl)) ?_
      refine rl_q rfl rfl rfl (v_min2 rfl rfl) ?_
      refine rl_q rfl rfl rfl (v_assign (v := (Value.int .i64 (mnF m3 (gi x i.toNat)))) rfl) ?_
      refine rl_end ?_
      refine wt_inBlock ?_
      refine wl_region wd_wide ?_
      refine rl_q rfl rfl rfl (v_move (v := (Value.int .i64 i)) hE4) ?_
      obtain ⟨hi, h⟩ := h
      refine rl_q rfl rfl rfl (v_add rfl rfl hi) ?_
      refine rl_q rfl rfl rfl (v_assign (v := (Value.int .i64 (i + 1))) rfl) ?_
      refine rl_end ?_
      obtain ⟨mq, hlt, h⟩ := h
      exact again mq _ _ _ ⟨_, _, h, rfl, hE0, rfl, rfl, (hS.sel [0] (by decide))⟩ hlt
    · replace h := h.2 hp
      refine wt_cond_f (congrArg Value.bool (decide_eq_false hp)) ?_
      refine wt_exit rfl ?_
      refine wt_seq ?_
      refine wl_region wd_wide ?_
      refine rl_q rfl rfl rfl (v_move (v := (Value.int .i64 m3)) hE3) ?_
      refine rl_q rfl rfl rfl (v_assign (v := (Value.int .i64 m3)) rfl) ?_
      refine rl_end ?_
      exact wt_ret1 rfl rfl ⟨_, rfl, (hS.sel [] (by decide)), h⟩
  clear hJ
  intro j
  by_cases hp2 : ((x.length : Nat) : Int) < 1
  · replace h := h.1 hp2
    refine wt_cond_t (congrArg Value.bool (decide_eq_true hp2)) ?_
    refine wl_region wd_wide ?_
    exact h.elim
  · replace h := h.2 hp2
    refine wt_cond_f (congrArg Value.bool (decide_eq_false hp2)) ?_
    refine wt_skip ?_
    exact j _ _ _ ⟨h, rfl, rfl, (hS.sel [0] (by decide))⟩
end Go.Proofs.Ytbehbjfcenlaeaa

/- Pure forms of functions, made by program (pf.py), each with the proof that the code does so. -/
namespace Go.Proofs.Ytbehbjfcenlaeaa
open Go Go.RowKit Go.Shelf
set_option linter.unusedVariables false
set_option maxRecDepth 100000
set_option maxHeartbeats 1000000
/-- sandpile/chips.within: what it computes. -/
def pf_chips_within (k : Int) (R : Bool → Prop) : Prop :=
(((-1048576) ≤ k →
R (decide (k ≤ 1048576))) ∧
(¬ ((-1048576) ≤ k) →
R false))
theorem pok_chips_within {O : Nat → Prop} {w : World} {k : Int} {R : Bool → Prop} (h : pf_chips_within k R) (hO : ∀ k, O k → k < w.heap.size) :
    Calls Try.prog 137 #[(Value.int .i64 k)] w fun e w' => ∃ r : Bool, e = .returned (Value.bool (r)) ∧ Sep w no O w' (rl []) ∧ R r := by
  unfold pf_chips_within at h
  have hS : Sep w no O w (rl []) := Sep.start w hO
  refine calls_sh (l := [(Value.int .i64 k)]) Try.func137 rfl Try.ntmps137 (Nat.le_of_ble_eq_true rfl) ?_
  refine wt_seq ?_
  refine wl_region wd_wide ?_
  refine rl_q rfl rfl rfl (v_assign (v := (Value.bool (false))) rfl) ?_
  refine rl_end ?_
  refine wt_seq ?_
  refine wl_region wd_wide ?_
  refine rl_q rfl rfl rfl (v_move (v := (Value.int .i64 k)) rfl) ?_
  refine rl_q rfl rfl rfl (v_geq rfl rfl) ?_
  refine rl_q rfl rfl rfl (v_move (v := (Value.bool (decide ((-1048576) ≤ k)))) rfl) ?_
  by_cases hp : (-1048576) ≤ k
  · replace h := h.1 hp
    refine rl_q (wanted_g rfl (yE_of rfl (congrArg Value.bool (decide_eq_true hp)))) rfl rfl (v_move (v := (Value.int .i64 k)) rfl) ?_
    refine rl_q (wanted_g rfl (yE_of rfl (congrArg Value.bool (decide_eq_true hp)))) rfl rfl (v_leq rfl rfl) ?_
    refine rl_q rfl rfl rfl (v_pick_t (v := (Value.bool (decide (k ≤ 1048576)))) (congrArg Value.bool (decide_eq_true hp)) rfl) ?_
    refine rl_q rfl rfl rfl (v_assign (v := (Value.bool (decide (k ≤ 1048576)))) rfl) ?_
    refine rl_end ?_
    exact wt_ret1 rfl rfl ⟨_, rfl, (hS.sel [] (by decide)), h⟩
  · replace h := h.2 hp
    refine rl_p (wanted_n rfl (yE_of rfl (congrArg Value.bool (decide_eq_false hp))) rfl) rfl ?_
    refine rl_p (wanted_n rfl (yE_of rfl (congrArg Value.bool (decide_eq_false hp))) rfl) rfl ?_
    refine rl_q rfl rfl rfl (v_pick_f (v := (Value.bool (false))) (congrArg Value.bool (decide_eq_false hp)) rfl) ?_
    refine rl_q rfl rfl rfl (v_assign (v := (Value.bool (false))) rfl) ?_
    refine rl_end ?_
    exact wt_ret1 rfl rfl ⟨_, rfl, (hS.sel [] (by decide)), h⟩

/-- sandpile/chips.vertices: what it computes. -/
def pf_chips_vertices (n : Int) (R : Int → Prop) : Prop :=
((n < 1 →
R 2) ∧
(¬ (n < 1) →
((12 < n →
R 2) ∧
(¬ (12 < n) →
R 0))))
theorem pok_chips_vertices {O : Nat → Prop} {w : World} {n : Int} {R : Int → Prop} (h : pf_chips_vertices n R) (hO : ∀ k, O k → k < w.heap.size) :
    Calls Try.prog 147 #[(Value.int .i64 n)] w fun e w' => ∃ r : Int, e = .returned (Value.int .i64 r) ∧ Sep w no O w' (rl []) ∧ R r := by
  unfold pf_chips_vertices at h
  have hS : Sep w no O w (rl []) := Sep.start w hO
  refine calls_sh (l := [(Value.int .i64 n)]) Try.func147 rfl Try.ntmps147 (Nat.le_of_ble_eq_true rfl) ?_
  refine wt_seq ?_
  refine wl_region wd_wide ?_
  refine rl_q rfl rfl rfl (v_assign (v := (Value.int .i64 0)) rfl) ?_
  refine rl_end ?_
  refine wt_seq ?_
  refine wt_seq ?_
  refine wl_region wd_wide ?_
  refine rl_q rfl rfl rfl (v_move (v := (Value.int .i64 n)) rfl) ?_
  refine rl_q rfl rfl rfl (v_lss rfl rfl) ?_
  refine rl_q rfl rfl rfl (v_move (v := (Value.bool (decide (n < 1)))) rfl) ?_
  by_cases hp : n < 1
  · replace h := h.1 hp
    refine rl_p (wanted_n rfl (yE_of rfl (congrArg Value.bool (decide_eq_true hp))) rfl) rfl ?_
    refine rl_p (wanted_n rfl (yE_of rfl (congrArg Value.bool (decide_eq_true hp))) rfl) rfl ?_
    refine rl_q rfl rfl rfl (v_pick_t (v := (Value.bool (true))) (congrArg Value.bool (decide_eq_true hp)) rfl) ?_
    refine rl_end ?_
    refine wt_cond_t rfl ?_
    refine wt_seq ?_
    refine wl_region wd_wide ?_
    refine rl_q rfl rfl rfl (v_assign (v := (Value.int .i64 2)) rfl) ?_
    refine rl_end ?_
    exact wt_ret1 rfl rfl ⟨_, rfl, (hS.sel [] (by decide)), h⟩
  · replace h := h.2 hp
    refine rl_q (wanted_g rfl (yE_of rfl (congrArg Value.bool (decide_eq_false hp)))) rfl rfl (v_move (v := (Value.int .i64 n)) rfl) ?_
    refine rl_q (wanted_g rfl (yE_of rfl (congrArg Value.bool (decide_eq_false hp)))) rfl rfl (v_gtr rfl rfl) ?_
    refine rl_q rfl rfl rfl (v_pick_f (v := (Value.bool (decide (12 < n)))) (congrArg Value.bool (decide_eq_false hp)) rfl) ?_
    refine rl_end ?_
    by_cases hp2 : 12 < n
    · replace h := h.1 hp2
      refine wt_cond_t (congrArg Value.bool (decide_eq_true hp2)) ?_
      refine wt_seq ?_
      refine wl_region wd_wide ?_
      refine rl_q rfl rfl rfl (v_assign (v := (Value.int .i64 2)) rfl) ?_
      refine rl_end ?_
      exact wt_ret1 rfl rfl ⟨_, rfl, (hS.sel [] (by decide)), h⟩
    · replace h := h.2 hp2
      refine wt_cond_f (congrArg Value.bool (decide_eq_false hp2)) ?_
      refine wt_skip ?_
      refine wt_seq ?_
      refine wl_region wd_wide ?_
      refine rl_q rfl rfl rfl (v_assign (v := (Value.int .i64 0)) rfl) ?_
      refine rl_end ?_
      exact wt_ret1 rfl rfl ⟨_, rfl, (hS.sel [] (by decide)), h⟩

/-- sandpile/chips.Check: what it computes. -/
def pf_chips_Check (d : List Int) (n : Int) (R : Int → Prop) : Prop :=
pf_chips_vertices n (fun (r : Int) =>
((r = 0 →
((((d.length : Nat) : Int) = n →
(∃ I2 : Nat → Int → Prop, (∃ m0, I2 m0 0) ∧ ∀ (m2 : Nat) (v : Int), I2 m2 v → 
((v < ((d.length : Nat) : Int) →
((0 ≤ v ∧ v < ((d.length : Nat) : Int)) ∧
pf_chips_within (gi d v.toNat) (fun (r2 : Bool) =>
((r2 = true →
(In64 (v + 1) ∧
∃ m3, m3 < m2 ∧ I2 m3 (v + 1))) ∧
(¬ (r2 = true) →
R 2))))) ∧
(¬ (v < ((d.length : Nat) : Int)) →
R 0)))) ∧
(¬ (((d.length : Nat) : Int) = n) →
R 8))) ∧
(¬ (r = 0) →
R r)))
theorem pok_chips_Check {O : Nat → Prop} {w : World} {d : List Int} {n : Int} {Ad : Option Addr} {ld : Nat} {cd : Nat} {R : Int → Prop} (h : pf_chips_Check d n R) (hO : ∀ k, O k → k < w.heap.size) (a0 : (FP.sl cI Ad ld cd d).P O w) :
    Calls Try.prog 104 #[(Value.slice Ad ld cd), (Value.int .i64 n)] w fun e w' => ∃ r3 : Int, e = .returned (Value.int .i64 r3) ∧ Sep w no O w' (rl []) ∧ R r3 := by
  unfold pf_chips_Check at h
  have hS : Sep w no O w (rl [Res.ro (FP.sl cI Ad ld cd d)]) := Sep.startl hO [(FP.sl cI Ad ld cd d)] ⟨a0, trivial⟩
  refine calls_sh (l := [(Value.slice Ad ld cd), (Value.int .i64 n)]) Try.func104 rfl Try.ntmps104 (Nat.le_of_ble_eq_true rfl) ?_
  refine wt_seq ?_
  refine wl_region wd_wide ?_
  refine rl_q rfl rfl rfl (v_assign (v := (Value.int .i64 0)) rfl) ?_
  refine rl_end ?_
  refine wt_seq ?_
  refine wt_seq ?_
  refine wl_region wd_wide ?_
  refine rl_q rfl rfl rfl (v_move (v := (Value.int .i64 n)) rfl) ?_
  refine rl_n rfl rfl rfl rfl (n_call0 rfl (am1 rfl) enter_147 ((pok_chips_vertices h (no_lt _)).mono ?_))
  rintro _ w2 ⟨r, rfl, hC, h⟩
  replace hS := hS.pur hC.pure
  clear hC
  refine ⟨_, rfl, ?_⟩
  refine ⟨Stb.none _, ?_⟩
  refine rl_q rfl rfl rfl (v_assign (v := (Value.int .i64 r)) rfl) ?_
  refine rl_end ?_
  refine wt_seq ?_
  refine wl_region wd_wide ?_
  refine rl_q rfl rfl rfl (v_move (v := (Value.int .i64 r)) rfl) ?_
  refine rl_q rfl rfl rfl (v_neq rfl rfl) ?_
  refine rl_end ?_
  by_cases hp : r = 0
  · replace h := h.1 hp
    refine wt_cond_f (congrArg Value.bool (congrArg Bool.not (decide_eq_true hp))) ?_
    refine wt_skip ?_
    refine wt_seq ?_
    refine wt_seq ?_
    refine wl_region wd_wide ?_
    refine rl_q rfl rfl rfl (v_move (v := (Value.slice Ad ld cd)) rfl) ?_
    refine rl_q rfl rfl rfl (v_lenx (n := d.length) rfl Try.underlying26 (rd_len (hS.rdr 0 rfl))) ?_
    refine rl_q rfl rfl rfl (v_move (v := (Value.int .i64 n)) rfl) ?_
    refine rl_q rfl rfl rfl (v_neq rfl rfl) ?_
    refine rl_end ?_
    by_cases hp2 : ((d.length : Nat) : Int) = n
    · replace h := h.1 hp2
      refine wt_cond_f (congrArg Value.bool (congrArg Bool.not (decide_eq_true hp2))) ?_
      refine wt_skip ?_
      refine wt_seq ?_
      refine wt_seq ?_
      refine wl_region wd_wide ?_
      refine rl_q rfl rfl rfl (v_move (v := (Value.slice Ad ld cd)) rfl) ?_
      refine rl_q rfl rfl rfl (v_lenx (n := d.length) rfl Try.underlying26 (rd_len (hS.rdr 0 rfl))) ?_
      refine rl_q rfl rfl rfl (v_move (v := (Value.int .i64 0)) rfl) ?_
      refine rl_end ?_
      refine wt_block ?_
      obtain ⟨I2, ⟨m0, h0⟩, hr⟩ := h
      refine wt_loop (fun m E ds w' => ∃ v : Int, I2 m v ∧ ds = [] ∧ E 17 = (Value.slice Ad ld cd) ∧ E 18 = (Value.int .i64 ((d.length : Nat) : Int)) ∧ E 19 = (Value.int .i64 v) ∧ Sep w no O w' (rl [Res.ro (FP.sl cI Ad ld cd d)])) m0 ⟨_, h0, rfl, rfl, rfl, rfl, (hS.sel [0] (by decide))⟩ ?_
      clear h0 hS
      rintro m2 E ds w3 ⟨v, h, rfl, hE17, hE18, hE19, hS⟩ again
      replace h := hr m2 v h
      clear hr
      refine wt_seq ?_
      refine wl_region wd_wide ?_
      refine rl_q rfl rfl rfl (v_lss hE19 hE18) ?_
      refine rl_end ?_
      refine wt_seq ?_
      by_cases hp3 : v < ((d.length : Nat) : Int)
      · replace h := h.1 hp3
        refine wt_cond_t (congrArg Value.bool (decide_eq_true hp3)) ?_
        refine wt_skip ?_
        refine wt_seq ?_
        refine wt_block ?_
        refine wt_seq ?_
        refine wl_region wd_wide ?_
        obtain ⟨hx, h⟩ := h
        refine rl_q rfl rfl rfl (v_iaddr hE17 hE19 Try.underlying26 info_3 (rd_ix (hS.rdr 0 rfl) hx)) ?_
        refine rl_q rfl rfl rfl (v_load (v := (Value.int .i64 (gi d v.toNat))) rfl Try.underlying3 rfl (rd_1 (hS.rdr 0 rfl) hx (fun q => gi_some q) rfl)) ?_
        refine rl_q rfl rfl rfl (v_assign (v := (Value.int .i64 (gi d v.toNat))) rfl) ?_
        refine rl_end ?_
        refine wt_seq ?_
        refine wl_region wd_wide ?_
        refine rl_q rfl rfl rfl (v_move (v := (Value.int .i64 (gi d v.toNat))) rfl) ?_
        refine rl_n rfl rfl rfl rfl (n_call0 rfl (am1 rfl) enter_137 ((pok_chips_within h (no_lt _)).mono ?_))
        rintro _ w4 ⟨r2, rfl, hC, h⟩
        replace hS := hS.pur hC.pure
        clear hC
        refine ⟨_, rfl, ?_⟩
        refine ⟨Stb.none _, ?_⟩
        refine rl_q rfl rfl rfl (v_not rfl) ?_
        refine rl_end ?_
        by_cases hp4 : r2 = true
        · replace h := h.1 hp4
          refine wt_cond_f (congrArg Value.bool (congrArg Bool.not hp4)) ?_
          refine wt_skip ?_
          refine wt_inBlock ?_
          refine wl_region wd_wide ?_
          obtain ⟨hi, h⟩ := h
          refine rl_q rfl rfl rfl (v_add hE19 rfl hi) ?_
          refine rl_q rfl rfl rfl (v_move (v := (Value.int .i64 (v + 1))) rfl) ?_
          refine rl_end ?_
          obtain ⟨mq, hlt, h⟩ := h
          exact again mq _ _ _ ⟨_, h, rfl, hE17, hE18, rfl, (hS.sel [0] (by decide))⟩ hlt
        · replace h := h.2 hp4
          refine wt_cond_t (congrArg Value.bool (congrArg Bool.not (Bool.eq_false_iff.2 hp4))) ?_
          refine wt_seq ?_
          refine wl_region wd_wide ?_
          refine rl_q rfl rfl rfl (v_assign (v := (Value.int .i64 2)) rfl) ?_
          refine rl_end ?_
          exact wt_ret1 rfl rfl ⟨_, rfl, (hS.sel [] (by decide)), h⟩
      · replace h := h.2 hp3
        refine wt_cond_f (congrArg Value.bool (decide_eq_false hp3)) ?_
        refine wt_exit rfl ?_
        refine wt_seq ?_
        refine wl_region wd_wide ?_
        refine rl_q rfl rfl rfl (v_assign (v := (Value.int .i64 0)) rfl) ?_
        refine rl_end ?_
        exact wt_ret1 rfl rfl ⟨_, rfl, (hS.sel [] (by decide)), h⟩
    · replace h := h.2 hp2
      refine wt_cond_t (congrArg Value.bool (congrArg Bool.not (decide_eq_false hp2))) ?_
      refine wt_seq ?_
      refine wl_region wd_wide ?_
      refine rl_q rfl rfl rfl (v_assign (v := (Value.int .i64 8)) rfl) ?_
      refine rl_end ?_
      exact wt_ret1 rfl rfl ⟨_, rfl, (hS.sel [] (by decide)), h⟩
  · replace h := h.2 hp
    refine wt_cond_t (congrArg Value.bool (congrArg Bool.not (decide_eq_false hp))) ?_
    refine wt_seq ?_
    refine wl_region wd_wide ?_
    refine rl_q rfl rfl rfl (v_move (v := (Value.int .i64 r)) rfl) ?_
    refine rl_q rfl rfl rfl (v_assign (v := (Value.int .i64 r)) rfl) ?_
    refine rl_end ?_
    exact wt_ret1 rfl rfl ⟨_, rfl, (hS.sel [] (by decide)), h⟩

/-- sandpile/graph.vertex: what it computes. -/
def pf_graph_vertex (n : Int) (v : Int) (R : Bool → Prop) : Prop :=
((0 ≤ v →
R (decide (v < n))) ∧
(¬ (0 ≤ v) →
R false))
theorem pok_graph_vertex {O : Nat → Prop} {w : World} {n : Int} {v : Int} {R : Bool → Prop} (h : pf_graph_vertex n v R) (hO : ∀ k, O k → k < w.heap.size) :
    Calls Try.prog 159 #[(Value.int .i64 n), (Value.int .i64 v)] w fun e w' => ∃ r : Bool, e = .returned (Value.bool (r)) ∧ Sep w no O w' (rl []) ∧ R r := by
  unfold pf_graph_vertex at h
  have hS : Sep w no O w (rl []) := Sep.start w hO
  refine calls_sh (l := [(Value.int .i64 n), (Value.int .i64 v)]) Try.func159 rfl Try.ntmps159 (Nat.le_of_ble_eq_true rfl) ?_
  refine wt_seq ?_
  refine wl_region wd_wide ?_
  refine rl_q rfl rfl rfl (v_assign (v := (Value.bool (false))) rfl) ?_
  refine rl_end ?_
  refine wt_seq ?_
  refine wl_region wd_wide ?_
  refine rl_q rfl rfl rfl (v_move (v := (Value.int .i64 v)) rfl) ?_
  refine rl_q rfl rfl rfl (v_geq rfl rfl) ?_
  refine rl_q rfl rfl rfl (v_move (v := (Value.bool (decide (0 ≤ v)))) rfl) ?_
  by_cases hp : 0 ≤ v
  · replace h := h.1 hp
    refine rl_q (wanted_g rfl (yE_of rfl (congrArg Value.bool (decide_eq_true hp)))) rfl rfl (v_move (v := (Value.int .i64 v)) rfl) ?_
    refine rl_q (wanted_g rfl (yE_of rfl (congrArg Value.bool (decide_eq_true hp)))) rfl rfl (v_move (v := (Value.int .i64 n)) rfl) ?_
    refine rl_q (wanted_g rfl (yE_of rfl (congrArg Value.bool (decide_eq_true hp)))) rfl rfl (v_lss rfl rfl) ?_
    refine rl_q rfl rfl rfl (v_pick_t (v := (Value.bool (decide (v < n)))) (congrArg Value.bool (decide_eq_true hp)) rfl) ?_
    refine rl_q rfl rfl rfl (v_assign (v := (Value.bool (decide (v < n)))) rfl) ?_
    refine rl_end ?_
    exact wt_ret1 rfl rfl ⟨_, rfl, (hS.sel [] (by decide)), h⟩
  · replace h := h.2 hp
    refine rl_p (wanted_n rfl (yE_of rfl (congrArg Value.bool (decide_eq_false hp))) rfl) rfl ?_
    refine rl_p (wanted_n rfl (yE_of rfl (congrArg Value.bool (decide_eq_false hp))) rfl) rfl ?_
    refine rl_p (wanted_n rfl (yE_of rfl (congrArg Value.bool (decide_eq_false hp))) rfl) rfl ?_
    refine rl_q rfl rfl rfl (v_pick_f (v := (Value.bool (false))) (congrArg Value.bool (decide_eq_false hp)) rfl) ?_
    refine rl_q rfl rfl rfl (v_assign (v := (Value.bool (false))) rfl) ?_
    refine rl_end ?_
    exact wt_ret1 rfl rfl ⟨_, rfl, (hS.sel [] (by decide)), h⟩

/-- cmp.Compare[int]: what it computes. -/
def pf_cmp_Compare_int (x : Int) (y : Int) (R : Int → Prop) : Prop :=
pf_cmp_isNaN_int x (fun (r : Bool) =>
pf_cmp_isNaN_int y (fun (r2 : Bool) =>
((r = true →
((r2 = true →
R 0) ∧
(¬ (r2 = true) →
R (-1)))) ∧
(¬ (r = true) →
((r2 = true →
R 1) ∧
(¬ (r2 = true) →
((x < y →
R (-1)) ∧
(¬ (x < y) →
((y < x →
R 1) ∧
(¬ (y < x) →
R 0))))))))))
theorem pok_cmp_Compare_int {O : Nat → Prop} {w : World} {x : Int} {y : Int} {R : Int → Prop} (h : pf_cmp_Compare_int x y R) (hO : ∀ k, O k → k < w.heap.size) :
    Calls Try.prog 173 #[(Value.int .i64 x), (Value.int .i64 y)] w fun e w' => ∃ r3 : Int, e = .returned (Value.int .i64 r3) ∧ Sep w no O w' (rl []) ∧ R r3 := by
  unfold pf_cmp_Compare_int at h
  have hS : Sep w no O w (rl []) := Sep.start w hO
  refine calls_sh (l := [(Value.int .i64 x), (Value.int .i64 y)]) Try.func173 rfl Try.ntmps173 (Nat.le_of_ble_eq_true rfl) ?_
  refine wt_seq ?_
  refine wl_region wd_wide ?_
  refine rl_q rfl rfl rfl (v_assign (v := (Value.int .i64 0)) rfl) ?_
  refine rl_end ?_
  refine wt_seq ?_
  refine wl_region wd_wide ?_
  refine rl_q rfl rfl rfl (v_move (v := (Value.int .i64 x)) rfl) ?_
  refine rl_n rfl rfl rfl rfl (n_call0 rfl (am1 rfl) enter_179 ((pok_cmp_isNaN_int h (no_lt _)).mono ?_))
  rintro _ w2 ⟨r, rfl, hC, h⟩
  replace hS := hS.pur hC.pure
  clear hC
  refine ⟨_, rfl, ?_⟩
  refine ⟨Stb.none _, ?_⟩
  refine rl_q rfl rfl rfl (v_assign (v := (Value.bool (r))) rfl) ?_
  refine rl_end ?_
  refine wt_seq ?_
  refine wl_region wd_wide ?_
  refine rl_q rfl rfl rfl (v_move (v := (Value.int .i64 y)) rfl) ?_
  refine rl_n rfl rfl rfl rfl (n_call0 rfl (am1 rfl) enter_179 ((pok_cmp_isNaN_int h (no_lt _)).mono ?_))
  rintro _ w3 ⟨r2, rfl, hC, h⟩
  replace hS := hS.pur hC.pure
  clear hC
  refine ⟨_, rfl, ?_⟩
  refine ⟨Stb.none _, ?_⟩
  refine rl_q rfl rfl rfl (v_assign (v := (Value.bool (r2))) rfl) ?_
  refine rl_end ?_
  refine wt_seq ?_
  refine wt_seq ?_
  refine wl_region wd_wide ?_
  refine rl_q rfl rfl rfl (v_move (v := (Value.bool (r))) rfl) ?_
  refine rl_end ?_
  by_cases hp : r = true
  · replace h := h.1 hp
    refine wt_cond_t (congrArg Value.bool hp) ?_
    refine wt_seq ?_
    refine wt_seq ?_
    refine wl_region wd_wide ?_
    refine rl_q rfl rfl rfl (v_move (v := (Value.bool (r2))) rfl) ?_
    refine rl_end ?_
    by_cases hp2 : r2 = true
    · replace h := h.1 hp2
      refine wt_cond_t (congrArg Value.bool hp2) ?_
      refine wt_seq ?_
      refine wl_region wd_wide ?_
      refine rl_q rfl rfl rfl (v_assign (v := (Value.int .i64 0)) rfl) ?_
      refine rl_end ?_
      exact wt_ret1 rfl rfl ⟨_, rfl, (hS.sel [] (by decide)), h⟩
    · replace h := h.2 hp2
      refine wt_cond_f (congrArg Value.bool (Bool.eq_false_iff.2 hp2)) ?_
      refine wt_skip ?_
      refine wt_seq ?_
      refine wl_region wd_wide ?_
      refine rl_q rfl rfl rfl (v_assign (v := (Value.int .i64 (-1))) rfl) ?_
      refine rl_end ?_
      exact wt_ret1 rfl rfl ⟨_, rfl, (hS.sel [] (by decide)), h⟩
  · replace h := h.2 hp
    refine wt_cond_f (congrArg Value.bool (Bool.eq_false_iff.2 hp)) ?_
    refine wt_skip ?_
    refine wt_seq ?_
    refine wt_seq ?_
    refine wl_region wd_wide ?_
    refine rl_q rfl rfl rfl (v_move (v := (Value.bool (r2))) rfl) ?_
    refine rl_end ?_
    by_cases hp3 : r2 = true
    · replace h := h.1 hp3
      refine wt_cond_t (congrArg Value.bool hp3) ?_
      refine wt_seq ?_
      refine wl_region wd_wide ?_
      refine rl_q rfl rfl rfl (v_assign (v := (Value.int .i64 1)) rfl) ?_
      refine rl_end ?_
      exact wt_ret1 rfl rfl ⟨_, rfl, (hS.sel [] (by decide)), h⟩
    · replace h := h.2 hp3
      refine wt_cond_f (congrArg Value.bool (Bool.eq_false_iff.2 hp3)) ?_
      refine wt_skip ?_
      refine wt_seq ?_
      refine wt_seq ?_
      refine wl_region wd_wide ?_
      refine rl_q rfl rfl rfl (v_move (v := (Value.int .i64 x)) rfl) ?_
      refine rl_q rfl rfl rfl (v_move (v := (Value.int .i64 y)) rfl) ?_
      refine rl_q rfl rfl rfl (v_lss rfl rfl) ?_
      refine rl_end ?_
      by_cases hp4 : x < y
      · replace h := h.1 hp4
        refine wt_cond_t (congrArg Value.bool (decide_eq_true hp4)) ?_
        refine wt_seq ?_
        refine wl_region wd_wide ?_
        refine rl_q rfl rfl rfl (v_assign (v := (Value.int .i64 (-1))) rfl) ?_
        refine rl_end ?_
        exact wt_ret1 rfl rfl ⟨_, rfl, (hS.sel [] (by decide)), h⟩
      · replace h := h.2 hp4
        refine wt_cond_f (congrArg Value.bool (decide_eq_false hp4)) ?_
        refine wt_skip ?_
        refine wt_seq ?_
        refine wt_seq ?_
        refine wl_region wd_wide ?_
        refine rl_q rfl rfl rfl (v_move (v := (Value.int .i64 x)) rfl) ?_
        refine rl_q rfl rfl rfl (v_move (v := (Value.int .i64 y)) rfl) ?_
        refine rl_q rfl rfl rfl (v_gtr rfl rfl) ?_
        refine rl_end ?_
        by_cases hp5 : y < x
        · replace h := h.1 hp5
          refine wt_cond_t (congrArg Value.bool (decide_eq_true hp5)) ?_
          refine wt_seq ?_
          refine wl_region wd_wide ?_
          refine rl_q rfl rfl rfl (v_assign (v := (Value.int .i64 1)) rfl) ?_
          refine rl_end ?_
          exact wt_ret1 rfl rfl ⟨_, rfl, (hS.sel [] (by decide)), h⟩
        · replace h := h.2 hp5
          refine wt_cond_f (congrArg Value.bool (decide_eq_false hp5)) ?_
          refine wt_skip ?_
          refine wt_seq ?_
          refine wl_region wd_wide ?_
          refine rl_q rfl rfl rfl (v_assign (v := (Value.int .i64 0)) rfl) ?_
          refine rl_end ?_
          exact wt_ret1 rfl rfl ⟨_, rfl, (hS.sel [] (by decide)), h⟩

/-- cmp.Or[int]: what it computes. -/
def pf_cmp_Or_int (vals : List Int) (R : Int → Prop) : Prop :=
(∃ I2 : Nat → Int → Prop, (∃ m0, I2 m0 0) ∧ ∀ (m2 : Nat) (v : Int), I2 m2 v → 
((v < ((vals.length : Nat) : Int) →
((0 ≤ v ∧ v < ((vals.length : Nat) : Int)) ∧
(((gi vals v.toNat) = 0 →
(In64 (v + 1) ∧
∃ m3, m3 < m2 ∧ I2 m3 (v + 1))) ∧
(¬ ((gi vals v.toNat) = 0) →
R (gi vals v.toNat))))) ∧
(¬ (v < ((vals.length : Nat) : Int)) →
R 0)))
theorem pok_cmp_Or_int {O : Nat → Prop} {w : World} {vals : List Int} {Avals : Option Addr} {lvals : Nat} {cvals : Nat} {R : Int → Prop} (h : pf_cmp_Or_int vals R) (hO : ∀ k, O k → k < w.heap.size) (a0 : (FP.sl cI Avals lvals cvals vals).P O w) :
    Calls Try.prog 172 #[(Value.slice Avals lvals cvals)] w fun e w' => ∃ r : Int, e = .returned (Value.int .i64 r) ∧ Sep w no O w' (rl []) ∧ R r := by
  unfold pf_cmp_Or_int at h
  have hS : Sep w no O w (rl [Res.ro (FP.sl cI Avals lvals cvals vals)]) := Sep.startl hO [(FP.sl cI Avals lvals cvals vals)] ⟨a0, trivial⟩
  refine calls_sh (l := [(Value.slice Avals lvals cvals)]) Try.func172 rfl Try.ntmps172 (Nat.le_of_ble_eq_true rfl) ?_
  refine wt_seq ?_
  refine wl_region wd_wide ?_
  refine rl_q rfl rfl rfl (v_assign (v := (Value.int .i64 0)) rfl) ?_
  refine rl_end ?_
  refine wt_seq ?_
  refine wl_region wd_wide ?_
  refine rl_q rfl rfl rfl (v_assign (v := (Value.int .i64 0)) rfl) ?_
  refine rl_end ?_
  refine wt_seq ?_
  refine wt_seq ?_
  refine wl_region wd_wide ?_
  refine rl_q rfl rfl rfl (v_move (v := (Value.slice Avals lvals cvals)) rfl) ?_
  refine rl_q rfl rfl rfl (v_lenx (n := vals.length) rfl Try.underlying25 (rd_len (hS.rdr 0 rfl))) ?_
  refine rl_q rfl rfl rfl (v_move (v := (Value.int .i64 0)) rfl) ?_
  refine rl_end ?_
  refine wt_block ?_
  obtain ⟨I2, ⟨m0, h0⟩, hr⟩ := h
  refine wt_loop (fun m E ds w' => ∃ v : Int, I2 m v ∧ ds = [] ∧ E 3 = (Value.int .i64 0) ∧ E 6 = (Value.slice Avals lvals cvals) ∧ E 7 = (Value.int .i64 ((vals.length : Nat) : Int)) ∧ E 8 = (Value.int .i64 v) ∧ Sep w no O w' (rl [Res.ro (FP.sl cI Avals lvals cvals vals)])) m0 ⟨_, h0, rfl, rfl, rfl, rfl, rfl, (hS.sel [0] (by decide))⟩ ?_
  clear h0 hS
  rintro m2 E ds w2 ⟨v, h, rfl, hE3, hE6, hE7, hE8, hS⟩ again
  replace h := hr m2 v h
  clear hr
  refine wt_seq ?_
  refine wl_region wd_wide ?_
  refine rl_q rfl rfl rfl (v_lss hE8 hE7) ?_
  refine rl_end ?_
  refine wt_seq ?_
  by_cases hp : v < ((vals.length : Nat) : Int)
  · replace h := h.1 hp
    refine wt_cond_t (congrArg Value.bool (decide_eq_true hp)) ?_
    refine wt_skip ?_
    refine wt_seq ?_
    refine wt_block ?_
    refine wt_seq ?_
    refine wl_region wd_wide ?_
    obtain ⟨hx, h⟩ := h
    refine rl_q rfl rfl rfl (v_iaddr hE6 hE8 Try.underlying25 info_3 (rd_ix (hS.rdr 0 rfl) hx)) ?_
    refine rl_q rfl rfl rfl (v_load (v := (Value.int .i64 (gi vals v.toNat))) rfl Try.underlying3 rfl (rd_1 (hS.rdr 0 rfl) hx (fun q => gi_some q) rfl)) ?_
    refine rl_q rfl rfl rfl (v_assign (v := (Value.int .i64 (gi vals v.toNat))) rfl) ?_
    refine rl_end ?_
    refine wt_seq ?_
    refine wl_region wd_wide ?_
    refine rl_q rfl rfl rfl (v_move (v := (Value.int .i64 (gi vals v.toNat))) rfl) ?_
    refine rl_q rfl rfl rfl (v_move (v := (Value.int .i64 0)) hE3) ?_
    refine rl_q rfl rfl rfl (v_neq rfl rfl) ?_
    refine rl_end ?_
    by_cases hp2 : (gi vals v.toNat) = 0
    · replace h := h.1 hp2
      refine wt_cond_f (congrArg Value.bool (congrArg Bool.not (decide_eq_true hp2))) ?_
      refine wt_skip ?_
      refine wt_inBlock ?_
      refine wl_region wd_wide ?_
      obtain ⟨hi, h⟩ := h
      refine rl_q rfl rfl rfl (v_add hE8 rfl hi) ?_
      refine rl_q rfl rfl rfl (v_move (v := (Value.int .i64 (v + 1))) rfl) ?_
      refine rl_end ?_
      obtain ⟨mq, hlt, h⟩ := h
      exact again mq _ _ _ ⟨_, h, rfl, hE3, hE6, hE7, rfl, (hS.sel [0] (by decide))⟩ hlt
    · replace h := h.2 hp2
      refine wt_cond_t (congrArg Value.bool (congrArg Bool.not (decide_eq_false hp2))) ?_
      refine wt_seq ?_
      refine wl_region wd_wide ?_
      refine rl_q rfl rfl rfl (v_move (v := (Value.int .i64 (gi vals v.toNat))) rfl) ?_
      refine rl_q rfl rfl rfl (v_assign (v := (Value.int .i64 (gi vals v.toNat))) rfl) ?_
      refine rl_end ?_
      exact wt_ret1 rfl rfl ⟨_, rfl, (hS.sel [] (by decide)), h⟩
  · replace h := h.2 hp
    refine wt_cond_f (congrArg Value.bool (decide_eq_false hp)) ?_
    refine wt_exit rfl ?_
    refine wt_seq ?_
    refine wl_region wd_wide ?_
    refine rl_q rfl rfl rfl (v_move (v := (Value.int .i64 0)) hE3) ?_
    refine rl_q rfl rfl rfl (v_assign (v := (Value.int .i64 0)) rfl) ?_
    refine rl_end ?_
    exact wt_ret1 rfl rfl ⟨_, rfl, (hS.sel [] (by decide)), h⟩

/-- (sandpile/graph.pair).compare: what it computes. -/
def pf_graph_pair_compare (p : Int) (p2 : Int) (q : Int) (q2 : Int) (R : Int → Prop) : Prop :=
pf_cmp_Compare_int p q (fun (r : Int) =>
pf_cmp_Compare_int p2 q2 (fun (r2 : Int) =>
pf_cmp_Or_int ([r, r2]) (fun (r3 : Int) =>
R r3)))
theorem pok_graph_pair_compare {O : Nat → Prop} {w : World} {p : Int} {p2 : Int} {q : Int} {q2 : Int} {R : Int → Prop} (h : pf_graph_pair_compare p p2 q q2 R) (hO : ∀ k, O k → k < w.heap.size) :
    Calls Try.prog 160 #[(Value.agg #[(Value.int .i64 p), (Value.int .i64 p2)]), (Value.agg #[(Value.int .i64 q), (Value.int .i64 q2)])] w fun e w' => ∃ r4 : Int, e = .returned (Value.int .i64 r4) ∧ Sep w no O w' (rl []) ∧ R r4 := by
  unfold pf_graph_pair_compare at h
  have hS : Sep w no O w (rl []) := Sep.start w hO
  refine calls_sh (l := [(Value.agg #[(Value.int .i64 p), (Value.int .i64 p2)]), (Value.agg #[(Value.int .i64 q), (Value.int .i64 q2)])]) Try.func160 rfl Try.ntmps160 (Nat.le_of_ble_eq_true rfl) ?_
  refine wt_seq ?_
  refine wl_region wd_wide ?_
  refine rl_n rfl rfl rfl rfl (n_box (v := (Value.agg #[(Value.int .i64 p), (Value.int .i64 p2)])) rfl ?_)
  intro g w2 hN
  replace hS : Sep w no O w2 (stl _ 0 (Res.box 180 g [(Value.int .i64 p), (Value.int .i64 p2)])) := hS.new 0 rfl hN
  clear hN
  refine ⟨Stb.none _, ?_⟩
  refine rl_n rfl rfl rfl rfl (n_box (v := (Value.agg #[(Value.int .i64 q), (Value.int .i64 q2)])) rfl ?_)
  intro g2 w3 hN
  replace hS : Sep w no O w3 (stl _ 1 (Res.box 180 g2 [(Value.int .i64 q), (Value.int .i64 q2)])) := hS.new 1 rfl hN
  clear hN
  refine ⟨Stb.none _, ?_⟩
  refine rl_q rfl rfl rfl (v_assign (v := (Value.int .i64 0)) rfl) ?_
  refine rl_end ?_
  refine wt_seq ?_
  refine wp_draw [0, 1, 2, 3, 5, 6, 7, 8, 4, 9, 10, 11, 12] (fun i => match i with | 4 => [5, 6, 7, 8] | _ => []) wd_wide (by kernel_rfl) (by kernel_rfl) ?_
  replace hS := hS.drew
  refine rp_q rfl rfl rfl (v_faddr rfl Try.underlying180 rfl info_3) ?_
  refine rp_q rfl rfl rfl (v_load rfl Try.underlying3 rfl (Row.cell (hS.bx 0 rfl) (i := 0) rfl)) ?_
  refine rp_q rfl rfl rfl (v_faddr rfl Try.underlying180 rfl info_3) ?_
  refine rp_q rfl rfl rfl (v_load rfl Try.underlying3 rfl (Row.cell (hS.bx 1 rfl) (i := 0) rfl)) ?_
  refine rp_q rfl rfl rfl (v_faddr rfl Try.underlying180 rfl info_3) ?_
  refine rp_q rfl rfl rfl (v_load rfl Try.underlying3 rfl (Row.cell (hS.bx 0 rfl) (i := 1) rfl)) ?_
  refine rp_q rfl rfl rfl (v_faddr rfl Try.underlying180 rfl info_3) ?_
  refine rp_q rfl rfl rfl (v_load rfl Try.underlying3 rfl (Row.cell (hS.bx 1 rfl) (i := 1) rfl)) ?_
  refine rp_n rfl rfl rfl rfl (n_call0 rfl (am2 rfl rfl) enter_173 ((pok_cmp_Compare_int h (no_lt _)).mono ?_))
  rintro _ w4 ⟨r, rfl, hC, h⟩
  replace hS := hS.pur hC.pure
  clear hC
  refine ⟨_, rfl, ?_⟩
  refine ⟨⟨fun _ => (v_load rfl Try.underlying3 rfl (Row.cell (hS.bx 1 rfl) (i := 1) rfl)), ⟨fun _ => (v_faddr rfl Try.underlying180 rfl info_3), ⟨fun _ => (v_load rfl Try.underlying3 rfl (Row.cell (hS.bx 0 rfl) (i := 1) rfl)), ⟨fun _ => (v_faddr rfl Try.underlying180 rfl info_3), ⟨fun hh => Bool.noConfusion (show false = true from hh), ⟨fun hh => Bool.noConfusion (show false = true from hh), ⟨fun hh => Bool.noConfusion (show false = true from hh), ⟨fun hh => Bool.noConfusion (show false = true from hh), trivial⟩⟩⟩⟩⟩⟩⟩⟩, ?_⟩
  refine rp_n rfl rfl rfl rfl (n_call0 rfl (am2 rfl rfl) enter_173 ((pok_cmp_Compare_int h (no_lt _)).mono ?_))
  rintro _ w5 ⟨r2, rfl, hC, h⟩
  replace hS := hS.pur hC.pure
  clear hC
  refine ⟨_, rfl, ?_⟩
  refine ⟨Stb.none _, ?_⟩
  refine rp_n rfl rfl rfl rfl (n_bslice (l := [(0, (Value.int .i64 r)), (1, (Value.int .i64 r2))]) (cells := [(Value.int .i64 r), (Value.int .i64 r2)]) (bp2 rfl rfl) Try.underlying25 info_3 rfl rfl ?_)
  intro g3 w6 hN
  replace hS := hS.litf (n := 2) 2 rfl (fI .i64) hN ([r, r2] : List Int) rfl (by decide) rfl
  clear hN
  refine ⟨Stb.none _, ?_⟩
  refine rp_n rfl rfl rfl rfl (n_call0 rfl (am1 rfl) enter_172 ((pok_cmp_Or_int h (no_lt _) (hS.rdo 2 rfl)).mono ?_))
  rintro _ w7 ⟨r3, rfl, hC, h⟩
  replace hS := hS.pur hC.pure
  clear hC
  refine ⟨_, rfl, ?_⟩
  refine ⟨Stb.none _, ?_⟩
  refine rp_q rfl rfl rfl (v_assign (v := (Value.int .i64 r3)) rfl) ?_
  refine rp_end ?_
  exact wt_ret1 rfl rfl ⟨_, rfl, (hS.sel [] (by decide)), h⟩

/-- sandpile/graph.Check: what it computes. -/
def pf_graph_Check (d : Int) (d2 : List (Int × Int × Int)) (R : Int → Prop) : Prop :=
(∃ J2 : Prop, (J2 → (∃ I2 : Nat → Int → Int → Int → Prop, (∃ m0, I2 m0 0 (-1) (-1)) ∧ ∀ (m2 : Nat) (v : Int) (v2 : Int) (v3 : Int), I2 m2 v v2 v3 → 
((v < ((d2.length : Nat) : Int) →
((0 ≤ v ∧ v < ((d2.length : Nat) : Int)) ∧
(∃ J3 : Prop, (J3 → ((((ge d2 v.toNat).2.1) < ((ge d2 v.toNat).1) →
R 9) ∧
(¬ (((ge d2 v.toNat).2.1) < ((ge d2 v.toNat).1)) →
pf_graph_pair_compare v2 v3 ((ge d2 v.toNat).1) ((ge d2 v.toNat).2.1) (fun (r : Int) =>
((0 ≤ r →
R 9) ∧
(¬ (0 ≤ r) →
(In64 (v + 1) ∧
∃ m3, m3 < m2 ∧ I2 m3 (v + 1) ((ge d2 v.toNat).1) ((ge d2 v.toNat).2.1)))))))) ∧
pf_graph_vertex d ((ge d2 v.toNat).1) (fun (r2 : Bool) =>
((r2 = true →
pf_graph_vertex d ((ge d2 v.toNat).2.1) (fun (r3 : Bool) =>
((r3 = true →
((((ge d2 v.toNat).2.2) < 1 →
R 2) ∧
(¬ (((ge d2 v.toNat).2.2) < 1) →
((50 < ((ge d2 v.toNat).2.2) →
R 2) ∧
(¬ (50 < ((ge d2 v.toNat).2.2)) →
J3))))) ∧
(¬ (r3 = true) →
R 2)))) ∧
(¬ (r2 = true) →
R 2)))))) ∧
(¬ (v < ((d2.length : Nat) : Int)) →
R 0)))) ∧
((d < 1 →
R 2) ∧
(¬ (d < 1) →
((12 < d →
R 2) ∧
(¬ (12 < d) →
J2)))))
theorem pok_graph_Check {O : Nat → Prop} {w : World} {d : Int} {d2 : List (Int × Int × Int)} {Ad : Option Addr} {ld : Nat} {cd : Nat} {R : Int → Prop} (h : pf_graph_Check d d2 R) (hO : ∀ k, O k → k < w.heap.size) (a0 : (FP.sl c3 Ad ld cd d2).P O w) :
    Calls Try.prog 133 #[(Value.agg #[(Value.int .i64 d), (Value.slice Ad ld cd)])] w fun e w' => ∃ r4 : Int, e = .returned (Value.int .i64 r4) ∧ Sep w no O w' (rl []) ∧ R r4 := by
  unfold pf_graph_Check at h
  have hS : Sep w no O w (rl [Res.ro (FP.sl c3 Ad ld cd d2)]) := Sep.startl hO [(FP.sl c3 Ad ld cd d2)] ⟨a0, trivial⟩
  refine calls_sh (l := [(Value.agg #[(Value.int .i64 d), (Value.slice Ad ld cd)])]) Try.func133 rfl Try.ntmps133 (Nat.le_of_ble_eq_true rfl) ?_
  refine wt_seq ?_
  refine wl_region wd_wide ?_
  refine rl_n rfl rfl rfl rfl (n_box (v := (Value.agg #[(Value.int .i64 d), (Value.slice Ad ld cd)])) rfl ?_)
  intro g w2 hN
  replace hS : Sep w no O w2 (stl _ 1 (Res.box 24 g [(Value.int .i64 d), (Value.slice Ad ld cd)])) := hS.new 1 rfl hN
  clear hN
  refine ⟨Stb.none _, ?_⟩
  refine rl_q rfl rfl rfl (v_assign (v := (Value.int .i64 0)) rfl) ?_
  refine rl_end ?_
  refine wt_seq ?_
  refine wt_seq ?_
  obtain ⟨J2, hJ, h⟩ := h
  refine wt_cutT1 (fun E ds w' => J2 ∧ ds = [] ∧ E 1 = (Value.pointer (some (⟨g, 0, none⟩ : Addr))) ∧ Sep w no O w' (rl [Res.box 24 g [(Value.int .i64 d), (Value.slice Ad ld cd)], Res.ro (FP.sl c3 Ad ld cd d2)])) ?_ ?_
  · clear h hS
    rintro E ds w3 ⟨h, rfl, hE1, hS⟩
    replace h := hJ h
    refine wt_seq ?_
    refine wl_region wd_wide ?_
    refine rl_n rfl rfl rfl rfl (n_build (l := [(0, (Value.int .i64 (-1))), (1, (Value.int .i64 (-1)))]) (cells := [(Value.int .i64 (-1)), (Value.int .i64 (-1))]) (places := [(0, 1), (1, 1)]) (bp2 rfl rfl) Try.underlying180 info_180 (by kernel_rfl) rfl ?_)
    refine ⟨Stb.none _, ?_⟩
    refine rl_n rfl rfl rfl rfl (n_alloc info_180 ?_)
    intro g2 w4 hN
    replace hS : Sep w no O w4 (stl _ 2 (Res.box 180 g2 [(Value.int .i64 0), (Value.int .i64 0)])) := hS.new 2 rfl hN
    clear hN
    refine ⟨Stb.none _, ?_⟩
    refine rl_n0 rfl rfl rfl (n_storen (b := g2) (o := 0) (cells := #[(Value.int .i64 (-1)), (Value.int .i64 (-1))]) rfl rfl info_180 rfl rfl (there_row (hS.bx 2 rfl) (Nat.le_of_ble_eq_true rfl)) ?_)
    intro w5 e1
    replace hS := hS.bstn 2 rfl 0 [(Value.int .i64 (-1)), (Value.int .i64 (-1))] e1
    clear e1
    refine ⟨Stb.none _, ?_⟩
    refine rl_end ?_
    refine wt_seq ?_
    refine wt_seq ?_
    refine wl_region wd_wide ?_
    refine rl_q rfl rfl rfl (v_faddr hE1 Try.underlying24 rfl info_22) ?_
    refine rl_q rfl rfl rfl (v_load rfl Try.underlying22 rfl (Row.cell (hS.bx 0 rfl) (i := 1) rfl)) ?_
    refine rl_q rfl rfl rfl (v_lenx (n := d2.length) rfl Try.underlying22 (rd_len (hS.rdr 1 rfl))) ?_
    refine rl_q rfl rfl rfl (v_move (v := (Value.int .i64 0)) rfl) ?_
    refine rl_end ?_
    refine wt_block ?_
    obtain ⟨I2, ⟨m0, h0⟩, hr⟩ := h
    refine wt_loop (fun m E ds w' => ∃ v : Int, ∃ v2 : Int, ∃ v3 : Int, I2 m v v2 v3 ∧ ds = [] ∧ E 1 = (Value.pointer (some (⟨g, 0, none⟩ : Addr))) ∧ E 3 = (Value.pointer (some (⟨g2, 0, none⟩ : Addr))) ∧ E 17 = (Value.slice Ad ld cd) ∧ E 18 = (Value.int .i64 ((d2.length : Nat) : Int)) ∧ E 19 = (Value.int .i64 v) ∧ Sep w no O w' (rl [Res.box 24 g [(Value.int .i64 d), (Value.slice Ad ld cd)], Res.ro (FP.sl c3 Ad ld cd d2), Res.box 180 g2 [(Value.int .i64 v2), (Value.int .i64 v3)]])) m0 ⟨_, _, _, h0, rfl, hE1, rfl, rfl, rfl, rfl, (hS.sel [0, 1, 2] (by decide))⟩ ?_
    clear h0 hS
    rintro m2 E ds w6 ⟨v, v2, v3, h, rfl, hE1, hE3, hE17, hE18, hE19, hS⟩ again
    replace h := hr m2 v v2 v3 h
    clear hr
    refine wt_seq ?_
    refine wl_region wd_wide ?_
    refine rl_q rfl rfl rfl (v_lss hE19 hE18) ?_
    refine rl_end ?_
    refine wt_seq ?_
    by_cases hp : v < ((d2.length : Nat) : Int)
    · replace h := h.1 hp
      refine wt_cond_t (congrArg Value.bool (decide_eq_true hp)) ?_
      refine wt_skip ?_
      refine wt_seq ?_
      refine wt_block ?_
      refine wt_seq ?_
      refine wl_region wd_wide ?_
      obtain ⟨hx, h⟩ := h
      refine rl_q rfl rfl rfl (v_iaddr hE17 hE19 Try.underlying22 info_63 (rd_ix (hS.rdr 1 rfl) hx)) ?_
      refine rl_q rfl rfl rfl (v_loadn (vs := [(Value.int .i64 ((ge d2 v.toNat).1)), (Value.int .i64 ((ge d2 v.toNat).2.1)), (Value.int .i64 ((ge d2 v.toNat).2.2))]) rfl Try.underlying63 rfl info_63 (rd_fs (hS.rdr 1 rfl) hx (fun q => ge_some q))) ?_
      refine rl_n rfl rfl rfl rfl (n_alloc info_63 ?_)
      intro g3 w7 hN
      replace hS : Sep w no O w7 (stl _ 3 (Res.box 63 g3 [(Value.int .i64 0), (Value.int .i64 0), (Value.int .i64 0)])) := hS.new 3 rfl hN
      clear hN
      refine ⟨Stb.none _, ?_⟩
      refine rl_n0 rfl rfl rfl (n_storen (b := g3) (o := 0) (cells := #[(Value.int .i64 ((ge d2 v.toNat).1)), (Value.int .i64 ((ge d2 v.toNat).2.1)), (Value.int .i64 ((ge d2 v.toNat).2.2))]) rfl rfl info_63 rfl rfl (there_row (hS.bx 3 rfl) (Nat.le_of_ble_eq_true rfl)) ?_)
      intro w8 e1
      replace hS := hS.bstn 3 rfl 0 [(Value.int .i64 ((ge d2 v.toNat).1)), (Value.int .i64 ((ge d2 v.toNat).2.1)), (Value.int .i64 ((ge d2 v.toNat).2.2))] e1
      clear e1
      refine ⟨Stb.none _, ?_⟩
      refine rl_end ?_
      refine wt_seq ?_
      refine wl_region wd_wide ?_
      refine rl_q rfl rfl rfl (v_faddr rfl Try.underlying63 rfl info_3) ?_
      refine rl_q rfl rfl rfl (v_load rfl Try.underlying3 rfl (Row.cell (hS.bx 3 rfl) (i := 0) rfl)) ?_
      refine rl_q rfl rfl rfl (v_faddr rfl Try.underlying63 rfl info_3) ?_
      refine rl_q rfl rfl rfl (v_load rfl Try.underlying3 rfl (Row.cell (hS.bx 3 rfl) (i := 1) rfl)) ?_
      refine rl_n rfl rfl rfl rfl (n_build (l := [(0, (Value.int .i64 ((ge d2 v.toNat).1))), (1, (Value.int .i64 ((ge d2 v.toNat).2.1)))]) (cells := [(Value.int .i64 ((ge d2 v.toNat).1)), (Value.int .i64 ((ge d2 v.toNat).2.1))]) (places := [(0, 1), (1, 1)]) (bp2 rfl rfl) Try.underlying180 info_180 (by kernel_rfl) rfl ?_)
      refine ⟨Stb.none _, ?_⟩
      refine rl_n rfl rfl rfl rfl (n_alloc info_180 ?_)
      intro g4 w9 hN
      replace hS : Sep w no O w9 (stl _ 4 (Res.box 180 g4 [(Value.int .i64 0), (Value.int .i64 0)])) := hS.new 4 rfl hN
      clear hN
      refine ⟨Stb.none _, ?_⟩
      refine rl_n0 rfl rfl rfl (n_storen (b := g4) (o := 0) (cells := #[(Value.int .i64 ((ge d2 v.toNat).1)), (Value.int .i64 ((ge d2 v.toNat).2.1))]) rfl rfl info_180 rfl rfl (there_row (hS.bx 4 rfl) (Nat.le_of_ble_eq_true rfl)) ?_)
      intro w10 e1
      replace hS := hS.bstn 4 rfl 0 [(Value.int .i64 ((ge d2 v.toNat).1)), (Value.int .i64 ((ge d2 v.toNat).2.1))] e1
      clear e1
      refine ⟨Stb.none _, ?_⟩
      refine rl_end ?_
      refine wt_seq ?_
      refine wt_block ?_
      refine wt_seq ?_
      obtain ⟨J3, hJ, h⟩ := h
      refine wt_cutB1 (fun E ds w' => J3 ∧ ds = [] ∧ E 1 = (Value.pointer (some (⟨g, 0, none⟩ : Addr))) ∧ E 3 = (Value.pointer (some (⟨g2, 0, none⟩ : Addr))) ∧ E 5 = (Value.pointer (some (⟨g3, 0, none⟩ : Addr))) ∧ E 6 = (Value.pointer (some (⟨g4, 0, none⟩ : Addr))) ∧ E 17 = (Value.slice Ad ld cd) ∧ E 18 = (Value.int .i64 ((d2.length : Nat) : Int)) ∧ E 19 = (Value.int .i64 v) ∧ Sep w no O w' (rl [Res.box 24 g [(Value.int .i64 d), (Value.slice Ad ld cd)], Res.ro (FP.sl c3 Ad ld cd d2), Res.box 180 g2 [(Value.int .i64 v2), (Value.int .i64 v3)], Res.box 63 g3 [(Value.int .i64 ((ge d2 v.toNat).1)), (Value.int .i64 ((ge d2 v.toNat).2.1)), (Value.int .i64 ((ge d2 v.toNat).2.2))], Res.box 180 g4 [(Value.int .i64 ((ge d2 v.toNat).1)), (Value.int .i64 ((ge d2 v.toNat).2.1))]])) ?_ ?_
      · clear h hS
        rintro E ds w11 ⟨h, rfl, hE1, hE3, hE5, hE6, hE17, hE18, hE19, hS⟩
        replace h := hJ h
        refine wt_seq ?_
        refine wl_region wd_wide ?_
        refine rl_q rfl rfl rfl (v_faddr hE5 Try.underlying63 rfl info_3) ?_
        refine rl_q rfl rfl rfl (v_load rfl Try.underlying3 rfl (Row.cell (hS.bx 3 rfl) (i := 0) rfl)) ?_
        refine rl_q rfl rfl rfl (v_faddr hE5 Try.underlying63 rfl info_3) ?_
        refine rl_q rfl rfl rfl (v_load rfl Try.underlying3 rfl (Row.cell (hS.bx 3 rfl) (i := 1) rfl)) ?_
        refine rl_q rfl rfl rfl (v_gtr rfl rfl) ?_
        refine rl_q rfl rfl rfl (v_move (v := (Value.bool (decide (((ge d2 v.toNat).2.1) < ((ge d2 v.toNat).1))))) rfl) ?_
        by_cases hp2 : ((ge d2 v.toNat).2.1) < ((ge d2 v.toNat).1)
        · replace h := h.1 hp2
          refine rl_p (wanted_n rfl (yE_of rfl (congrArg Value.bool (decide_eq_true hp2))) rfl) rfl ?_
          refine rl_p (wanted_n rfl (yE_of rfl (congrArg Value.bool (decide_eq_true hp2))) rfl) rfl ?_
          refine rl_p (wanted_n rfl (yE_of rfl (congrArg Value.bool (decide_eq_true hp2))) rfl) rfl ?_
          refine rl_p (wanted_n rfl (yE_of rfl (congrArg Value.bool (decide_eq_true hp2))) rfl) rfl ?_
          refine rl_q rfl rfl rfl (v_pick_t (v := (Value.bool (true))) (congrArg Value.bool (decide_eq_true hp2)) rfl) ?_
          refine rl_q rfl rfl rfl (v_assign (v := (Value.bool (true))) rfl) ?_
          refine rl_end ?_
          refine wt_cond_t rfl ?_
          refine wt_seq ?_
          refine wl_region wd_wide ?_
          refine rl_q rfl rfl rfl (v_assign (v := (Value.int .i64 9)) rfl) ?_
          refine rl_end ?_
          exact wt_ret1 rfl rfl ⟨_, rfl, (hS.sel [] (by decide)), h⟩
        · replace h := h.2 hp2
          refine rl_q (wanted_g rfl (yE_of rfl (congrArg Value.bool (decide_eq_false hp2)))) rfl rfl (v_loadn (vs := [(Value.int .i64 v2), (Value.int .i64 v3)]) hE3 Try.underlying180 rfl info_180 ⟨Row.cell (hS.bx 2 rfl) (i := 0) rfl, Row.cell (hS.bx 2 rfl) (i := 1) rfl, trivial⟩) ?_
          refine rl_q (wanted_g rfl (yE_of rfl (congrArg Value.bool (decide_eq_false hp2)))) rfl rfl (v_loadn (vs := [(Value.int .i64 ((ge d2 v.toNat).1)), (Value.int .i64 ((ge d2 v.toNat).2.1))]) hE6 Try.underlying180 rfl info_180 ⟨Row.cell (hS.bx 4 rfl) (i := 0) rfl, Row.cell (hS.bx 4 rfl) (i := 1) rfl, trivial⟩) ?_
          refine rl_n (wanted_g rfl (yE_of rfl (congrArg Value.bool (decide_eq_false hp2)))) rfl rfl rfl (n_call0 rfl (am2 rfl rfl) enter_160 ((pok_graph_pair_compare h (no_lt _)).mono ?_))
          rintro _ w12 ⟨r, rfl, hC, h⟩
          replace hS := hS.pur hC.pure
          clear hC
          refine ⟨_, rfl, ?_⟩
          refine ⟨Stb.none _, ?_⟩
          refine rl_q (wanted_g rfl (yE_of rfl (congrArg Value.bool (decide_eq_false hp2)))) rfl rfl (v_geq rfl rfl) ?_
          refine rl_q rfl rfl rfl (v_pick_f (v := (Value.bool (decide (0 ≤ r)))) (congrArg Value.bool (decide_eq_false hp2)) rfl) ?_
          refine rl_q rfl rfl rfl (v_assign (v := (Value.bool (decide (0 ≤ r)))) rfl) ?_
          refine rl_end ?_
          by_cases hp3 : 0 ≤ r
          · replace h := h.1 hp3
            refine wt_cond_t (congrArg Value.bool (decide_eq_true hp3)) ?_
            refine wt_seq ?_
            refine wl_region wd_wide ?_
            refine rl_q rfl rfl rfl (v_assign (v := (Value.int .i64 9)) rfl) ?_
            refine rl_end ?_
            exact wt_ret1 rfl rfl ⟨_, rfl, (hS.sel [] (by decide)), h⟩
          · replace h := h.2 hp3
            refine wt_cond_f (congrArg Value.bool (decide_eq_false hp3)) ?_
            refine wt_skip ?_
            refine wt_inBlock ?_
            refine wl_region wd_wide ?_
            refine rl_q rfl rfl rfl (v_loadn (vs := [(Value.int .i64 ((ge d2 v.toNat).1)), (Value.int .i64 ((ge d2 v.toNat).2.1))]) hE6 Try.underlying180 rfl info_180 ⟨Row.cell (hS.bx 4 rfl) (i := 0) rfl, Row.cell (hS.bx 4 rfl) (i := 1) rfl, trivial⟩) ?_
            refine rl_n0 rfl rfl rfl (n_storen (b := g2) (o := 0) (cells := #[(Value.int .i64 ((ge d2 v.toNat).1)), (Value.int .i64 ((ge d2 v.toNat).2.1))]) hE3 rfl info_180 rfl rfl (there_row (hS.bx 2 rfl) (Nat.le_of_ble_eq_true rfl)) ?_)
            intro w13 e1
            replace hS := hS.bstn 2 rfl 0 [(Value.int .i64 ((ge d2 v.toNat).1)), (Value.int .i64 ((ge d2 v.toNat).2.1))] e1
            clear e1
            refine ⟨Stb.none _, ?_⟩
            refine rl_end ?_
            refine wt_inBlock ?_
            refine wl_region wd_wide ?_
            obtain ⟨hi, h⟩ := h
            refine rl_q rfl rfl rfl (v_add hE19 rfl hi) ?_
            refine rl_q rfl rfl rfl (v_move (v := (Value.int .i64 (v + 1))) rfl) ?_
            refine rl_end ?_
            obtain ⟨mq, hlt, h⟩ := h
            exact again mq _ _ _ ⟨_, _, _, h, rfl, hE1, hE3, hE17, hE18, rfl, (hS.sel [0, 1, 2] (by decide))⟩ hlt
      clear hJ
      intro j2
      refine wl_region wd_wide ?_
      refine rl_q rfl rfl rfl (v_faddr hE1 Try.underlying24 rfl info_3) ?_
      refine rl_q rfl rfl rfl (v_load rfl Try.underlying3 rfl (Row.cell (hS.bx 0 rfl) (i := 0) rfl)) ?_
      refine rl_q rfl rfl rfl (v_faddr rfl Try.underlying63 rfl info_3) ?_
      refine rl_q rfl rfl rfl (v_load rfl Try.underlying3 rfl (Row.cell (hS.bx 3 rfl) (i := 0) rfl)) ?_
      refine rl_n rfl rfl rfl rfl (n_call0 rfl (am2 rfl rfl) enter_159 ((pok_graph_vertex h (no_lt _)).mono ?_))
      rintro _ w14 ⟨r2, rfl, hC, h⟩
      replace hS := hS.pur hC.pure
      clear hC
      refine ⟨_, rfl, ?_⟩
      refine ⟨Stb.none _, ?_⟩
      refine rl_q rfl rfl rfl (v_not rfl) ?_
      refine rl_q rfl rfl rfl (v_move (v := (Value.bool (!(r2)))) rfl) ?_
      by_cases hp4 : r2 = true
      · replace h := h.1 hp4
        refine rl_q (wanted_g rfl (yE_of rfl (congrArg Value.bool (congrArg Bool.not hp4)))) rfl rfl (v_faddr hE1 Try.underlying24 rfl info_3) ?_
        refine rl_q (wanted_g rfl (yE_of rfl (congrArg Value.bool (congrArg Bool.not hp4)))) rfl rfl (v_load rfl Try.underlying3 rfl (Row.cell (hS.bx 0 rfl) (i := 0) rfl)) ?_
        refine rl_q (wanted_g rfl (yE_of rfl (congrArg Value.bool (congrArg Bool.not hp4)))) rfl rfl (v_faddr rfl Try.underlying63 rfl info_3) ?_
        refine rl_q (wanted_g rfl (yE_of rfl (congrArg Value.bool (congrArg Bool.not hp4)))) rfl rfl (v_load rfl Try.underlying3 rfl (Row.cell (hS.bx 3 rfl) (i := 1) rfl)) ?_
        refine rl_n (wanted_g rfl (yE_of rfl (congrArg Value.bool (congrArg Bool.not hp4)))) rfl rfl rfl (n_call0 rfl (am2 rfl rfl) enter_159 ((pok_graph_vertex h (no_lt _)).mono ?_))
        rintro _ w15 ⟨r3, rfl, hC, h⟩
        replace hS := hS.pur hC.pure
        clear hC
        refine ⟨_, rfl, ?_⟩
        refine ⟨Stb.none _, ?_⟩
        refine rl_q (wanted_g rfl (yE_of rfl (congrArg Value.bool (congrArg Bool.not hp4)))) rfl rfl (v_not rfl) ?_
        refine rl_q rfl rfl rfl (v_pick_f (v := (Value.bool (!(r3)))) (congrArg Value.bool (congrArg Bool.not hp4)) rfl) ?_
        refine rl_q rfl rfl rfl (v_move (v := (Value.bool (!(r3)))) rfl) ?_
        by_cases hp5 : r3 = true
        · replace h := h.1 hp5
          refine rl_q (wanted_g rfl (yE_of rfl (congrArg Value.bool (congrArg Bool.not hp5)))) rfl rfl (v_faddr rfl Try.underlying63 rfl info_3) ?_
          refine rl_q (wanted_g rfl (yE_of rfl (congrArg Value.bool (congrArg Bool.not hp5)))) rfl rfl (v_load rfl Try.underlying3 rfl (Row.cell (hS.bx 3 rfl) (i := 2) rfl)) ?_
          refine rl_q (wanted_g rfl (yE_of rfl (congrArg Value.bool (congrArg Bool.not hp5)))) rfl rfl (v_lss rfl rfl) ?_
          refine rl_q rfl rfl rfl (v_pick_f (v := (Value.bool (decide (((ge d2 v.toNat).2.2) < 1)))) (congrArg Value.bool (congrArg Bool.not hp5)) rfl) ?_
          refine rl_q rfl rfl rfl (v_move (v := (Value.bool (decide (((ge d2 v.toNat).2.2) < 1)))) rfl) ?_
          by_cases hp6 : ((ge d2 v.toNat).2.2) < 1
          · replace h := h.1 hp6
            refine rl_p (wanted_n rfl (yE_of rfl (congrArg Value.bool (decide_eq_true hp6))) rfl) rfl ?_
            refine rl_p (wanted_n rfl (yE_of rfl (congrArg Value.bool (decide_eq_true hp6))) rfl) rfl ?_
            refine rl_p (wanted_n rfl (yE_of rfl (congrArg Value.bool (decide_eq_true hp6))) rfl) rfl ?_
            refine rl_q rfl rfl rfl (v_pick_t (v := (Value.bool (true))) (congrArg Value.bool (decide_eq_true hp6)) rfl) ?_
            refine rl_q rfl rfl rfl (v_assign (v := (Value.bool (true))) rfl) ?_
            refine rl_end ?_
            refine wt_cond_t rfl ?_
            refine wt_seq ?_
            refine wl_region wd_wide ?_
            refine rl_q rfl rfl rfl (v_assign (v := (Value.int .i64 2)) rfl) ?_
            refine rl_end ?_
            exact wt_ret1 rfl rfl ⟨_, rfl, (hS.sel [] (by decide)), h⟩
          · replace h := h.2 hp6
            refine rl_q (wanted_g rfl (yE_of rfl (congrArg Value.bool (decide_eq_false hp6)))) rfl rfl (v_faddr rfl Try.underlying63 rfl info_3) ?_
            refine rl_q (wanted_g rfl (yE_of rfl (congrArg Value.bool (decide_eq_false hp6)))) rfl rfl (v_load rfl Try.underlying3 rfl (Row.cell (hS.bx 3 rfl) (i := 2) rfl)) ?_
            refine rl_q (wanted_g rfl (yE_of rfl (congrArg Value.bool (decide_eq_false hp6)))) rfl rfl (v_gtr rfl rfl) ?_
            refine rl_q rfl rfl rfl (v_pick_f (v := (Value.bool (decide (50 < ((ge d2 v.toNat).2.2))))) (congrArg Value.bool (decide_eq_false hp6)) rfl) ?_
            refine rl_q rfl rfl rfl (v_assign (v := (Value.bool (decide (50 < ((ge d2 v.toNat).2.2))))) rfl) ?_
            refine rl_end ?_
            by_cases hp7 : 50 < ((ge d2 v.toNat).2.2)
            · replace h := h.1 hp7
              refine wt_cond_t (congrArg Value.bool (decide_eq_true hp7)) ?_
              refine wt_seq ?_
              refine wl_region wd_wide ?_
              refine rl_q rfl rfl rfl (v_assign (v := (Value.int .i64 2)) rfl) ?_
              refine rl_end ?_
              exact wt_ret1 rfl rfl ⟨_, rfl, (hS.sel [] (by decide)), h⟩
            · replace h := h.2 hp7
              refine wt_cond_f (congrArg Value.bool (decide_eq_false hp7)) ?_
              exact j2 _ _ _ ⟨h, rfl, hE1, hE3, rfl, rfl, hE17, hE18, hE19, (hS.sel [0, 1, 2, 3, 4] (by decide))⟩
        · replace h := h.2 hp5
          refine rl_p (wanted_n rfl (yE_of rfl (congrArg Value.bool (congrArg Bool.not (Bool.eq_false_iff.2 hp5)))) rfl) rfl ?_
          refine rl_p (wanted_n rfl (yE_of rfl (congrArg Value.bool (congrArg Bool.not (Bool.eq_false_iff.2 hp5)))) rfl) rfl ?_
          refine rl_p (wanted_n rfl (yE_of rfl (congrArg Value.bool (congrArg Bool.not (Bool.eq_false_iff.2 hp5)))) rfl) rfl ?_
          refine rl_q rfl rfl rfl (v_pick_t (v := (Value.bool (true))) (congrArg Value.bool (congrArg Bool.not (Bool.eq_false_iff.2 hp5))) rfl) ?_
          refine rl_q rfl rfl rfl (v_move (v := (Value.bool (true))) rfl) ?_
          refine rl_p (wanted_n rfl (yE_of rfl rfl) rfl) rfl ?_
          refine rl_p (wanted_n rfl (yE_of rfl rfl) rfl) rfl ?_
          refine rl_p (wanted_n rfl (yE_of rfl rfl) rfl) rfl ?_
          refine rl_q rfl rfl rfl (v_pick_t (v := (Value.bool (true))) rfl rfl) ?_
          refine rl_q rfl rfl rfl (v_assign (v := (Value.bool (true))) rfl) ?_
          refine rl_end ?_
          refine wt_cond_t rfl ?_
          refine wt_seq ?_
          refine wl_region wd_wide ?_
          refine rl_q rfl rfl rfl (v_assign (v := (Value.int .i64 2)) rfl) ?_
          refine rl_end ?_
          exact wt_ret1 rfl rfl ⟨_, rfl, (hS.sel [] (by decide)), h⟩
      · replace h := h.2 hp4
        refine rl_p (wanted_n rfl (yE_of rfl (congrArg Value.bool (congrArg Bool.not (Bool.eq_false_iff.2 hp4)))) rfl) rfl ?_
        refine rl_p (wanted_n rfl (yE_of rfl (congrArg Value.bool (congrArg Bool.not (Bool.eq_false_iff.2 hp4)))) rfl) rfl ?_
        refine rl_p (wanted_n rfl (yE_of rfl (congrArg Value.bool (congrArg Bool.not (Bool.eq_false_iff.2 hp4)))) rfl) rfl ?_
        refine rl_p (wanted_n rfl (yE_of rfl (congrArg Value.bool (congrArg Bool.not (Bool.eq_false_iff.2 hp4)))) rfl) rfl ?_
        refine rl_p (wanted_n rfl (yE_of rfl (congrArg Value.bool (congrArg Bool.not (Bool.eq_false_iff.2 hp4)))) rfl) rfl ?_
        refine rl_p (wanted_n rfl (yE_of rfl (congrArg Value.bool (congrArg Bool.not (Bool.eq_false_iff.2 hp4)))) rfl) rfl ?_
        refine rl_q rfl rfl rfl (v_pick_t (v := (Value.bool (true))) (congrArg Value.bool (congrArg Bool.not (Bool.eq_false_iff.2 hp4))) rfl) ?_
        refine rl_q rfl rfl rfl (v_move (v := (Value.bool (true))) rfl) ?_
        refine rl_p (wanted_n rfl (yE_of rfl rfl) rfl) rfl ?_
        refine rl_p (wanted_n rfl (yE_of rfl rfl) rfl) rfl ?_
        refine rl_p (wanted_n rfl (yE_of rfl rfl) rfl) rfl ?_
        refine rl_q rfl rfl rfl (v_pick_t (v := (Value.bool (true))) rfl rfl) ?_
        refine rl_q rfl rfl rfl (v_move (v := (Value.bool (true))) rfl) ?_
        refine rl_p (wanted_n rfl (yE_of rfl rfl) rfl) rfl ?_
        refine rl_p (wanted_n rfl (yE_of rfl rfl) rfl) rfl ?_
        refine rl_p (wanted_n rfl (yE_of rfl rfl) rfl) rfl ?_
        refine rl_q rfl rfl rfl (v_pick_t (v := (Value.bool (true))) rfl rfl) ?_
        refine rl_q rfl rfl rfl (v_assign (v := (Value.bool (true))) rfl) ?_
        refine rl_end ?_
        refine wt_cond_t rfl ?_
        refine wt_seq ?_
        refine wl_region wd_wide ?_
        refine rl_q rfl rfl rfl (v_assign (v := (Value.int .i64 2)) rfl) ?_
        refine rl_end ?_
        exact wt_ret1 rfl rfl ⟨_, rfl, (hS.sel [] (by decide)), h⟩
    · replace h := h.2 hp
      refine wt_cond_f (congrArg Value.bool (decide_eq_false hp)) ?_
      refine wt_exit rfl ?_
      refine wt_seq ?_
      refine wl_region wd_wide ?_
      refine rl_q rfl rfl rfl (v_assign (v := (Value.int .i64 0)) rfl) ?_
      refine rl_end ?_
      exact wt_ret1 rfl rfl ⟨_, rfl, (hS.sel [] (by decide)), h⟩
  clear hJ
  intro j
  refine wl_region wd_wide ?_
  refine rl_q rfl rfl rfl (v_faddr rfl Try.underlying24 rfl info_3) ?_
  refine rl_q rfl rfl rfl (v_load rfl Try.underlying3 rfl (Row.cell (hS.bx 1 rfl) (i := 0) rfl)) ?_
  refine rl_q rfl rfl rfl (v_lss rfl rfl) ?_
  refine rl_q rfl rfl rfl (v_move (v := (Value.bool (decide (d < 1)))) rfl) ?_
  by_cases hp8 : d < 1
  · replace h := h.1 hp8
    refine rl_p (wanted_n rfl (yE_of rfl (congrArg Value.bool (decide_eq_true hp8))) rfl) rfl ?_
    refine rl_p (wanted_n rfl (yE_of rfl (congrArg Value.bool (decide_eq_true hp8))) rfl) rfl ?_
    refine rl_p (wanted_n rfl (yE_of rfl (congrArg Value.bool (decide_eq_true hp8))) rfl) rfl ?_
    refine rl_q rfl rfl rfl (v_pick_t (v := (Value.bool (true))) (congrArg Value.bool (decide_eq_true hp8)) rfl) ?_
    refine rl_end ?_
    refine wt_cond_t rfl ?_
    refine wt_seq ?_
    refine wl_region wd_wide ?_
    refine rl_q rfl rfl rfl (v_assign (v := (Value.int .i64 2)) rfl) ?_
    refine rl_end ?_
    exact wt_ret1 rfl rfl ⟨_, rfl, (hS.sel [] (by decide)), h⟩
  · replace h := h.2 hp8
    refine rl_q (wanted_g rfl (yE_of rfl (congrArg Value.bool (decide_eq_false hp8)))) rfl rfl (v_faddr rfl Try.underlying24 rfl info_3) ?_
    refine rl_q (wanted_g rfl (yE_of rfl (congrArg Value.bool (decide_eq_false hp8)))) rfl rfl (v_load rfl Try.underlying3 rfl (Row.cell (hS.bx 1 rfl) (i := 0) rfl)) ?_
    refine rl_q (wanted_g rfl (yE_of rfl (congrArg Value.bool (decide_eq_false hp8)))) rfl rfl (v_gtr rfl rfl) ?_
    refine rl_q rfl rfl rfl (v_pick_f (v := (Value.bool (decide (12 < d)))) (congrArg Value.bool (decide_eq_false hp8)) rfl) ?_
    refine rl_end ?_
    by_cases hp9 : 12 < d
    · replace h := h.1 hp9
      refine wt_cond_t (congrArg Value.bool (decide_eq_true hp9)) ?_
      refine wt_seq ?_
      refine wl_region wd_wide ?_
      refine rl_q rfl rfl rfl (v_assign (v := (Value.int .i64 2)) rfl) ?_
      refine rl_end ?_
      exact wt_ret1 rfl rfl ⟨_, rfl, (hS.sel [] (by decide)), h⟩
    · replace h := h.2 hp9
      refine wt_cond_f (congrArg Value.bool (decide_eq_false hp9)) ?_
      refine wt_skip ?_
      exact j _ _ _ ⟨h, rfl, rfl, (hS.sel [1, 0] (by decide))⟩

/-- sandpile/firing.given: what it computes. -/
def pf_firing_given (g : Int) (g2 : List (Int × Int × Int)) (d : List Int) (R : Int → Prop) : Prop :=
pf_graph_Check g g2 (fun (r : Int) =>
((r = 0 →
pf_chips_Check d g (fun (r2 : Int) =>
R r2)) ∧
(¬ (r = 0) →
R r)))
theorem pok_firing_given {O : Nat → Prop} {w : World} {g : Int} {g2 : List (Int × Int × Int)} {d : List Int} {Ag : Option Addr} {lg : Nat} {cg : Nat} {Ad : Option Addr} {ld : Nat} {cd : Nat} {R : Int → Prop} (h : pf_firing_given g g2 d R) (hO : ∀ k, O k → k < w.heap.size) (a0 : (FP.sl c3 Ag lg cg g2).P O w) (a1 : (FP.sl cI Ad ld cd d).P O w) :
    Calls Try.prog 83 #[(Value.agg #[(Value.int .i64 g), (Value.slice Ag lg cg)]), (Value.slice Ad ld cd)] w fun e w' => ∃ r3 : Int, e = .returned (Value.int .i64 r3) ∧ Sep w no O w' (rl []) ∧ R r3 := by
  unfold pf_firing_given at h
  have hS : Sep w no O w (rl [Res.ro (FP.sl c3 Ag lg cg g2), Res.ro (FP.sl cI Ad ld cd d)]) := Sep.startl hO [(FP.sl c3 Ag lg cg g2), (FP.sl cI Ad ld cd d)] ⟨a0, a1, trivial⟩
  refine calls_sh (l := [(Value.agg #[(Value.int .i64 g), (Value.slice Ag lg cg)]), (Value.slice Ad ld cd)]) Try.func83 rfl Try.ntmps83 (Nat.le_of_ble_eq_true rfl) ?_
  refine wt_seq ?_
  refine wl_region wd_wide ?_
  refine rl_n rfl rfl rfl rfl (n_box (v := (Value.agg #[(Value.int .i64 g), (Value.slice Ag lg cg)])) rfl ?_)
  intro g3 w2 hN
  replace hS : Sep w no O w2 (stl _ 2 (Res.box 24 g3 [(Value.int .i64 g), (Value.slice Ag lg cg)])) := hS.new 2 rfl hN
  clear hN
  refine ⟨Stb.none _, ?_⟩
  refine rl_q rfl rfl rfl (v_assign (v := (Value.int .i64 0)) rfl) ?_
  refine rl_end ?_
  refine wt_seq ?_
  refine wt_seq ?_
  refine wl_region wd_wide ?_
  refine rl_q rfl rfl rfl (v_loadn (vs := [(Value.int .i64 g), (Value.slice Ag lg cg)]) rfl Try.underlying24 rfl info_24 ⟨Row.cell (hS.bx 2 rfl) (i := 0) rfl, Row.cell (hS.bx 2 rfl) (i := 1) rfl, trivial⟩) ?_
  refine rl_n rfl rfl rfl rfl (n_call0 rfl (am1 rfl) enter_133 ((pok_graph_Check h (no_lt _) (hS.rdr 0 rfl)).mono ?_))
  rintro _ w3 ⟨r, rfl, hC, h⟩
  replace hS := hS.pur hC.pure
  clear hC
  refine ⟨_, rfl, ?_⟩
  refine ⟨Stb.none _, ?_⟩
  refine rl_q rfl rfl rfl (v_assign (v := (Value.int .i64 r)) rfl) ?_
  refine rl_end ?_
  refine wt_seq ?_
  refine wl_region wd_wide ?_
  refine rl_q rfl rfl rfl (v_move (v := (Value.int .i64 r)) rfl) ?_
  refine rl_q rfl rfl rfl (v_neq rfl rfl) ?_
  refine rl_end ?_
  by_cases hp : r = 0
  · replace h := h.1 hp
    refine wt_cond_f (congrArg Value.bool (congrArg Bool.not (decide_eq_true hp))) ?_
    refine wt_skip ?_
    refine wt_seq ?_
    refine wl_region wd_wide ?_
    refine rl_q rfl rfl rfl (v_move (v := (Value.slice Ad ld cd)) rfl) ?_
    refine rl_q rfl rfl rfl (v_faddr rfl Try.underlying24 rfl info_3) ?_
    refine rl_q rfl rfl rfl (v_load rfl Try.underlying3 rfl (Row.cell (hS.bx 2 rfl) (i := 0) rfl)) ?_
    refine rl_n rfl rfl rfl rfl (n_call0 rfl (am2 rfl rfl) enter_104 ((pok_chips_Check h (no_lt _) (hS.rdr 1 rfl)).mono ?_))
    rintro _ w4 ⟨r2, rfl, hC, h⟩
    replace hS := hS.pur hC.pure
    clear hC
    refine ⟨_, rfl, ?_⟩
    refine ⟨Stb.none _, ?_⟩
    refine rl_q rfl rfl rfl (v_assign (v := (Value.int .i64 r2)) rfl) ?_
    refine rl_end ?_
    exact wt_ret1 rfl rfl ⟨_, rfl, (hS.sel [] (by decide)), h⟩
  · replace h := h.2 hp
    refine wt_cond_t (congrArg Value.bool (congrArg Bool.not (decide_eq_false hp))) ?_
    refine wt_seq ?_
    refine wl_region wd_wide ?_
    refine rl_q rfl rfl rfl (v_move (v := (Value.int .i64 r)) rfl) ?_
    refine rl_q rfl rfl rfl (v_assign (v := (Value.int .i64 r)) rfl) ?_
    refine rl_end ?_
    exact wt_ret1 rfl rfl ⟨_, rfl, (hS.sel [] (by decide)), h⟩

/-- sandpile/firing.Check: what it computes. -/
def pf_firing_Check (g : Int) (g2 : List (Int × Int × Int)) (s : List Int) (R : Int → Prop) : Prop :=
pf_firing_given g g2 s (fun (r : Int) =>
R r)
theorem pok_firing_Check {O : Nat → Prop} {w : World} {g : Int} {g2 : List (Int × Int × Int)} {s : List Int} {Ag : Option Addr} {lg : Nat} {cg : Nat} {As : Option Addr} {ls : Nat} {cs : Nat} {R : Int → Prop} (h : pf_firing_Check g g2 s R) (hO : ∀ k, O k → k < w.heap.size) (a0 : (FP.sl c3 Ag lg cg g2).P O w) (a1 : (FP.sl cI As ls cs s).P O w) :
    Calls Try.prog 84 #[(Value.agg #[(Value.int .i64 g), (Value.slice Ag lg cg)]), (Value.slice As ls cs)] w fun e w' => ∃ r2 : Int, e = .returned (Value.int .i64 r2) ∧ Sep w no O w' (rl []) ∧ R r2 := by
  unfold pf_firing_Check at h
  have hS : Sep w no O w (rl [Res.ro (FP.sl c3 Ag lg cg g2), Res.ro (FP.sl cI As ls cs s)]) := Sep.startl hO [(FP.sl c3 Ag lg cg g2), (FP.sl cI As ls cs s)] ⟨a0, a1, trivial⟩
  refine calls_sh (l := [(Value.agg #[(Value.int .i64 g), (Value.slice Ag lg cg)]), (Value.slice As ls cs)]) Try.func84 rfl Try.ntmps84 (Nat.le_of_ble_eq_true rfl) ?_
  refine wt_seq ?_
  refine wl_region wd_wide ?_
  refine rl_n rfl rfl rfl rfl (n_box (v := (Value.agg #[(Value.int .i64 g), (Value.slice Ag lg cg)])) rfl ?_)
  intro g3 w2 hN
  replace hS : Sep w no O w2 (stl _ 2 (Res.box 24 g3 [(Value.int .i64 g), (Value.slice Ag lg cg)])) := hS.new 2 rfl hN
  clear hN
  refine ⟨Stb.none _, ?_⟩
  refine rl_q rfl rfl rfl (v_assign (v := (Value.int .i64 0)) rfl) ?_
  refine rl_end ?_
  refine wt_seq ?_
  refine wl_region wd_wide ?_
  refine rl_q rfl rfl rfl (v_loadn (vs := [(Value.int .i64 g), (Value.slice Ag lg cg)]) rfl Try.underlying24 rfl info_24 ⟨Row.cell (hS.bx 2 rfl) (i := 0) rfl, Row.cell (hS.bx 2 rfl) (i := 1) rfl, trivial⟩) ?_
  refine rl_q rfl rfl rfl (v_move (v := (Value.slice As ls cs)) rfl) ?_
  refine rl_n rfl rfl rfl rfl (n_call0 rfl (am2 rfl rfl) enter_83 ((pok_firing_given h (no_lt _) (hS.rdr 0 rfl) (hS.rdr 1 rfl)).mono ?_))
  rintro _ w3 ⟨r, rfl, hC, h⟩
  replace hS := hS.pur hC.pure
  clear hC
  refine ⟨_, rfl, ?_⟩
  refine ⟨Stb.none _, ?_⟩
  refine rl_q rfl rfl rfl (v_assign (v := (Value.int .i64 r)) rfl) ?_
  refine rl_end ?_
  exact wt_ret1 rfl rfl ⟨_, rfl, (hS.sel [] (by decide)), h⟩

/-- sandpile/firing.bounded$1: what it computes. -/
def pf_firing_bounded_1 (k : Int) (R : Bool → Prop) : Prop :=
((k < (-1048576) →
R true) ∧
(¬ (k < (-1048576)) →
R (decide (1048576 < k))))
theorem pok_firing_bounded_1 {O : Nat → Prop} {w : World} {k : Int} {R : Bool → Prop} (h : pf_firing_bounded_1 k R) (hO : ∀ k, O k → k < w.heap.size) :
    Calls Try.prog 134 #[(Value.int .i64 k)] w fun e w' => ∃ r : Bool, e = .returned (Value.bool (r)) ∧ Sep w no O w' (rl []) ∧ R r := by
  unfold pf_firing_bounded_1 at h
  have hS : Sep w no O w (rl []) := Sep.start w hO
  refine calls_sh (l := [(Value.int .i64 k)]) Try.func134 rfl Try.ntmps134 (Nat.le_of_ble_eq_true rfl) ?_
  refine wt_seq ?_
  refine wl_region wd_wide ?_
  refine rl_q rfl rfl rfl (v_assign (v := (Value.bool (false))) rfl) ?_
  refine rl_end ?_
  refine wt_seq ?_
  refine wl_region wd_wide ?_
  refine rl_q rfl rfl rfl (v_move (v := (Value.int .i64 k)) rfl) ?_
  refine rl_q rfl rfl rfl (v_lss rfl rfl) ?_
  refine rl_q rfl rfl rfl (v_move (v := (Value.bool (decide (k < (-1048576))))) rfl) ?_
  by_cases hp : k < (-1048576)
  · replace h := h.1 hp
    refine rl_p (wanted_n rfl (yE_of rfl (congrArg Value.bool (decide_eq_true hp))) rfl) rfl ?_
    refine rl_p (wanted_n rfl (yE_of rfl (congrArg Value.bool (decide_eq_true hp))) rfl) rfl ?_
    refine rl_q rfl rfl rfl (v_pick_t (v := (Value.bool (true))) (congrArg Value.bool (decide_eq_true hp)) rfl) ?_
    refine rl_q rfl rfl rfl (v_assign (v := (Value.bool (true))) rfl) ?_
    refine rl_end ?_
    exact wt_ret1 rfl rfl ⟨_, rfl, (hS.sel [] (by decide)), h⟩
  · replace h := h.2 hp
    refine rl_q (wanted_g rfl (yE_of rfl (congrArg Value.bool (decide_eq_false hp)))) rfl rfl (v_move (v := (Value.int .i64 k)) rfl) ?_
    refine rl_q (wanted_g rfl (yE_of rfl (congrArg Value.bool (decide_eq_false hp)))) rfl rfl (v_gtr rfl rfl) ?_
    refine rl_q rfl rfl rfl (v_pick_f (v := (Value.bool (decide (1048576 < k)))) (congrArg Value.bool (decide_eq_false hp)) rfl) ?_
    refine rl_q rfl rfl rfl (v_assign (v := (Value.bool (decide (1048576 < k)))) rfl) ?_
    refine rl_end ?_
    exact wt_ret1 rfl rfl ⟨_, rfl, (hS.sel [] (by decide)), h⟩

/-- sandpile/firing.bounded: what it computes. -/
def pf_firing_bounded (d : List Int) (R : (List Int) → Int → Prop) : Prop :=
pf_slices_ContainsFunc_Divisor d (fun x R => pf_firing_bounded_1 x R) (fun (r : Bool) =>
((r = true →
R ([]) 11) ∧
(¬ (r = true) →
R d 0)))
theorem pok_firing_bounded {O : Nat → Prop} {w : World} {d : List Int} {Ad : Option Addr} {ld : Nat} {cd : Nat} {R : (List Int) → Int → Prop} (h : pf_firing_bounded d R) (hO : ∀ k, O k → k < w.heap.size) (a0 : (FP.sl cI Ad ld cd d).P O w) :
    Calls Try.prog 85 #[(Value.slice Ad ld cd)] w fun e w' => ∃ r2 : List Int, ∃ r3 : Int, ∃ Ar : Option Addr, ∃ lr : Nat, ∃ cr : Nat, e = .returned (Value.tuple #[(Value.slice Ar lr cr), (Value.int .i64 r3)]) ∧ Sep w no O w' (rl [Res.ro (FP.sl cI Ar lr cr r2)]) ∧ R r2 r3 := by
  unfold pf_firing_bounded at h
  have hS : Sep w no O w (rl [Res.ro (FP.sl cI Ad ld cd d)]) := Sep.startl hO [(FP.sl cI Ad ld cd d)] ⟨a0, trivial⟩
  refine calls_sh (l := [(Value.slice Ad ld cd)]) Try.func85 rfl Try.ntmps85 (Nat.le_of_ble_eq_true rfl) ?_
  refine wt_seq ?_
  refine wl_region wd_wide ?_
  refine rl_q rfl rfl rfl (v_assign (v := (Value.slice none 0 0)) rfl) ?_
  refine rl_q rfl rfl rfl (v_assign (v := (Value.int .i64 0)) rfl) ?_
  refine rl_end ?_
  refine wt_seq ?_
  refine wt_seq ?_
  refine wl_region wd_wide ?_
  refine rl_q rfl rfl rfl (v_move (v := (Value.slice Ad ld cd)) rfl) ?_
  refine rl_n rfl rfl rfl rfl (n_call0 rfl (am2 rfl rfl) enter_72 ((pok_slices_ContainsFunc_Divisor h (no_lt _) (hS.rdr 0 rfl) (fun w' hk => ⟨134, #[], rfl, enter_134, fun x R hF => cast_calls (by simp) (pok_firing_bounded_1 hF (no_lt _))⟩)).mono ?_))
  rintro _ w2 ⟨r, rfl, hC, h⟩
  replace hS := hS.pur hC.pure
  clear hC
  refine ⟨_, rfl, ?_⟩
  refine ⟨Stb.none _, ?_⟩
  refine rl_end ?_
  by_cases hp : r = true
  · replace h := h.1 hp
    refine wt_cond_t (congrArg Value.bool hp) ?_
    refine wt_seq ?_
    refine wl_region wd_wide ?_
    refine rl_q rfl rfl rfl (v_assign (v := (Value.slice none 0 0)) rfl) ?_
    refine rl_q rfl rfl rfl (v_assign (v := (Value.int .i64 11)) rfl) ?_
    refine rl_end ?_
    replace hS := hS.addro 1 rfl _ (nil_sl cI _ _)
    exact wt_ret2 rfl rfl rfl ⟨_, _, _, _, _, rfl, (hS.sel [1] (by decide)), h⟩
  · replace h := h.2 hp
    refine wt_cond_f (congrArg Value.bool (Bool.eq_false_iff.2 hp)) ?_
    refine wt_skip ?_
    refine wt_seq ?_
    refine wl_region wd_wide ?_
    refine rl_q rfl rfl rfl (v_move (v := (Value.slice Ad ld cd)) rfl) ?_
    refine rl_q rfl rfl rfl (v_assign (v := (Value.slice Ad ld cd)) rfl) ?_
    refine rl_q rfl rfl rfl (v_assign (v := (Value.int .i64 0)) rfl) ?_
    refine rl_end ?_
    exact wt_ret2 rfl rfl rfl ⟨_, _, _, _, _, rfl, (hS.sel [0] (by decide)), h⟩

/-- sandpile/firing.moved$1: what it computes. -/
def pf_firing_moved_1 (x : Int) (x2 : Int) (x3 : Int) (cap : List Int) (cap2 : List Int) (R : (List Int) → Prop) : Prop :=
((0 ≤ x ∧ x < ((cap.length : Nat) : Int)) ∧
((0 ≤ x2 ∧ x2 < ((cap.length : Nat) : Int)) ∧
(In64 ((gi cap x.toNat) - (gi cap x2.toNat)) ∧
(In64 (x3 * ((gi cap x.toNat) - (gi cap x2.toNat))) ∧
((0 ≤ x ∧ x < ((cap2.length : Nat) : Int)) ∧
(In64 ((gi cap2 x.toNat) - (x3 * ((gi cap x.toNat) - (gi cap x2.toNat)))) ∧
((0 ≤ x2 ∧ x2 < (((cap2.set x.toNat ((gi cap2 x.toNat) - (x3 * ((gi cap x.toNat) - (gi cap x2.toNat))))).length : Nat) : Int)) ∧
(In64 ((gi (cap2.set x.toNat ((gi cap2 x.toNat) - (x3 * ((gi cap x.toNat) - (gi cap x2.toNat))))) x2.toNat) + (x3 * ((gi cap x.toNat) - (gi cap x2.toNat)))) ∧
R ((cap2.set x.toNat ((gi cap2 x.toNat) - (x3 * ((gi cap x.toNat) - (gi cap x2.toNat))))).set x2.toNat ((gi (cap2.set x.toNat ((gi cap2 x.toNat) - (x3 * ((gi cap x.toNat) - (gi cap x2.toNat))))) x2.toNat) + (x3 * ((gi cap x.toNat) - (gi cap x2.toNat)))))))))))))
theorem pok_firing_moved_1 {S O : Nat → Prop} {w : World} {x : Int} {x2 : Int} {x3 : Int} {cap : List Int} {cap2 : List Int} {gc : Nat} {Acap : Option Addr} {lcap : Nat} {ccap : Nat} {gc2 : Nat} {Acap2 : Option Addr} {lcap2 : Nat} {ccap2 : Nat} {R : (List Int) → Prop} (h : pf_firing_moved_1 x x2 x3 cap cap2 R) (hS : Sep w S O w (rl [Res.box 27 gc [(Value.slice Acap lcap ccap)], Res.ro (FP.sl cI Acap lcap ccap cap), Res.box 26 gc2 [(Value.slice Acap2 lcap2 ccap2)], Res.own cI 3 Acap2 lcap2 ccap2 cap2])) :
    Calls Try.prog 135 #[(Value.agg #[(Value.int .i64 x), (Value.int .i64 x2), (Value.int .i64 x3)]), (Value.pointer (some (⟨gc, 0, none⟩ : Addr))), (Value.pointer (some (⟨gc2, 0, none⟩ : Addr)))] w fun e w' => ∃ z : List Int, ∃ Az : Option Addr, ∃ lz : Nat, ∃ cz : Nat, e = .returned (Value.tuple #[]) ∧ Sep w S O w' (rl [Res.box 27 gc [(Value.slice Acap lcap ccap)], Res.box 26 gc2 [(Value.slice Az lz cz)], Res.own cI 3 Az lz cz z]) ∧ R z := by
  unfold pf_firing_moved_1 at h
  refine calls_sh (l := [(Value.agg #[(Value.int .i64 x), (Value.int .i64 x2), (Value.int .i64 x3)]), (Value.pointer (some (⟨gc, 0, none⟩ : Addr))), (Value.pointer (some (⟨gc2, 0, none⟩ : Addr)))]) Try.func135 rfl Try.ntmps135 (Nat.le_of_ble_eq_true rfl) ?_
  refine wt_seq ?_
  refine wl_region wd_wide ?_
  refine rl_n rfl rfl rfl rfl (n_box (v := (Value.agg #[(Value.int .i64 x), (Value.int .i64 x2), (Value.int .i64 x3)])) rfl ?_)
  intro g w2 hN
  replace hS : Sep w S O w2 (stl _ 4 (Res.box 63 g [(Value.int .i64 x), (Value.int .i64 x2), (Value.int .i64 x3)])) := hS.new 4 rfl hN
  clear hN
  refine ⟨Stb.none _, ?_⟩
  refine rl_end ?_
  refine wt_seq ?_
  refine wp_draw [0, 1, 2, 3, 4, 5, 6, 7, 8, 9, 10, 11, 12, 13, 14] st0 wd_wide (by kernel_rfl) (by kernel_rfl) ?_
  replace hS := hS.drew
  refine rp_q rfl rfl rfl (v_faddr rfl Try.underlying63 rfl info_3) ?_
  refine rp_q rfl rfl rfl (v_load rfl Try.underlying3 rfl (Row.cell (hS.bx 4 rfl) (i := 2) rfl)) ?_
  refine rp_q rfl rfl rfl (v_load rfl Try.underlying27 rfl (Row.cell (hS.bx 0 rfl) (i := 0) rfl)) ?_
  refine rp_q rfl rfl rfl (v_faddr rfl Try.underlying63 rfl info_3) ?_
  refine rp_q rfl rfl rfl (v_load rfl Try.underlying3 rfl (Row.cell (hS.bx 4 rfl) (i := 0) rfl)) ?_
  obtain ⟨hx, h⟩ := h
  refine rp_q rfl rfl rfl (v_iaddr rfl rfl Try.underlying27 info_3 (rd_ix (hS.rdr 1 rfl) hx)) ?_
  refine rp_q rfl rfl rfl (v_load (v := (Value.int .i64 (gi cap x.toNat))) rfl Try.underlying3 rfl (rd_1 (hS.rdr 1 rfl) hx (fun q => gi_some q) rfl)) ?_
  refine rp_q rfl rfl rfl (v_load rfl Try.underlying27 rfl (Row.cell (hS.bx 0 rfl) (i := 0) rfl)) ?_
  refine rp_q rfl rfl rfl (v_faddr rfl Try.underlying63 rfl info_3) ?_
  refine rp_q rfl rfl rfl (v_load rfl Try.underlying3 rfl (Row.cell (hS.bx 4 rfl) (i := 1) rfl)) ?_
  obtain ⟨hx2, h⟩ := h
  refine rp_q rfl rfl rfl (v_iaddr rfl rfl Try.underlying27 info_3 (rd_ix (hS.rdr 1 rfl) hx2)) ?_
  refine rp_q rfl rfl rfl (v_load (v := (Value.int .i64 (gi cap x2.toNat))) rfl Try.underlying3 rfl (rd_1 (hS.rdr 1 rfl) hx2 (fun q => gi_some q) rfl)) ?_
  obtain ⟨hi, h⟩ := h
  refine rp_q rfl rfl rfl (v_sub rfl rfl hi) ?_
  obtain ⟨hi2, h⟩ := h
  refine rp_q rfl rfl rfl (v_mul rfl rfl hi2) ?_
  refine rp_q rfl rfl rfl (v_assign (v := (Value.int .i64 (x3 * ((gi cap x.toNat) - (gi cap x2.toNat))))) rfl) ?_
  refine rp_end ?_
  refine wt_seq ?_
  refine wl_region wd_wide ?_
  refine rl_q rfl rfl rfl (v_load rfl Try.underlying26 rfl (Row.cell (hS.bx 2 rfl) (i := 0) rfl)) ?_
  refine rl_q rfl rfl rfl (v_faddr rfl Try.underlying63 rfl info_3) ?_
  refine rl_q rfl rfl rfl (v_load rfl Try.underlying3 rfl (Row.cell (hS.bx 4 rfl) (i := 0) rfl)) ?_
  obtain ⟨hx3, h⟩ := h
  refine rl_q rfl rfl rfl (v_iaddr rfl rfl Try.underlying26 info_3 (rd_ix (hS.rdo 3 rfl) hx3)) ?_
  refine rl_q rfl rfl rfl (v_load (v := (Value.int .i64 (gi cap2 x.toNat))) rfl Try.underlying3 rfl (rd_1 (hS.rdo 3 rfl) hx3 (fun q => gi_some q) rfl)) ?_
  refine rl_q rfl rfl rfl (v_move (v := (Value.int .i64 (x3 * ((gi cap x.toNat) - (gi cap x2.toNat))))) rfl) ?_
  obtain ⟨hi3, h⟩ := h
  refine rl_q rfl rfl rfl (v_sub rfl rfl hi3) ?_
  refine rl_q rfl rfl rfl (v_iaddr rfl rfl Try.underlying26 info_3 (rd_ix (hS.rdo 3 rfl) hx3)) ?_
  refine rl_n0 rfl rfl rfl (n_store (v := (Value.int .i64 ((gi cap2 x.toNat) - (x3 * ((gi cap x.toNat) - (gi cap x2.toNat)))))) rfl rfl rfl info_3 (hS.wr 3 rfl rfl hx3) ?_)
  intro w3 e1
  replace hS := hS.st 3 rfl rfl hx3 (x := (gi cap2 x.toNat) - (x3 * ((gi cap x.toNat) - (gi cap x2.toNat)))) rfl e1
  clear e1
  refine ⟨Stb.none _, ?_⟩
  refine rl_end ?_
  refine wl_region wd_wide ?_
  refine rl_q rfl rfl rfl (v_load rfl Try.underlying26 rfl (Row.cell (hS.bx 2 rfl) (i := 0) rfl)) ?_
  refine rl_q rfl rfl rfl (v_faddr rfl Try.underlying63 rfl info_3) ?_
  refine rl_q rfl rfl rfl (v_load rfl Try.underlying3 rfl (Row.cell (hS.bx 4 rfl) (i := 1) rfl)) ?_
  obtain ⟨hx4, h⟩ := h
  refine rl_q rfl rfl rfl (v_iaddr rfl rfl Try.underlying26 info_3 (rd_ix (hS.rdo 3 rfl) hx4)) ?_
  refine rl_q rfl rfl rfl (v_load (v := (Value.int .i64 (gi (cap2.set x.toNat ((gi cap2 x.toNat) - (x3 * ((gi cap x.toNat) - (gi cap x2.toNat))))) x2.toNat))) rfl Try.underlying3 rfl (rd_1 (hS.rdo 3 rfl) hx4 (fun q => gi_some q) rfl)) ?_
  refine rl_q rfl rfl rfl (v_move (v := (Value.int .i64 (x3 * ((gi cap x.toNat) - (gi cap x2.toNat))))) rfl) ?_
  obtain ⟨hi4, h⟩ := h
  refine rl_q rfl rfl rfl (v_add rfl rfl hi4) ?_
  refine rl_q rfl rfl rfl (v_iaddr rfl rfl Try.underlying26 info_3 (rd_ix (hS.rdo 3 rfl) hx4)) ?_
  refine rl_n0 rfl rfl rfl (n_store (v := (Value.int .i64 ((gi (cap2.set x.toNat ((gi cap2 x.toNat) - (x3 * ((gi cap x.toNat) - (gi cap x2.toNat))))) x2.toNat) + (x3 * ((gi cap x.toNat) - (gi cap x2.toNat)))))) rfl rfl rfl info_3 (hS.wr 3 rfl rfl hx4) ?_)
  intro w4 e1
  replace hS := hS.st 3 rfl rfl hx4 (x := (gi (cap2.set x.toNat ((gi cap2 x.toNat) - (x3 * ((gi cap x.toNat) - (gi cap x2.toNat))))) x2.toNat) + (x3 * ((gi cap x.toNat) - (gi cap x2.toNat)))) rfl e1
  clear e1
  refine ⟨Stb.none _, ?_⟩
  refine rl_end ?_
  exact wt_end0 rfl ⟨_, _, _, _, rfl, (hS.sel [0, 2, 3] (by decide)), h⟩

/-- sandpile/firing.moved: what it computes. -/
def pf_firing_moved (g : Int) (g2 : List (Int × Int × Int)) (d : List Int) (s : List Int) (R : (List Int) → Prop) : Prop :=
pf_slices_Clone_Divisor d (fun (r : List Int) =>
(∃ I2 : Nat → Int → (List Int) → Prop, (∃ m0, I2 m0 0 r) ∧ ∀ (m2 : Nat) (v : Int) (out : List Int), I2 m2 v out → 
((v < ((g2.length : Nat) : Int) →
((0 ≤ v ∧ v < ((g2.length : Nat) : Int)) ∧
pf_firing_moved_1 ((ge g2 v.toNat).1) ((ge g2 v.toNat).2.1) ((ge g2 v.toNat).2.2) s out (fun (y : List Int) =>
(In64 (v + 1) ∧
∃ m3, m3 < m2 ∧ I2 m3 (v + 1) y)))) ∧
(¬ (v < ((g2.length : Nat) : Int)) →
R out))))
theorem pok_firing_moved {O : Nat → Prop} {w : World} {g : Int} {g2 : List (Int × Int × Int)} {d : List Int} {s : List Int} {Ag : Option Addr} {lg : Nat} {cg : Nat} {Ad : Option Addr} {ld : Nat} {cd : Nat} {As : Option Addr} {ls : Nat} {cs : Nat} {R : (List Int) → Prop} (h : pf_firing_moved g g2 d s R) (hO : ∀ k, O k → k < w.heap.size) (a0 : (FP.sl c3 Ag lg cg g2).P O w) (a1 : (FP.sl cI Ad ld cd d).P O w) (a2 : (FP.sl cI As ls cs s).P O w) :
    Calls Try.prog 86 #[(Value.agg #[(Value.int .i64 g), (Value.slice Ag lg cg)]), (Value.slice Ad ld cd), (Value.slice As ls cs)] w fun e w' => ∃ r2 : List Int, ∃ Ar2 : Option Addr, ∃ lr2 : Nat, ∃ cr2 : Nat, e = .returned (Value.slice Ar2 lr2 cr2) ∧ Sep w no O w' (rl [Res.own cI 3 Ar2 lr2 cr2 r2]) ∧ R r2 := by
  unfold pf_firing_moved at h
  have hS : Sep w no O w (rl [Res.ro (FP.sl c3 Ag lg cg g2), Res.ro (FP.sl cI Ad ld cd d), Res.ro (FP.sl cI As ls cs s)]) := Sep.startl hO [(FP.sl c3 Ag lg cg g2), (FP.sl cI Ad ld cd d), (FP.sl cI As ls cs s)] ⟨a0, a1, a2, trivial⟩
  refine calls_sh (l := [(Value.agg #[(Value.int .i64 g), (Value.slice Ag lg cg)]), (Value.slice Ad ld cd), (Value.slice As ls cs)]) Try.func86 rfl Try.ntmps86 (Nat.le_of_ble_eq_true rfl) ?_
  refine wt_seq ?_
  refine wl_region wd_wide ?_
  refine rl_n rfl rfl rfl rfl (n_box (v := (Value.agg #[(Value.int .i64 g), (Value.slice Ag lg cg)])) rfl ?_)
  intro g3 w2 hN
  replace hS : Sep w no O w2 (stl _ 3 (Res.box 24 g3 [(Value.int .i64 g), (Value.slice Ag lg cg)])) := hS.new 3 rfl hN
  clear hN
  refine ⟨Stb.none _, ?_⟩
  refine rl_n rfl rfl rfl rfl (n_box (v := (Value.slice As ls cs)) rfl ?_)
  intro g4 w3 hN
  replace hS : Sep w no O w3 (stl _ 4 (Res.box 27 g4 [(Value.slice As ls cs)])) := hS.new 4 rfl hN
  clear hN
  refine ⟨Stb.none _, ?_⟩
  refine rl_q rfl rfl rfl (v_assign (v := (Value.slice none 0 0)) rfl) ?_
  refine rl_end ?_
  refine wt_seq ?_
  refine wl_region wd_wide ?_
  refine rl_q rfl rfl rfl (v_move (v := (Value.slice Ad ld cd)) rfl) ?_
  refine rl_n rfl rfl rfl rfl (n_call0 rfl (am1 rfl) enter_31 ((pok_slices_Clone_Divisor h (no_lt _) (hS.rdr 1 rfl)).mono ?_))
  rintro _ w4 ⟨r, Ar, lr, cr, rfl, hC, h⟩
  replace hS := hS.call1 (hC.widen (flatS (flat_own (fI .i64) _ _ _ _ _) flat0) hS.blt) 5 0 rfl
  clear hC
  refine ⟨_, rfl, ?_⟩
  refine ⟨Stb.none _, ?_⟩
  refine rl_n rfl rfl rfl rfl (n_alloc info_26 ?_)
  intro g5 w5 hN
  replace hS : Sep w no O w5 (stl _ 6 (Res.box 26 g5 [(Value.slice none 0 0)])) := hS.new 6 rfl hN
  clear hN
  refine ⟨Stb.none _, ?_⟩
  refine rl_n0 rfl rfl rfl (n_store (v := (Value.slice Ar lr cr)) rfl rfl rfl info_26 (hS.bwr 6 rfl (j := 0) rfl) ?_)
  intro w6 e1
  replace hS := hS.bst 6 rfl 0 (Value.slice Ar lr cr) e1
  clear e1
  refine ⟨Stb.none _, ?_⟩
  refine rl_end ?_
  refine wt_seq ?_
  refine wl_region wd_wide ?_
  refine rl_q rfl rfl rfl (v_func (am0) (am2 rfl rfl)) ?_
  refine rl_q rfl rfl rfl (v_assign (v := (Value.func (Fn.func 135) #[] #[(Value.pointer (some (⟨g4, 0, none⟩ : Addr))), (Value.pointer (some (⟨g5, 0, none⟩ : Addr)))])) rfl) ?_
  refine rl_end ?_
  refine wt_seq ?_
  refine wt_seq ?_
  refine wl_region wd_wide ?_
  refine rl_q rfl rfl rfl (v_faddr rfl Try.underlying24 rfl info_22) ?_
  refine rl_q rfl rfl rfl (v_load rfl Try.underlying22 rfl (Row.cell (hS.bx 3 rfl) (i := 1) rfl)) ?_
  refine rl_q rfl rfl rfl (v_lenx (n := g2.length) rfl Try.underlying22 (rd_len (hS.rdr 0 rfl))) ?_
  refine rl_q rfl rfl rfl (v_move (v := (Value.int .i64 0)) rfl) ?_
  refine rl_end ?_
  refine wt_block ?_
  obtain ⟨I2, ⟨m0, h0⟩, hr⟩ := h
  refine wt_loop (fun m E ds w' => ∃ v : Int, ∃ out : List Int, ∃ Aout : Option Addr, ∃ lout : Nat, ∃ cout : Nat, I2 m v out ∧ ds = [] ∧ E 7 = (Value.pointer (some (⟨g5, 0, none⟩ : Addr))) ∧ E 8 = (Value.func (Fn.func 135) #[] #[(Value.pointer (some (⟨g4, 0, none⟩ : Addr))), (Value.pointer (some (⟨g5, 0, none⟩ : Addr)))]) ∧ E 15 = (Value.slice Ag lg cg) ∧ E 16 = (Value.int .i64 ((g2.length : Nat) : Int)) ∧ E 17 = (Value.int .i64 v) ∧ Sep w no O w' (rl [Res.box 26 g5 [(Value.slice Aout lout cout)], Res.own cI 3 Aout lout cout out, Res.box 27 g4 [(Value.slice As ls cs)], Res.ro (FP.sl cI As ls cs s), Res.ro (FP.sl c3 Ag lg cg g2)])) m0 ⟨_, _, _, _, _, h0, rfl, rfl, rfl, rfl, rfl, rfl, (hS.sel [6, 5, 4, 2, 0] (by decide))⟩ ?_
  clear h0 hS
  rintro m2 E ds w7 ⟨v, out, Aout, lout, cout, h, rfl, hE7, hE8, hE15, hE16, hE17, hS⟩ again
  replace h := hr m2 v out h
  clear hr
  refine wt_seq ?_
  refine wl_region wd_wide ?_
  refine rl_q rfl rfl rfl (v_lss hE17 hE16) ?_
  refine rl_end ?_
  refine wt_seq ?_
  by_cases hp : v < ((g2.length : Nat) : Int)
  · replace h := h.1 hp
    refine wt_cond_t (congrArg Value.bool (decide_eq_true hp)) ?_
    refine wt_skip ?_
    refine wt_seq ?_
    refine wt_block ?_
    refine wt_seq ?_
    refine wl_region wd_wide ?_
    obtain ⟨hx, h⟩ := h
    refine rl_q rfl rfl rfl (v_iaddr hE15 hE17 Try.underlying22 info_63 (rd_ix (hS.rdr 4 rfl) hx)) ?_
    refine rl_q rfl rfl rfl (v_loadn (vs := [(Value.int .i64 ((ge g2 v.toNat).1)), (Value.int .i64 ((ge g2 v.toNat).2.1)), (Value.int .i64 ((ge g2 v.toNat).2.2))]) rfl Try.underlying63 rfl info_63 (rd_fs (hS.rdr 4 rfl) hx (fun q => ge_some q))) ?_
    refine rl_n rfl rfl rfl rfl (n_alloc info_63 ?_)
    intro g6 w8 hN
    replace hS : Sep w no O w8 (stl _ 5 (Res.box 63 g6 [(Value.int .i64 0), (Value.int .i64 0), (Value.int .i64 0)])) := hS.new 5 rfl hN
    clear hN
    refine ⟨Stb.none _, ?_⟩
    refine rl_n0 rfl rfl rfl (n_storen (b := g6) (o := 0) (cells := #[(Value.int .i64 ((ge g2 v.toNat).1)), (Value.int .i64 ((ge g2 v.toNat).2.1)), (Value.int .i64 ((ge g2 v.toNat).2.2))]) rfl rfl info_63 rfl rfl (there_row (hS.bx 5 rfl) (Nat.le_of_ble_eq_true rfl)) ?_)
    intro w9 e1
    replace hS := hS.bstn 5 rfl 0 [(Value.int .i64 ((ge g2 v.toNat).1)), (Value.int .i64 ((ge g2 v.toNat).2.1)), (Value.int .i64 ((ge g2 v.toNat).2.2))] e1
    clear e1
    refine ⟨Stb.none _, ?_⟩
    refine rl_end ?_
    refine wl_region wd_wide ?_
    refine rl_q rfl rfl rfl (v_move (v := (Value.func (Fn.func 135) #[] #[(Value.pointer (some (⟨g4, 0, none⟩ : Addr))), (Value.pointer (some (⟨g5, 0, none⟩ : Addr)))])) hE8) ?_
    refine rl_q rfl rfl rfl (v_loadn (vs := [(Value.int .i64 ((ge g2 v.toNat).1)), (Value.int .i64 ((ge g2 v.toNat).2.1)), (Value.int .i64 ((ge g2 v.toNat).2.2))]) rfl Try.underlying63 rfl info_63 ⟨Row.cell (hS.bx 5 rfl) (i := 0) rfl, Row.cell (hS.bx 5 rfl) (i := 1) rfl, Row.cell (hS.bx 5 rfl) (i := 2) rfl, trivial⟩) ?_
    have hB := hS.lend (asc [(2, 0), (0, 1), (1, 2)]) [2, 3, 0, 1] (by decide) ⟨.inl (ne_none rfl), .inr rfl, .inl (ne_none rfl), .inl (ne_none rfl), trivial⟩
    refine rl_n rfl rfl rfl rfl (n_call (vs := #[(Value.agg #[(Value.int .i64 ((ge g2 v.toNat).1)), (Value.int .i64 ((ge g2 v.toNat).2.1)), (Value.int .i64 ((ge g2 v.toNat).2.2))])]) (us := #[(Value.pointer (some (⟨g4, 0, none⟩ : Addr))), (Value.pointer (some (⟨g5, 0, none⟩ : Addr)))]) rfl (am1 rfl) enter_135 ((cast_calls (by simp) (pok_firing_moved_1 h hB)).mono ?_))
    rintro _ w10 ⟨y, A, l, c, rfl, hC, h⟩
    replace hS := hS.back (asc [(2, 0), (0, 1), (1, 2)]) (asc_inj (by decide)) hC
    clear hC hB
    refine ⟨_, rfl, ?_⟩
    refine ⟨Stb.none _, ?_⟩
    refine rl_end ?_
    refine wt_inBlock ?_
    refine wl_region wd_wide ?_
    obtain ⟨hi, h⟩ := h
    refine rl_q rfl rfl rfl (v_add hE17 rfl hi) ?_
    refine rl_q rfl rfl rfl (v_move (v := (Value.int .i64 (v + 1))) rfl) ?_
    refine rl_end ?_
    obtain ⟨mq, hlt, h⟩ := h
    exact again mq _ _ _ ⟨_, _, _, _, _, h, rfl, hE7, hE8, hE15, hE16, rfl, (hS.sel [0, 1, 2, 3, 4] (by decide))⟩ hlt
  · replace h := h.2 hp
    refine wt_cond_f (congrArg Value.bool (decide_eq_false hp)) ?_
    refine wt_exit rfl ?_
    refine wt_seq ?_
    refine wl_region wd_wide ?_
    refine rl_q rfl rfl rfl (v_load hE7 Try.underlying26 rfl (Row.cell (hS.bx 0 rfl) (i := 0) rfl)) ?_
    refine rl_q rfl rfl rfl (v_assign (v := (Value.slice Aout lout cout)) rfl) ?_
    refine rl_end ?_
    exact wt_ret1 rfl rfl ⟨_, _, _, _, rfl, (hS.sel [1] (by decide)), h⟩

/-- sandpile/firing.Apply: what it computes. -/
def pf_firing_Apply (g : Int) (g2 : List (Int × Int × Int)) (d : List Int) (s : List Int) (R : (List Int) → Int → Prop) : Prop :=
pf_firing_given g g2 d (fun (r : Int) =>
((r = 0 →
pf_firing_Check g g2 s (fun (r2 : Int) =>
((r2 = 0 →
pf_firing_moved g g2 d s (fun (r3 : List Int) =>
pf_firing_bounded r3 (fun (r4 : List Int) (r5 : Int) =>
R r4 r5))) ∧
(¬ (r2 = 0) →
R ([]) r2)))) ∧
(¬ (r = 0) →
R ([]) r)))
theorem pok_firing_Apply {O : Nat → Prop} {w : World} {g : Int} {g2 : List (Int × Int × Int)} {d : List Int} {s : List Int} {Ag : Option Addr} {lg : Nat} {cg : Nat} {Ad : Option Addr} {ld : Nat} {cd : Nat} {As : Option Addr} {ls : Nat} {cs : Nat} {R : (List Int) → Int → Prop} (h : pf_firing_Apply g g2 d s R) (hO : ∀ k, O k → k < w.heap.size) (a0 : (FP.sl c3 Ag lg cg g2).P O w) (a1 : (FP.sl cI Ad ld cd d).P O w) (a2 : (FP.sl cI As ls cs s).P O w) :
    Calls Try.prog 32 #[(Value.agg #[(Value.int .i64 g), (Value.slice Ag lg cg)]), (Value.slice Ad ld cd), (Value.slice As ls cs)] w fun e w' => ∃ r6 : List Int, ∃ r7 : Int, ∃ Ar3 : Option Addr, ∃ lr3 : Nat, ∃ cr3 : Nat, e = .returned (Value.tuple #[(Value.slice Ar3 lr3 cr3), (Value.int .i64 r7)]) ∧ Sep w no O w' (rl [Res.ro (FP.sl cI Ar3 lr3 cr3 r6)]) ∧ R r6 r7 := by
  unfold pf_firing_Apply at h
  have hS : Sep w no O w (rl [Res.ro (FP.sl c3 Ag lg cg g2), Res.ro (FP.sl cI Ad ld cd d), Res.ro (FP.sl cI As ls cs s)]) := Sep.startl hO [(FP.sl c3 Ag lg cg g2), (FP.sl cI Ad ld cd d), (FP.sl cI As ls cs s)] ⟨a0, a1, a2, trivial⟩
  refine calls_sh (l := [(Value.agg #[(Value.int .i64 g), (Value.slice Ag lg cg)]), (Value.slice Ad ld cd), (Value.slice As ls cs)]) Try.func32 rfl Try.ntmps32 (Nat.le_of_ble_eq_true rfl) ?_
  refine wt_seq ?_
  refine wl_region wd_wide ?_
  refine rl_n rfl rfl rfl rfl (n_box (v := (Value.agg #[(Value.int .i64 g), (Value.slice Ag lg cg)])) rfl ?_)
  intro g3 w2 hN
  replace hS : Sep w no O w2 (stl _ 3 (Res.box 24 g3 [(Value.int .i64 g), (Value.slice Ag lg cg)])) := hS.new 3 rfl hN
  clear hN
  refine ⟨Stb.none _, ?_⟩
  refine rl_q rfl rfl rfl (v_assign (v := (Value.slice none 0 0)) rfl) ?_
  refine rl_q rfl rfl rfl (v_assign (v := (Value.int .i64 0)) rfl) ?_
  refine rl_end ?_
  refine wt_seq ?_
  refine wt_seq ?_
  refine wl_region wd_wide ?_
  refine rl_q rfl rfl rfl (v_loadn (vs := [(Value.int .i64 g), (Value.slice Ag lg cg)]) rfl Try.underlying24 rfl info_24 ⟨Row.cell (hS.bx 3 rfl) (i := 0) rfl, Row.cell (hS.bx 3 rfl) (i := 1) rfl, trivial⟩) ?_
  refine rl_q rfl rfl rfl (v_move (v := (Value.slice Ad ld cd)) rfl) ?_
  refine rl_n rfl rfl rfl rfl (n_call0 rfl (am2 rfl rfl) enter_83 ((pok_firing_given h (no_lt _) (hS.rdr 0 rfl) (hS.rdr 1 rfl)).mono ?_))
  rintro _ w3 ⟨r, rfl, hC, h⟩
  replace hS := hS.pur hC.pure
  clear hC
  refine ⟨_, rfl, ?_⟩
  refine ⟨Stb.none _, ?_⟩
  refine rl_q rfl rfl rfl (v_assign (v := (Value.int .i64 r)) rfl) ?_
  refine rl_end ?_
  refine wt_seq ?_
  refine wl_region wd_wide ?_
  refine rl_q rfl rfl rfl (v_move (v := (Value.int .i64 r)) rfl) ?_
  refine rl_q rfl rfl rfl (v_neq rfl rfl) ?_
  refine rl_end ?_
  by_cases hp : r = 0
  · replace h := h.1 hp
    refine wt_cond_f (congrArg Value.bool (congrArg Bool.not (decide_eq_true hp))) ?_
    refine wt_skip ?_
    refine wt_seq ?_
    refine wt_seq ?_
    refine wl_region wd_wide ?_
    refine rl_q rfl rfl rfl (v_loadn (vs := [(Value.int .i64 g), (Value.slice Ag lg cg)]) rfl Try.underlying24 rfl info_24 ⟨Row.cell (hS.bx 3 rfl) (i := 0) rfl, Row.cell (hS.bx 3 rfl) (i := 1) rfl, trivial⟩) ?_
    refine rl_q rfl rfl rfl (v_move (v := (Value.slice As ls cs)) rfl) ?_
    refine rl_n rfl rfl rfl rfl (n_call0 rfl (am2 rfl rfl) enter_84 ((pok_firing_Check h (no_lt _) (hS.rdr 0 rfl) (hS.rdr 2 rfl)).mono ?_))
    rintro _ w4 ⟨r2, rfl, hC, h⟩
    replace hS := hS.pur hC.pure
    clear hC
    refine ⟨_, rfl, ?_⟩
    refine ⟨Stb.none _, ?_⟩
    refine rl_q rfl rfl rfl (v_assign (v := (Value.int .i64 r2)) rfl) ?_
    refine rl_end ?_
    refine wt_seq ?_
    refine wl_region wd_wide ?_
    refine rl_q rfl rfl rfl (v_move (v := (Value.int .i64 r2)) rfl) ?_
    refine rl_q rfl rfl rfl (v_neq rfl rfl) ?_
    refine rl_end ?_
    by_cases hp2 : r2 = 0
    · replace h := h.1 hp2
      refine wt_cond_f (congrArg Value.bool (congrArg Bool.not (decide_eq_true hp2))) ?_
      refine wt_skip ?_
      refine wt_seq ?_
      refine wl_region wd_wide ?_
      refine rl_q rfl rfl rfl (v_loadn (vs := [(Value.int .i64 g), (Value.slice Ag lg cg)]) rfl Try.underlying24 rfl info_24 ⟨Row.cell (hS.bx 3 rfl) (i := 0) rfl, Row.cell (hS.bx 3 rfl) (i := 1) rfl, trivial⟩) ?_
      refine rl_q rfl rfl rfl (v_move (v := (Value.slice Ad ld cd)) rfl) ?_
      refine rl_q rfl rfl rfl (v_move (v := (Value.slice As ls cs)) rfl) ?_
      refine rl_n rfl rfl rfl rfl (n_call0 rfl (am3 rfl rfl rfl) enter_86 ((pok_firing_moved h (no_lt _) (hS.rdr 0 rfl) (hS.rdr 1 rfl) (hS.rdr 2 rfl)).mono ?_))
      rintro _ w5 ⟨r3, Ar, lr, cr, rfl, hC, h⟩
      replace hS := hS.call1 (hC.widen (flatS (flat_own (fI .i64) _ _ _ _ _) flat0) hS.blt) 4 0 rfl
      clear hC
      refine ⟨_, rfl, ?_⟩
      refine ⟨Stb.none _, ?_⟩
      replace hS := hS.frz 4 rfl
      refine rl_n rfl rfl rfl rfl (n_call0 rfl (am1 rfl) enter_85 ((pok_firing_bounded h hS.blt (hS.ro 4 rfl)).mono ?_))
      rintro _ w6 ⟨r4, r5, Ar2, lr2, cr2, rfl, hC, h⟩
      replace hS := hS.call1 hC 5 0 rfl
      clear hC
      refine ⟨_, rfl, ?_⟩
      refine ⟨Stb.none _, ?_⟩
      refine rl_q rfl rfl rfl (v_extract (v := (Value.slice Ar2 lr2 cr2)) rfl rfl) ?_
      refine rl_q rfl rfl rfl (v_extract (v := (Value.int .i64 r5)) rfl rfl) ?_
      refine rl_q rfl rfl rfl (v_assign (v := (Value.slice Ar2 lr2 cr2)) rfl) ?_
      refine rl_q rfl rfl rfl (v_assign (v := (Value.int .i64 r5)) rfl) ?_
      refine rl_end ?_
      exact wt_ret2 rfl rfl rfl ⟨_, _, _, _, _, rfl, (hS.sel [5] (by decide)), h⟩
    · replace h := h.2 hp2
      refine wt_cond_t (congrArg Value.bool (congrArg Bool.not (decide_eq_false hp2))) ?_
      refine wt_seq ?_
      refine wl_region wd_wide ?_
      refine rl_q rfl rfl rfl (v_move (v := (Value.int .i64 r2)) rfl) ?_
      refine rl_q rfl rfl rfl (v_assign (v := (Value.slice none 0 0)) rfl) ?_
      refine rl_q rfl rfl rfl (v_assign (v := (Value.int .i64 r2)) rfl) ?_
      refine rl_end ?_
      replace hS := hS.addro 4 rfl _ (nil_sl cI _ _)
      exact wt_ret2 rfl rfl rfl ⟨_, _, _, _, _, rfl, (hS.sel [4] (by decide)), h⟩
  · replace h := h.2 hp
    refine wt_cond_t (congrArg Value.bool (congrArg Bool.not (decide_eq_false hp))) ?_
    refine wt_seq ?_
    refine wl_region wd_wide ?_
    refine rl_q rfl rfl rfl (v_move (v := (Value.int .i64 r)) rfl) ?_
    refine rl_q rfl rfl rfl (v_assign (v := (Value.slice none 0 0)) rfl) ?_
    refine rl_q rfl rfl rfl (v_assign (v := (Value.int .i64 r)) rfl) ?_
    refine rl_end ?_
    replace hS := hS.addro 4 rfl _ (nil_sl cI _ _)
    exact wt_ret2 rfl rfl rfl ⟨_, _, _, _, _, rfl, (hS.sel [4] (by decide)), h⟩
end Go.Proofs.Ytbehbjfcenlaeaa

/- Pure forms of functions, made by program (pf.py), each with the proof that the code does so. -/
namespace Go.Proofs.Ytbehbjfcenlaeaa
open Go Go.RowKit Go.Shelf
set_option linter.unusedVariables false
set_option maxRecDepth 100000
set_option maxHeartbeats 1000000
end Go.Proofs.Ytbehbjfcenlaeaa
