/- Texts laid together: Pb, Pt, Pe, Pg. -/
import Derived.Test.YtnhmeckhlajeaaaK4
/- Pure forms of functions, made by program (pf.py), each with the proof that the code does so. -/
namespace Go.Proofs.Ytnhmeckhlajeaaa
open Go Go.RowKit Go.Shelf
set_option linter.unusedVariables false
set_option maxRecDepth 100000
set_option maxHeartbeats 1000000
/-- slices.Equal[sandpile/api.Divisor,int]: what it computes. -/
def pf_slices_Equal_Divisor (s1 : List Int) (s2 : List Int) (R : Bool → Prop) : Prop :=
((((s1.length : Nat) : Int) = ((s2.length : Nat) : Int) →
(∃ I2 : Nat → Int → Prop, (∃ m0, I2 m0 0) ∧ ∀ (m2 : Nat) (v : Int), I2 m2 v → 
((v < ((s1.length : Nat) : Int) →
((0 ≤ v ∧ v < ((s1.length : Nat) : Int)) ∧
((0 ≤ v ∧ v < ((s2.length : Nat) : Int)) ∧
(((gi s1 v.toNat) = (gi s2 v.toNat) →
(In64 (v + 1) ∧
∃ m3, m3 < m2 ∧ I2 m3 (v + 1))) ∧
(¬ ((gi s1 v.toNat) = (gi s2 v.toNat)) →
R false))))) ∧
(¬ (v < ((s1.length : Nat) : Int)) →
R true)))) ∧
(¬ (((s1.length : Nat) : Int) = ((s2.length : Nat) : Int)) →
R false))
theorem pok_slices_Equal_Divisor {O : Nat → Prop} {w : World} {s1 : List Int} {s2 : List Int} {As1 : Option Addr} {ls1 : Nat} {cs1 : Nat} {As2 : Option Addr} {ls2 : Nat} {cs2 : Nat} {R : Bool → Prop} (h : pf_slices_Equal_Divisor s1 s2 R) (hO : ∀ k, O k → k < w.heap.size) (a0 : (FP.sl cI As1 ls1 cs1 s1).P O w) (a1 : (FP.sl cI As2 ls2 cs2 s2).P O w) :
    Calls Try.prog 19 #[(Value.slice As1 ls1 cs1), (Value.slice As2 ls2 cs2)] w fun e w' => ∃ r : Bool, e = .returned (Value.bool (r)) ∧ Sep w no O w' (rl []) ∧ R r := by
  unfold pf_slices_Equal_Divisor at h
  have hS : Sep w no O w (rl [Res.ro (FP.sl cI As1 ls1 cs1 s1), Res.ro (FP.sl cI As2 ls2 cs2 s2)]) := Sep.startl hO [(FP.sl cI As1 ls1 cs1 s1), (FP.sl cI As2 ls2 cs2 s2)] ⟨a0, a1, trivial⟩
  refine calls_sh (l := [(Value.slice As1 ls1 cs1), (Value.slice As2 ls2 cs2)]) Try.func19 rfl Try.ntmps19 (Nat.le_of_ble_eq_true rfl) ?_
  refine wt_seq ?_
  refine wl_region wd_wide ?_
  refine rl_q rfl rfl rfl (v_assign (v := (Value.bool (false))) rfl) ?_
  refine rl_end ?_
  refine wt_seq ?_
  refine wt_seq ?_
  refine wl_region wd_wide ?_
  refine rl_q rfl rfl rfl (v_move (v := (Value.slice As1 ls1 cs1)) rfl) ?_
  refine rl_q rfl rfl rfl (v_lenx (n := s1.length) rfl Try.underlying26 (rd_len (hS.rdr 0 rfl))) ?_
  refine rl_q rfl rfl rfl (v_move (v := (Value.slice As2 ls2 cs2)) rfl) ?_
  refine rl_q rfl rfl rfl (v_lenx (n := s2.length) rfl Try.underlying26 (rd_len (hS.rdr 1 rfl))) ?_
  refine rl_q rfl rfl rfl (v_neq rfl rfl) ?_
  refine rl_end ?_
  by_cases hp : ((s1.length : Nat) : Int) = ((s2.length : Nat) : Int)
  · replace h := h.1 hp
    refine wt_cond_f (congrArg Value.bool (congrArg Bool.not (decide_eq_true hp))) ?_
    refine wt_skip ?_
    refine wt_seq ?_
    refine wt_seq ?_
    refine wl_region wd_wide ?_
    refine rl_q rfl rfl rfl (v_move (v := (Value.slice As1 ls1 cs1)) rfl) ?_
    refine rl_q rfl rfl rfl (v_lenx (n := s1.length) rfl Try.underlying26 (rd_len (hS.rdr 0 rfl))) ?_
    refine rl_q rfl rfl rfl (v_move (v := (Value.int .i64 0)) rfl) ?_
    refine rl_end ?_
    refine wt_block ?_
    obtain ⟨I2, ⟨m0, h0⟩, hr⟩ := h
    refine wt_loop (fun m E ds w' => ∃ v : Int, I2 m v ∧ ds = [] ∧ E 0 = (Value.slice As1 ls1 cs1) ∧ E 1 = (Value.slice As2 ls2 cs2) ∧ E 12 = (Value.int .i64 ((s1.length : Nat) : Int)) ∧ E 13 = (Value.int .i64 v) ∧ Sep w no O w' (rl [Res.ro (FP.sl cI As1 ls1 cs1 s1), Res.ro (FP.sl cI As2 ls2 cs2 s2)])) m0 ⟨_, h0, rfl, rfl, rfl, rfl, rfl, (hS.sel [0, 1] (by decide))⟩ ?_
    clear h0 hS
    rintro m2 E ds w2 ⟨v, h, rfl, hE0, hE1, hE12, hE13, hS⟩ again
    replace h := hr m2 v h
    clear hr
    refine wt_seq ?_
    refine wl_region wd_wide ?_
    refine rl_q rfl rfl rfl (v_lss hE13 hE12) ?_
    refine rl_end ?_
    refine wt_seq ?_
    by_cases hp2 : v < ((s1.length : Nat) : Int)
    · replace h := h.1 hp2
      refine wt_cond_t (congrArg Value.bool (decide_eq_true hp2)) ?_
      refine wt_skip ?_
      refine wt_seq ?_
      refine wt_block ?_
      refine wt_seq ?_
      refine wl_region wd_wide ?_
      refine rl_q rfl rfl rfl (v_move (v := (Value.int .i64 v)) hE13) ?_
      refine rl_q rfl rfl rfl (v_assign (v := (Value.int .i64 v)) rfl) ?_
      refine rl_end ?_
      refine wt_seq ?_
      refine wp_draw [0, 1, 2, 3, 4, 5, 6, 7, 8] st0 wd_wide (by kernel_rfl) (by kernel_rfl) ?_
      replace hS := hS.drew
      refine rp_q rfl rfl rfl (v_move (v := (Value.slice As1 ls1 cs1)) hE0) ?_
      refine rp_q rfl rfl rfl (v_move (v := (Value.int .i64 v)) rfl) ?_
      obtain ⟨hx, h⟩ := h
      refine rp_q rfl rfl rfl (v_iaddr rfl rfl Try.underlying26 info_3 (rd_ix (hS.rdr 0 rfl) hx)) ?_
      refine rp_q rfl rfl rfl (v_load (v := (Value.int .i64 (gi s1 v.toNat))) rfl Try.underlying3 rfl (rd_1 (hS.rdr 0 rfl) hx (fun q => gi_some q) rfl)) ?_
      refine rp_q rfl rfl rfl (v_move (v := (Value.slice As2 ls2 cs2)) hE1) ?_
      refine rp_q rfl rfl rfl (v_move (v := (Value.int .i64 v)) rfl) ?_
      obtain ⟨hx2, h⟩ := h
      refine rp_q rfl rfl rfl (v_iaddr rfl rfl Try.underlying26 info_3 (rd_ix (hS.rdr 1 rfl) hx2)) ?_
      refine rp_q rfl rfl rfl (v_load (v := (Value.int .i64 (gi s2 v.toNat))) rfl Try.underlying3 rfl (rd_1 (hS.rdr 1 rfl) hx2 (fun q => gi_some q) rfl)) ?_
      refine rp_q rfl rfl rfl (v_neq rfl rfl) ?_
      refine rp_end ?_
      by_cases hp3 : (gi s1 v.toNat) = (gi s2 v.toNat)
      · replace h := h.1 hp3
        refine wt_cond_f (congrArg Value.bool (congrArg Bool.not (decide_eq_true hp3))) ?_
        refine wt_skip ?_
        refine wt_inBlock ?_
        refine wl_region wd_wide ?_
        obtain ⟨hi, h⟩ := h
        refine rl_q rfl rfl rfl (v_add hE13 rfl hi) ?_
        refine rl_q rfl rfl rfl (v_move (v := (Value.int .i64 (v + 1))) rfl) ?_
        refine rl_end ?_
        obtain ⟨mq, hlt, h⟩ := h
        exact again mq _ _ _ ⟨_, h, rfl, hE0, hE1, hE12, rfl, (hS.sel [0, 1] (by decide))⟩ hlt
      · replace h := h.2 hp3
        refine wt_cond_t (congrArg Value.bool (congrArg Bool.not (decide_eq_false hp3))) ?_
        refine wt_seq ?_
        refine wl_region wd_wide ?_
        refine rl_q rfl rfl rfl (v_assign (v := (Value.bool (false))) rfl) ?_
        refine rl_end ?_
        exact wt_ret1 rfl rfl ⟨_, rfl, (hS.sel [] (by decide)), h⟩
    · replace h := h.2 hp2
      refine wt_cond_f (congrArg Value.bool (decide_eq_false hp2)) ?_
      refine wt_exit rfl ?_
      refine wt_seq ?_
      refine wl_region wd_wide ?_
      refine rl_q rfl rfl rfl (v_assign (v := (Value.bool (true))) rfl) ?_
      refine rl_end ?_
      exact wt_ret1 rfl rfl ⟨_, rfl, (hS.sel [] (by decide)), h⟩
  · replace h := h.2 hp
    refine wt_cond_t (congrArg Value.bool (congrArg Bool.not (decide_eq_false hp))) ?_
    refine wt_seq ?_
    refine wl_region wd_wide ?_
    refine rl_q rfl rfl rfl (v_assign (v := (Value.bool (false))) rfl) ?_
    refine rl_end ?_
    exact wt_ret1 rfl rfl ⟨_, rfl, (hS.sel [] (by decide)), h⟩

/-- slices.Equal[sandpile/api.Script,int]: what it computes. -/
def pf_slices_Equal_Script (s1 : List Int) (s2 : List Int) (R : Bool → Prop) : Prop :=
((((s1.length : Nat) : Int) = ((s2.length : Nat) : Int) →
(∃ I2 : Nat → Int → Prop, (∃ m0, I2 m0 0) ∧ ∀ (m2 : Nat) (v : Int), I2 m2 v → 
((v < ((s1.length : Nat) : Int) →
((0 ≤ v ∧ v < ((s1.length : Nat) : Int)) ∧
((0 ≤ v ∧ v < ((s2.length : Nat) : Int)) ∧
(((gi s1 v.toNat) = (gi s2 v.toNat) →
(In64 (v + 1) ∧
∃ m3, m3 < m2 ∧ I2 m3 (v + 1))) ∧
(¬ ((gi s1 v.toNat) = (gi s2 v.toNat)) →
R false))))) ∧
(¬ (v < ((s1.length : Nat) : Int)) →
R true)))) ∧
(¬ (((s1.length : Nat) : Int) = ((s2.length : Nat) : Int)) →
R false))
theorem pok_slices_Equal_Script {O : Nat → Prop} {w : World} {s1 : List Int} {s2 : List Int} {As1 : Option Addr} {ls1 : Nat} {cs1 : Nat} {As2 : Option Addr} {ls2 : Nat} {cs2 : Nat} {R : Bool → Prop} (h : pf_slices_Equal_Script s1 s2 R) (hO : ∀ k, O k → k < w.heap.size) (a0 : (FP.sl cI As1 ls1 cs1 s1).P O w) (a1 : (FP.sl cI As2 ls2 cs2 s2).P O w) :
    Calls Try.prog 20 #[(Value.slice As1 ls1 cs1), (Value.slice As2 ls2 cs2)] w fun e w' => ∃ r : Bool, e = .returned (Value.bool (r)) ∧ Sep w no O w' (rl []) ∧ R r := by
  unfold pf_slices_Equal_Script at h
  have hS : Sep w no O w (rl [Res.ro (FP.sl cI As1 ls1 cs1 s1), Res.ro (FP.sl cI As2 ls2 cs2 s2)]) := Sep.startl hO [(FP.sl cI As1 ls1 cs1 s1), (FP.sl cI As2 ls2 cs2 s2)] ⟨a0, a1, trivial⟩
  refine calls_sh (l := [(Value.slice As1 ls1 cs1), (Value.slice As2 ls2 cs2)]) Try.func20 rfl Try.ntmps20 (Nat.le_of_ble_eq_true rfl) ?_
  refine wt_seq ?_
  refine wl_region wd_wide ?_
  refine rl_q rfl rfl rfl (v_assign (v := (Value.bool (false))) rfl) ?_
  refine rl_end ?_
  refine wt_seq ?_
  refine wt_seq ?_
  refine wl_region wd_wide ?_
  refine rl_q rfl rfl rfl (v_move (v := (Value.slice As1 ls1 cs1)) rfl) ?_
  refine rl_q rfl rfl rfl (v_lenx (n := s1.length) rfl Try.underlying30 (rd_len (hS.rdr 0 rfl))) ?_
  refine rl_q rfl rfl rfl (v_move (v := (Value.slice As2 ls2 cs2)) rfl) ?_
  refine rl_q rfl rfl rfl (v_lenx (n := s2.length) rfl Try.underlying30 (rd_len (hS.rdr 1 rfl))) ?_
  refine rl_q rfl rfl rfl (v_neq rfl rfl) ?_
  refine rl_end ?_
  by_cases hp : ((s1.length : Nat) : Int) = ((s2.length : Nat) : Int)
  · replace h := h.1 hp
    refine wt_cond_f (congrArg Value.bool (congrArg Bool.not (decide_eq_true hp))) ?_
    refine wt_skip ?_
    refine wt_seq ?_
    refine wt_seq ?_
    refine wl_region wd_wide ?_
    refine rl_q rfl rfl rfl (v_move (v := (Value.slice As1 ls1 cs1)) rfl) ?_
    refine rl_q rfl rfl rfl (v_lenx (n := s1.length) rfl Try.underlying30 (rd_len (hS.rdr 0 rfl))) ?_
    refine rl_q rfl rfl rfl (v_move (v := (Value.int .i64 0)) rfl) ?_
    refine rl_end ?_
    refine wt_block ?_
    obtain ⟨I2, ⟨m0, h0⟩, hr⟩ := h
    refine wt_loop (fun m E ds w' => ∃ v : Int, I2 m v ∧ ds = [] ∧ E 0 = (Value.slice As1 ls1 cs1) ∧ E 1 = (Value.slice As2 ls2 cs2) ∧ E 12 = (Value.int .i64 ((s1.length : Nat) : Int)) ∧ E 13 = (Value.int .i64 v) ∧ Sep w no O w' (rl [Res.ro (FP.sl cI As1 ls1 cs1 s1), Res.ro (FP.sl cI As2 ls2 cs2 s2)])) m0 ⟨_, h0, rfl, rfl, rfl, rfl, rfl, (hS.sel [0, 1] (by decide))⟩ ?_
    clear h0 hS
    rintro m2 E ds w2 ⟨v, h, rfl, hE0, hE1, hE12, hE13, hS⟩ again
    replace h := hr m2 v h
    clear hr
    refine wt_seq ?_
    refine wl_region wd_wide ?_
    refine rl_q rfl rfl rfl (v_lss hE13 hE12) ?_
    refine rl_end ?_
    refine wt_seq ?_
    by_cases hp2 : v < ((s1.length : Nat) : Int)
    · replace h := h.1 hp2
      refine wt_cond_t (congrArg Value.bool (decide_eq_true hp2)) ?_
      refine wt_skip ?_
      refine wt_seq ?_
      refine wt_block ?_
      refine wt_seq ?_
      refine wl_region wd_wide ?_
      refine rl_q rfl rfl rfl (v_move (v := (Value.int .i64 v)) hE13) ?_
      refine rl_q rfl rfl rfl (v_assign (v := (Value.int .i64 v)) rfl) ?_
      refine rl_end ?_
      refine wt_seq ?_
      refine wp_draw [0, 1, 2, 3, 4, 5, 6, 7, 8] st0 wd_wide (by kernel_rfl) (by kernel_rfl) ?_
      replace hS := hS.drew
      refine rp_q rfl rfl rfl (v_move (v := (Value.slice As1 ls1 cs1)) hE0) ?_
      refine rp_q rfl rfl rfl (v_move (v := (Value.int .i64 v)) rfl) ?_
      obtain ⟨hx, h⟩ := h
      refine rp_q rfl rfl rfl (v_iaddr rfl rfl Try.underlying30 info_3 (rd_ix (hS.rdr 0 rfl) hx)) ?_
      refine rp_q rfl rfl rfl (v_load (v := (Value.int .i64 (gi s1 v.toNat))) rfl Try.underlying3 rfl (rd_1 (hS.rdr 0 rfl) hx (fun q => gi_some q) rfl)) ?_
      refine rp_q rfl rfl rfl (v_move (v := (Value.slice As2 ls2 cs2)) hE1) ?_
      refine rp_q rfl rfl rfl (v_move (v := (Value.int .i64 v)) rfl) ?_
      obtain ⟨hx2, h⟩ := h
      refine rp_q rfl rfl rfl (v_iaddr rfl rfl Try.underlying30 info_3 (rd_ix (hS.rdr 1 rfl) hx2)) ?_
      refine rp_q rfl rfl rfl (v_load (v := (Value.int .i64 (gi s2 v.toNat))) rfl Try.underlying3 rfl (rd_1 (hS.rdr 1 rfl) hx2 (fun q => gi_some q) rfl)) ?_
      refine rp_q rfl rfl rfl (v_neq rfl rfl) ?_
      refine rp_end ?_
      by_cases hp3 : (gi s1 v.toNat) = (gi s2 v.toNat)
      · replace h := h.1 hp3
        refine wt_cond_f (congrArg Value.bool (congrArg Bool.not (decide_eq_true hp3))) ?_
        refine wt_skip ?_
        refine wt_inBlock ?_
        refine wl_region wd_wide ?_
        obtain ⟨hi, h⟩ := h
        refine rl_q rfl rfl rfl (v_add hE13 rfl hi) ?_
        refine rl_q rfl rfl rfl (v_move (v := (Value.int .i64 (v + 1))) rfl) ?_
        refine rl_end ?_
        obtain ⟨mq, hlt, h⟩ := h
        exact again mq _ _ _ ⟨_, h, rfl, hE0, hE1, hE12, rfl, (hS.sel [0, 1] (by decide))⟩ hlt
      · replace h := h.2 hp3
        refine wt_cond_t (congrArg Value.bool (congrArg Bool.not (decide_eq_false hp3))) ?_
        refine wt_seq ?_
        refine wl_region wd_wide ?_
        refine rl_q rfl rfl rfl (v_assign (v := (Value.bool (false))) rfl) ?_
        refine rl_end ?_
        exact wt_ret1 rfl rfl ⟨_, rfl, (hS.sel [] (by decide)), h⟩
    · replace h := h.2 hp2
      refine wt_cond_f (congrArg Value.bool (decide_eq_false hp2)) ?_
      refine wt_exit rfl ?_
      refine wt_seq ?_
      refine wl_region wd_wide ?_
      refine rl_q rfl rfl rfl (v_assign (v := (Value.bool (true))) rfl) ?_
      refine rl_end ?_
      exact wt_ret1 rfl rfl ⟨_, rfl, (hS.sel [] (by decide)), h⟩
  · replace h := h.2 hp
    refine wt_cond_t (congrArg Value.bool (congrArg Bool.not (decide_eq_false hp))) ?_
    refine wt_seq ?_
    refine wl_region wd_wide ?_
    refine rl_q rfl rfl rfl (v_assign (v := (Value.bool (false))) rfl) ?_
    refine rl_end ?_
    exact wt_ret1 rfl rfl ⟨_, rfl, (hS.sel [] (by decide)), h⟩

/-- slices.Equal[[]int,int]: what it computes. -/
def pf_slices_Equal_intS (s1 : List Int) (s2 : List Int) (R : Bool → Prop) : Prop :=
((((s1.length : Nat) : Int) = ((s2.length : Nat) : Int) →
(∃ I2 : Nat → Int → Prop, (∃ m0, I2 m0 0) ∧ ∀ (m2 : Nat) (v : Int), I2 m2 v → 
((v < ((s1.length : Nat) : Int) →
((0 ≤ v ∧ v < ((s1.length : Nat) : Int)) ∧
((0 ≤ v ∧ v < ((s2.length : Nat) : Int)) ∧
(((gi s1 v.toNat) = (gi s2 v.toNat) →
(In64 (v + 1) ∧
∃ m3, m3 < m2 ∧ I2 m3 (v + 1))) ∧
(¬ ((gi s1 v.toNat) = (gi s2 v.toNat)) →
R false))))) ∧
(¬ (v < ((s1.length : Nat) : Int)) →
R true)))) ∧
(¬ (((s1.length : Nat) : Int) = ((s2.length : Nat) : Int)) →
R false))
theorem pok_slices_Equal_intS {O : Nat → Prop} {w : World} {s1 : List Int} {s2 : List Int} {As1 : Option Addr} {ls1 : Nat} {cs1 : Nat} {As2 : Option Addr} {ls2 : Nat} {cs2 : Nat} {R : Bool → Prop} (h : pf_slices_Equal_intS s1 s2 R) (hO : ∀ k, O k → k < w.heap.size) (a0 : (FP.sl cI As1 ls1 cs1 s1).P O w) (a1 : (FP.sl cI As2 ls2 cs2 s2).P O w) :
    Calls Try.prog 33 #[(Value.slice As1 ls1 cs1), (Value.slice As2 ls2 cs2)] w fun e w' => ∃ r : Bool, e = .returned (Value.bool (r)) ∧ Sep w no O w' (rl []) ∧ R r := by
  unfold pf_slices_Equal_intS at h
  have hS : Sep w no O w (rl [Res.ro (FP.sl cI As1 ls1 cs1 s1), Res.ro (FP.sl cI As2 ls2 cs2 s2)]) := Sep.startl hO [(FP.sl cI As1 ls1 cs1 s1), (FP.sl cI As2 ls2 cs2 s2)] ⟨a0, a1, trivial⟩
  refine calls_sh (l := [(Value.slice As1 ls1 cs1), (Value.slice As2 ls2 cs2)]) Try.func33 rfl Try.ntmps33 (Nat.le_of_ble_eq_true rfl) ?_
  refine wt_seq ?_
  refine wl_region wd_wide ?_
  refine rl_q rfl rfl rfl (v_assign (v := (Value.bool (false))) rfl) ?_
  refine rl_end ?_
  refine wt_seq ?_
  refine wt_seq ?_
  refine wl_region wd_wide ?_
  refine rl_q rfl rfl rfl (v_move (v := (Value.slice As1 ls1 cs1)) rfl) ?_
  refine rl_q rfl rfl rfl (v_lenx (n := s1.length) rfl Try.underlying25 (rd_len (hS.rdr 0 rfl))) ?_
  refine rl_q rfl rfl rfl (v_move (v := (Value.slice As2 ls2 cs2)) rfl) ?_
  refine rl_q rfl rfl rfl (v_lenx (n := s2.length) rfl Try.underlying25 (rd_len (hS.rdr 1 rfl))) ?_
  refine rl_q rfl rfl rfl (v_neq rfl rfl) ?_
  refine rl_end ?_
  by_cases hp : ((s1.length : Nat) : Int) = ((s2.length : Nat) : Int)
  · replace h := h.1 hp
    refine wt_cond_f (congrArg Value.bool (congrArg Bool.not (decide_eq_true hp))) ?_
    refine wt_skip ?_
    refine wt_seq ?_
    refine wt_seq ?_
    refine wl_region wd_wide ?_
    refine rl_q rfl rfl rfl (v_move (v := (Value.slice As1 ls1 cs1)) rfl) ?_
    refine rl_q rfl rfl rfl (v_lenx (n := s1.length) rfl Try.underlying25 (rd_len (hS.rdr 0 rfl))) ?_
    refine rl_q rfl rfl rfl (v_move (v := (Value.int .i64 0)) rfl) ?_
    refine rl_end ?_
    refine wt_block ?_
    obtain ⟨I2, ⟨m0, h0⟩, hr⟩ := h
    refine wt_loop (fun m E ds w' => ∃ v : Int, I2 m v ∧ ds = [] ∧ E 0 = (Value.slice As1 ls1 cs1) ∧ E 1 = (Value.slice As2 ls2 cs2) ∧ E 12 = (Value.int .i64 ((s1.length : Nat) : Int)) ∧ E 13 = (Value.int .i64 v) ∧ Sep w no O w' (rl [Res.ro (FP.sl cI As1 ls1 cs1 s1), Res.ro (FP.sl cI As2 ls2 cs2 s2)])) m0 ⟨_, h0, rfl, rfl, rfl, rfl, rfl, (hS.sel [0, 1] (by decide))⟩ ?_
    clear h0 hS
    rintro m2 E ds w2 ⟨v, h, rfl, hE0, hE1, hE12, hE13, hS⟩ again
    replace h := hr m2 v h
    clear hr
    refine wt_seq ?_
    refine wl_region wd_wide ?_
    refine rl_q rfl rfl rfl (v_lss hE13 hE12) ?_
    refine rl_end ?_
    refine wt_seq ?_
    by_cases hp2 : v < ((s1.length : Nat) : Int)
    · replace h := h.1 hp2
      refine wt_cond_t (congrArg Value.bool (decide_eq_true hp2)) ?_
      refine wt_skip ?_
      refine wt_seq ?_
      refine wt_block ?_
      refine wt_seq ?_
      refine wl_region wd_wide ?_
      refine rl_q rfl rfl rfl (v_move (v := (Value.int .i64 v)) hE13) ?_
      refine rl_q rfl rfl rfl (v_assign (v := (Value.int .i64 v)) rfl) ?_
      refine rl_end ?_
      refine wt_seq ?_
      refine wp_draw [0, 1, 2, 3, 4, 5, 6, 7, 8] st0 wd_wide (by kernel_rfl) (by kernel_rfl) ?_
      replace hS := hS.drew
      refine rp_q rfl rfl rfl (v_move (v := (Value.slice As1 ls1 cs1)) hE0) ?_
      refine rp_q rfl rfl rfl (v_move (v := (Value.int .i64 v)) rfl) ?_
      obtain ⟨hx, h⟩ := h
      refine rp_q rfl rfl rfl (v_iaddr rfl rfl Try.underlying25 info_3 (rd_ix (hS.rdr 0 rfl) hx)) ?_
      refine rp_q rfl rfl rfl (v_load (v := (Value.int .i64 (gi s1 v.toNat))) rfl Try.underlying3 rfl (rd_1 (hS.rdr 0 rfl) hx (fun q => gi_some q) rfl)) ?_
      refine rp_q rfl rfl rfl (v_move (v := (Value.slice As2 ls2 cs2)) hE1) ?_
      refine rp_q rfl rfl rfl (v_move (v := (Value.int .i64 v)) rfl) ?_
      obtain ⟨hx2, h⟩ := h
      refine rp_q rfl rfl rfl (v_iaddr rfl rfl Try.underlying25 info_3 (rd_ix (hS.rdr 1 rfl) hx2)) ?_
      refine rp_q rfl rfl rfl (v_load (v := (Value.int .i64 (gi s2 v.toNat))) rfl Try.underlying3 rfl (rd_1 (hS.rdr 1 rfl) hx2 (fun q => gi_some q) rfl)) ?_
      refine rp_q rfl rfl rfl (v_neq rfl rfl) ?_
      refine rp_end ?_
      by_cases hp3 : (gi s1 v.toNat) = (gi s2 v.toNat)
      · replace h := h.1 hp3
        refine wt_cond_f (congrArg Value.bool (congrArg Bool.not (decide_eq_true hp3))) ?_
        refine wt_skip ?_
        refine wt_inBlock ?_
        refine wl_region wd_wide ?_
        obtain ⟨hi, h⟩ := h
        refine rl_q rfl rfl rfl (v_add hE13 rfl hi) ?_
        refine rl_q rfl rfl rfl (v_move (v := (Value.int .i64 (v + 1))) rfl) ?_
        refine rl_end ?_
        obtain ⟨mq, hlt, h⟩ := h
        exact again mq _ _ _ ⟨_, h, rfl, hE0, hE1, hE12, rfl, (hS.sel [0, 1] (by decide))⟩ hlt
      · replace h := h.2 hp3
        refine wt_cond_t (congrArg Value.bool (congrArg Bool.not (decide_eq_false hp3))) ?_
        refine wt_seq ?_
        refine wl_region wd_wide ?_
        refine rl_q rfl rfl rfl (v_assign (v := (Value.bool (false))) rfl) ?_
        refine rl_end ?_
        exact wt_ret1 rfl rfl ⟨_, rfl, (hS.sel [] (by decide)), h⟩
    · replace h := h.2 hp2
      refine wt_cond_f (congrArg Value.bool (decide_eq_false hp2)) ?_
      refine wt_exit rfl ?_
      refine wt_seq ?_
      refine wl_region wd_wide ?_
      refine rl_q rfl rfl rfl (v_assign (v := (Value.bool (true))) rfl) ?_
      refine rl_end ?_
      exact wt_ret1 rfl rfl ⟨_, rfl, (hS.sel [] (by decide)), h⟩
  · replace h := h.2 hp
    refine wt_cond_t (congrArg Value.bool (congrArg Bool.not (decide_eq_false hp))) ?_
    refine wt_seq ?_
    refine wl_region wd_wide ?_
    refine rl_q rfl rfl rfl (v_assign (v := (Value.bool (false))) rfl) ?_
    refine rl_end ?_
    exact wt_ret1 rfl rfl ⟨_, rfl, (hS.sel [] (by decide)), h⟩

/-- slices.Clone[sandpile/api.Divisor,int]: what it computes. -/
def pf_slices_Clone_Divisor (s : List Int) (R : (List Int) → Prop) : Prop :=
(∀ nil : Bool, (nil = true → s = []) →
((nil = true →
R ([])) ∧
(¬ (nil = true) →
(0 + s.length ≤ 1000000000 ∧
R ([] ++ s)))))
theorem pok_slices_Clone_Divisor {O : Nat → Prop} {w : World} {s : List Int} {As : Option Addr} {ls : Nat} {cs : Nat} {R : (List Int) → Prop} (h : pf_slices_Clone_Divisor s R) (hO : ∀ k, O k → k < w.heap.size) (a0 : (FP.sl cI As ls cs s).P O w) :
    Calls Try.prog 22 #[(Value.slice As ls cs)] w fun e w' => ∃ r : List Int, ∃ Ar : Option Addr, ∃ lr : Nat, ∃ cr : Nat, e = .returned (Value.slice Ar lr cr) ∧ Sep w no O w' (rl [Res.own cI 3 Ar lr cr r]) ∧ R r := by
  unfold pf_slices_Clone_Divisor at h
  have hS : Sep w no O w (rl [Res.ro (FP.sl cI As ls cs s)]) := Sep.startl hO [(FP.sl cI As ls cs s)] ⟨a0, trivial⟩
  refine calls_sh (l := [(Value.slice As ls cs)]) Try.func22 rfl Try.ntmps22 (Nat.le_of_ble_eq_true rfl) ?_
  refine wt_seq ?_
  refine wl_region wd_wide ?_
  refine rl_q rfl rfl rfl (v_assign (v := (Value.slice none 0 0)) rfl) ?_
  refine rl_end ?_
  refine wt_seq ?_
  refine wt_seq ?_
  refine wl_region wd_wide ?_
  refine rl_q rfl rfl rfl (v_move (v := (Value.slice As ls cs)) rfl) ?_
  obtain ⟨nil, hn⟩ : ∃ b, Option.isNone As = b := ⟨_, rfl⟩
  replace h := h nil (by rw [← hn]; exact rd_nil (hS.rdr 0 rfl))
  refine rl_q rfl rfl rfl (v_seqlx rfl rfl Try.underlying26 hn) ?_
  refine rl_end ?_
  by_cases hp : nil = true
  · replace h := h.1 hp
    refine wt_cond_t (congrArg Value.bool hp) ?_
    refine wt_seq ?_
    refine wl_region wd_wide ?_
    refine rl_q rfl rfl rfl (v_assign (v := (Value.slice none 0 0)) rfl) ?_
    refine rl_end ?_
    replace hS := hS.nil 1 rfl cI 3
    exact wt_ret1 rfl rfl ⟨_, _, _, _, rfl, (hS.sel [1] (by decide)), h⟩
  · replace h := h.2 hp
    refine wt_cond_f (congrArg Value.bool (Bool.eq_false_iff.2 hp)) ?_
    refine wt_skip ?_
    refine wt_seq ?_
    refine wl_region wd_wide ?_
    refine rl_n rfl rfl rfl rfl (n_bslice (l := []) (cells := []) (bp0) Try.underlying26 info_3 rfl rfl ?_)
    intro g w2 hN
    replace hS := hS.litf (n := 0) 1 rfl (fI .i64) hN ([] : List Int) rfl (by decide) rfl
    clear hN
    refine ⟨Stb.none _, ?_⟩
    refine rl_q rfl rfl rfl (v_move (v := (Value.slice As ls cs)) rfl) ?_
    obtain ⟨hx, h⟩ := h
    refine rl_n rfl rfl rfl rfl (n_app (c := cI) rfl rfl Try.underlying26 Try.underlying26 info_3 rfl rfl (by decide) hS 1 rfl (hS.yr 0 rfl) hx ?_)
    clear hS
    intro A c w3 hS
    refine ⟨Stb.none _, ?_⟩
    refine rl_q rfl rfl rfl (v_assign (v := (Value.slice A (0 + ls) c)) rfl) ?_
    refine rl_end ?_
    exact wt_ret1 rfl rfl ⟨_, _, _, _, rfl, (hS.sel [1] (by decide)), h⟩
end Go.Proofs.Ytnhmeckhlajeaaa

/- Pure forms of functions, made by program (pf.py), each with the proof that the code does so. -/
namespace Go.Proofs.Ytnhmeckhlajeaaa
open Go Go.RowKit Go.Shelf
set_option linter.unusedVariables false
set_option maxRecDepth 100000
set_option maxHeartbeats 1000000
/-- sandpile/sandpileref25.out: what it computes. -/
def pf_r25_out (g : Int) (g2 : List (Int × Int × Int)) (set2 : Int) (v : Int) (R : Int → Prop) : Prop :=
(∃ I2 : Nat → Int → Int → Prop, (∃ m0, I2 m0 0 0) ∧ ∀ (m2 : Nat) (n : Int) (u : Int), I2 m2 n u → 
((u < g →
(∃ J2 : Prop, (J2 → pf_r08_Between g g2 u v (fun (r : Int) =>
(In64 (n + r) ∧
(In64 (u + 1) ∧
∃ m3, m3 < m2 ∧ I2 m3 (n + r) (u + 1))))) ∧
((u = v →
(In64 (u + 1) ∧
∃ m4, m4 < m2 ∧ I2 m4 n (u + 1))) ∧
(¬ (u = v) →
((0 ≤ u ∧ u < 64) ∧
((0 ≤ (set2 / 2 ^ u.toNat) ∧ (set2 / 2 ^ u.toNat) < 9223372036854775808 ∧ 0 ≤ (1 : Int) ∧ (1 : Int) < 9223372036854775808) ∧
(((((set2 / 2 ^ u.toNat).toNat &&& (1 : Int).toNat : Nat) : Int) = 0 →
J2) ∧
(¬ ((((set2 / 2 ^ u.toNat).toNat &&& (1 : Int).toNat : Nat) : Int) = 0) →
(In64 (u + 1) ∧
∃ m5, m5 < m2 ∧ I2 m5 n (u + 1)))))))))) ∧
(¬ (u < g) →
R n)))
theorem pok_r25_out {O : Nat → Prop} {w : World} {g : Int} {g2 : List (Int × Int × Int)} {set2 : Int} {v : Int} {Ag : Option Addr} {lg : Nat} {cg : Nat} {R : Int → Prop} (h : pf_r25_out g g2 set2 v R) (hO : ∀ k, O k → k < w.heap.size) (a0 : (FP.sl c3 Ag lg cg g2).P O w) :
    Calls Try.prog 157 #[(Value.agg #[(Value.int .i64 g), (Value.slice Ag lg cg)]), (Value.int .i64 set2), (Value.int .i64 v)] w fun e w' => ∃ r2 : Int, e = .returned (Value.int .i64 r2) ∧ Sep w no O w' (rl []) ∧ R r2 := by
  unfold pf_r25_out at h
  have hS : Sep w no O w (rl [Res.ro (FP.sl c3 Ag lg cg g2)]) := Sep.startl hO [(FP.sl c3 Ag lg cg g2)] ⟨a0, trivial⟩
  refine calls_sh (l := [(Value.agg #[(Value.int .i64 g), (Value.slice Ag lg cg)]), (Value.int .i64 set2), (Value.int .i64 v)]) Try.func157 rfl Try.ntmps157 (Nat.le_of_ble_eq_true rfl) ?_
  refine wt_seq ?_
  refine wl_region wd_wide ?_
  refine rl_n rfl rfl rfl rfl (n_box (v := (Value.agg #[(Value.int .i64 g), (Value.slice Ag lg cg)])) rfl ?_)
  intro g3 w2 hN
  replace hS : Sep w no O w2 (stl _ 1 (Res.box 24 g3 [(Value.int .i64 g), (Value.slice Ag lg cg)])) := hS.new 1 rfl hN
  clear hN
  refine ⟨Stb.none _, ?_⟩
  refine rl_q rfl rfl rfl (v_assign (v := (Value.int .i64 0)) rfl) ?_
  refine rl_end ?_
  refine wt_seq ?_
  refine wl_region wd_wide ?_
  refine rl_q rfl rfl rfl (v_assign (v := (Value.int .i64 0)) rfl) ?_
  refine rl_end ?_
  refine wt_seq ?_
  refine wt_seq ?_
  refine wl_region wd_wide ?_
  refine rl_q rfl rfl rfl (v_assign (v := (Value.int .i64 0)) rfl) ?_
  refine rl_end ?_
  refine wt_block ?_
  obtain ⟨I2, ⟨m0, h0⟩, hr⟩ := h
  refine wt_loop (fun m E ds w' => ∃ n : Int, ∃ u : Int, I2 m n u ∧ ds = [] ∧ E 1 = (Value.int .i64 set2) ∧ E 2 = (Value.int .i64 v) ∧ E 3 = (Value.pointer (some (⟨g3, 0, none⟩ : Addr))) ∧ E 7 = (Value.int .i64 n) ∧ E 8 = (Value.int .i64 u) ∧ Sep w no O w' (rl [Res.box 24 g3 [(Value.int .i64 g), (Value.slice Ag lg cg)], Res.ro (FP.sl c3 Ag lg cg g2)])) m0 ⟨_, _, h0, rfl, rfl, rfl, rfl, rfl, rfl, (hS.sel [1, 0] (by decide))⟩ ?_
  clear h0 hS
  rintro m2 E ds w3 ⟨n, u, h, rfl, hE1, hE2, hE3, hE7, hE8, hS⟩ again
  replace h := hr m2 n u h
  clear hr
  refine wt_seq ?_
  refine wt_seq ?_
  refine wl_region wd_wide ?_
  refine rl_q rfl rfl rfl (v_move (v := (Value.int .i64 u)) hE8) ?_
  refine rl_q rfl rfl rfl (v_faddr hE3 Try.underlying24 rfl info_3) ?_
  refine rl_q rfl rfl rfl (v_load rfl Try.underlying3 rfl (Row.cell (hS.bx 0 rfl) (i := 0) rfl)) ?_
  refine rl_q rfl rfl rfl (v_lss rfl rfl) ?_
  refine rl_end ?_
  by_cases hp : u < g
  · replace h := h.1 hp
    refine wt_cond_t (congrArg Value.bool (decide_eq_true hp)) ?_
    refine wt_skip ?_
    refine wt_seq ?_
    refine wt_block ?_
    refine wt_seq ?_
    obtain ⟨J2, hJ, h⟩ := h
    refine wt_cutA1 (fun E ds w' => J2 ∧ ds = [] ∧ E 1 = (Value.int .i64 set2) ∧ E 2 = (Value.int .i64 v) ∧ E 3 = (Value.pointer (some (⟨g3, 0, none⟩ : Addr))) ∧ E 7 = (Value.int .i64 n) ∧ E 8 = (Value.int .i64 u) ∧ Sep w no O w' (rl [Res.box 24 g3 [(Value.int .i64 g), (Value.slice Ag lg cg)], Res.ro (FP.sl c3 Ag lg cg g2)])) ?_ ?_
    · clear h hS
      rintro E ds w4 ⟨h, rfl, hE1, hE2, hE3, hE7, hE8, hS⟩
      replace h := hJ h
      refine wl_region wd_wide ?_
      refine rl_q rfl rfl rfl (v_move (v := (Value.int .i64 n)) hE7) ?_
      refine rl_q rfl rfl rfl (v_loadn (vs := [(Value.int .i64 g), (Value.slice Ag lg cg)]) hE3 Try.underlying24 rfl info_24 ⟨Row.cell (hS.bx 0 rfl) (i := 0) rfl, Row.cell (hS.bx 0 rfl) (i := 1) rfl, trivial⟩) ?_
      refine rl_q rfl rfl rfl (v_move (v := (Value.int .i64 u)) hE8) ?_
      refine rl_q rfl rfl rfl (v_move (v := (Value.int .i64 v)) hE2) ?_
      refine rl_n rfl rfl rfl rfl (n_call0 rfl (am3 rfl rfl rfl) enter_136 ((pok_r08_Between h (no_lt _) (hS.rdr 1 rfl)).mono ?_))
      rintro _ w5 ⟨r, rfl, hC, h⟩
      replace hS := hS.pur hC.pure
      clear hC
      refine ⟨_, rfl, ?_⟩
      refine ⟨Stb.none _, ?_⟩
      obtain ⟨hi, h⟩ := h
      refine rl_q rfl rfl rfl (v_add rfl rfl hi) ?_
      refine rl_q rfl rfl rfl (v_assign (v := (Value.int .i64 (n + r))) rfl) ?_
      refine rl_end ?_
      refine wt_inBlock ?_
      refine wl_region wd_wide ?_
      refine rl_q rfl rfl rfl (v_move (v := (Value.int .i64 u)) hE8) ?_
      obtain ⟨hi2, h⟩ := h
      refine rl_q rfl rfl rfl (v_add rfl rfl hi2) ?_
      refine rl_q rfl rfl rfl (v_assign (v := (Value.int .i64 (u + 1))) rfl) ?_
      refine rl_end ?_
      obtain ⟨mq, hlt, h⟩ := h
      exact again mq _ _ _ ⟨_, _, h, rfl, hE1, hE2, hE3, rfl, rfl, (hS.sel [0, 1] (by decide))⟩ hlt
    clear hJ
    intro j
    refine wl_region wd_wide ?_
    refine rl_q rfl rfl rfl (v_move (v := (Value.int .i64 u)) hE8) ?_
    refine rl_q rfl rfl rfl (v_move (v := (Value.int .i64 v)) hE2) ?_
    refine rl_q rfl rfl rfl (v_neq rfl rfl) ?_
    refine rl_q rfl rfl rfl (v_move (v := (Value.bool (!(decide (u = v))))) rfl) ?_
    by_cases hp2 : u = v
    · replace h := h.1 hp2
      refine rl_p (wanted_n rfl (yE_of rfl (congrArg Value.bool (congrArg Bool.not (decide_eq_true hp2)))) rfl) rfl ?_
      refine rl_p (wanted_n rfl (yE_of rfl (congrArg Value.bool (congrArg Bool.not (decide_eq_true hp2)))) rfl) rfl ?_
      refine rl_p (wanted_n rfl (yE_of rfl (congrArg Value.bool (congrArg Bool.not (decide_eq_true hp2)))) rfl) rfl ?_
      refine rl_p (wanted_n rfl (yE_of rfl (congrArg Value.bool (congrArg Bool.not (decide_eq_true hp2)))) rfl) rfl ?_
      refine rl_p (wanted_n rfl (yE_of rfl (congrArg Value.bool (congrArg Bool.not (decide_eq_true hp2)))) rfl) rfl ?_
      refine rl_q rfl rfl rfl (v_pick_f (v := (Value.bool (false))) (congrArg Value.bool (congrArg Bool.not (decide_eq_true hp2))) rfl) ?_
      refine rl_end ?_
      refine wt_cond_f rfl ?_
      refine wt_skip ?_
      refine wt_inBlock ?_
      refine wl_region wd_wide ?_
      refine rl_q rfl rfl rfl (v_move (v := (Value.int .i64 u)) hE8) ?_
      obtain ⟨hi3, h⟩ := h
      refine rl_q rfl rfl rfl (v_add rfl rfl hi3) ?_
      refine rl_q rfl rfl rfl (v_assign (v := (Value.int .i64 (u + 1))) rfl) ?_
      refine rl_end ?_
      obtain ⟨mq, hlt, h⟩ := h
      exact again mq _ _ _ ⟨_, _, h, rfl, hE1, hE2, hE3, hE7, rfl, (hS.sel [0, 1] (by decide))⟩ hlt
    · replace h := h.2 hp2
      refine rl_q (wanted_g rfl (yE_of rfl (congrArg Value.bool (congrArg Bool.not (decide_eq_false hp2))))) rfl rfl (v_move (v := (Value.int .i64 set2)) hE1) ?_
      refine rl_q (wanted_g rfl (yE_of rfl (congrArg Value.bool (congrArg Bool.not (decide_eq_false hp2))))) rfl rfl (v_move (v := (Value.int .i64 u)) hE8) ?_
      obtain ⟨hz, h⟩ := h
      refine rl_q (wanted_g rfl (yE_of rfl (congrArg Value.bool (congrArg Bool.not (decide_eq_false hp2))))) rfl rfl (v_shr rfl rfl hz) ?_
      obtain ⟨hz2, h⟩ := h
      refine rl_q (wanted_g rfl (yE_of rfl (congrArg Value.bool (congrArg Bool.not (decide_eq_false hp2))))) rfl rfl (v_andb rfl rfl hz2) ?_
      refine rl_q (wanted_g rfl (yE_of rfl (congrArg Value.bool (congrArg Bool.not (decide_eq_false hp2))))) rfl rfl (v_eql rfl rfl) ?_
      refine rl_q rfl rfl rfl (v_pick_t (v := (Value.bool (decide ((((set2 / 2 ^ u.toNat).toNat &&& (1 : Int).toNat : Nat) : Int) = 0)))) (congrArg Value.bool (congrArg Bool.not (decide_eq_false hp2))) rfl) ?_
      refine rl_end ?_
      by_cases hp3 : (((set2 / 2 ^ u.toNat).toNat &&& (1 : Int).toNat : Nat) : Int) = 0
      · replace h := h.1 hp3
        refine wt_cond_t (congrArg Value.bool (decide_eq_true hp3)) ?_
        exact j _ _ _ ⟨h, rfl, hE1, hE2, hE3, hE7, hE8, (hS.sel [0, 1] (by decide))⟩
      · replace h := h.2 hp3
        refine wt_cond_f (congrArg Value.bool (decide_eq_false hp3)) ?_
        refine wt_skip ?_
        refine wt_inBlock ?_
        refine wl_region wd_wide ?_
        refine rl_q rfl rfl rfl (v_move (v := (Value.int .i64 u)) hE8) ?_
        obtain ⟨hi4, h⟩ := h
        refine rl_q rfl rfl rfl (v_add rfl rfl hi4) ?_
        refine rl_q rfl rfl rfl (v_assign (v := (Value.int .i64 (u + 1))) rfl) ?_
        refine rl_end ?_
        obtain ⟨mq, hlt, h⟩ := h
        exact again mq _ _ _ ⟨_, _, h, rfl, hE1, hE2, hE3, hE7, rfl, (hS.sel [0, 1] (by decide))⟩ hlt
  · replace h := h.2 hp
    refine wt_cond_f (congrArg Value.bool (decide_eq_false hp)) ?_
    refine wt_exit rfl ?_
    refine wt_seq ?_
    refine wl_region wd_wide ?_
    refine rl_q rfl rfl rfl (v_move (v := (Value.int .i64 n)) hE7) ?_
    refine rl_q rfl rfl rfl (v_assign (v := (Value.int .i64 n)) rfl) ?_
    refine rl_end ?_
    exact wt_ret1 rfl rfl ⟨_, rfl, (hS.sel [] (by decide)), h⟩

/-- sandpile/sandpileref25.May: what it computes. -/
def pf_r25_May (g : Int) (g2 : List (Int × Int × Int)) (d : List Int) (set2 : Int) (R : Bool → Prop) : Prop :=
(∃ I2 : Nat → Int → Prop, (∃ m0, I2 m0 0) ∧ ∀ (m2 : Nat) (v : Int), I2 m2 v → 
((v < g →
((0 ≤ v ∧ v < 64) ∧
((0 ≤ (set2 / 2 ^ v.toNat) ∧ (set2 / 2 ^ v.toNat) < 9223372036854775808 ∧ 0 ≤ (1 : Int) ∧ (1 : Int) < 9223372036854775808) ∧
(((((set2 / 2 ^ v.toNat).toNat &&& (1 : Int).toNat : Nat) : Int) = 1 →
((0 ≤ v ∧ v < ((d.length : Nat) : Int)) ∧
pf_r25_out g g2 set2 v (fun (r : Int) =>
(((gi d v.toNat) < r →
R false) ∧
(¬ ((gi d v.toNat) < r) →
(In64 (v + 1) ∧
∃ m3, m3 < m2 ∧ I2 m3 (v + 1))))))) ∧
(¬ ((((set2 / 2 ^ v.toNat).toNat &&& (1 : Int).toNat : Nat) : Int) = 1) →
(In64 (v + 1) ∧
∃ m4, m4 < m2 ∧ I2 m4 (v + 1))))))) ∧
(¬ (v < g) →
R true)))
theorem pok_r25_May {O : Nat → Prop} {w : World} {g : Int} {g2 : List (Int × Int × Int)} {d : List Int} {set2 : Int} {Ag : Option Addr} {lg : Nat} {cg : Nat} {Ad : Option Addr} {ld : Nat} {cd : Nat} {R : Bool → Prop} (h : pf_r25_May g g2 d set2 R) (hO : ∀ k, O k → k < w.heap.size) (a0 : (FP.sl c3 Ag lg cg g2).P O w) (a1 : (FP.sl cI Ad ld cd d).P O w) :
    Calls Try.prog 125 #[(Value.agg #[(Value.int .i64 g), (Value.slice Ag lg cg)]), (Value.slice Ad ld cd), (Value.int .i64 set2)] w fun e w' => ∃ r2 : Bool, e = .returned (Value.bool (r2)) ∧ Sep w no O w' (rl []) ∧ R r2 := by
  unfold pf_r25_May at h
  have hS : Sep w no O w (rl [Res.ro (FP.sl c3 Ag lg cg g2), Res.ro (FP.sl cI Ad ld cd d)]) := Sep.startl hO [(FP.sl c3 Ag lg cg g2), (FP.sl cI Ad ld cd d)] ⟨a0, a1, trivial⟩
  refine calls_sh (l := [(Value.agg #[(Value.int .i64 g), (Value.slice Ag lg cg)]), (Value.slice Ad ld cd), (Value.int .i64 set2)]) Try.func125 rfl Try.ntmps125 (Nat.le_of_ble_eq_true rfl) ?_
  refine wt_seq ?_
  refine wl_region wd_wide ?_
  refine rl_n rfl rfl rfl rfl (n_box (v := (Value.agg #[(Value.int .i64 g), (Value.slice Ag lg cg)])) rfl ?_)
  intro g3 w2 hN
  replace hS : Sep w no O w2 (stl _ 2 (Res.box 24 g3 [(Value.int .i64 g), (Value.slice Ag lg cg)])) := hS.new 2 rfl hN
  clear hN
  refine ⟨Stb.none _, ?_⟩
  refine rl_q rfl rfl rfl (v_assign (v := (Value.bool (false))) rfl) ?_
  refine rl_end ?_
  refine wt_seq ?_
  refine wt_seq ?_
  refine wl_region wd_wide ?_
  refine rl_q rfl rfl rfl (v_assign (v := (Value.int .i64 0)) rfl) ?_
  refine rl_end ?_
  refine wt_block ?_
  obtain ⟨I2, ⟨m0, h0⟩, hr⟩ := h
  refine wt_loop (fun m E ds w' => ∃ v : Int, I2 m v ∧ ds = [] ∧ E 1 = (Value.slice Ad ld cd) ∧ E 2 = (Value.int .i64 set2) ∧ E 3 = (Value.pointer (some (⟨g3, 0, none⟩ : Addr))) ∧ E 7 = (Value.int .i64 v) ∧ Sep w no O w' (rl [Res.ro (FP.sl cI Ad ld cd d), Res.box 24 g3 [(Value.int .i64 g), (Value.slice Ag lg cg)], Res.ro (FP.sl c3 Ag lg cg g2)])) m0 ⟨_, h0, rfl, rfl, rfl, rfl, rfl, (hS.sel [1, 2, 0] (by decide))⟩ ?_
  clear h0 hS
  rintro m2 E ds w3 ⟨v, h, rfl, hE1, hE2, hE3, hE7, hS⟩ again
  replace h := hr m2 v h
  clear hr
  refine wt_seq ?_
  refine wt_seq ?_
  refine wl_region wd_wide ?_
  refine rl_q rfl rfl rfl (v_move (v := (Value.int .i64 v)) hE7) ?_
  refine rl_q rfl rfl rfl (v_faddr hE3 Try.underlying24 rfl info_3) ?_
  refine rl_q rfl rfl rfl (v_load rfl Try.underlying3 rfl (Row.cell (hS.bx 1 rfl) (i := 0) rfl)) ?_
  refine rl_q rfl rfl rfl (v_lss rfl rfl) ?_
  refine rl_end ?_
  by_cases hp : v < g
  · replace h := h.1 hp
    refine wt_cond_t (congrArg Value.bool (decide_eq_true hp)) ?_
    refine wt_skip ?_
    refine wt_seq ?_
    refine wt_block ?_
    refine wt_seq ?_
    refine wp_draw [0, 1, 2, 3, 4, 5, 6, 7, 8, 9, 10, 11, 12, 13, 14, 15] (fun i => match i with | 13 => [6, 7, 8, 9] | _ => []) wd_wide (by kernel_rfl) (by kernel_rfl) ?_
    replace hS := hS.drew
    refine rp_q rfl rfl rfl (v_move (v := (Value.int .i64 set2)) hE2) ?_
    refine rp_q rfl rfl rfl (v_move (v := (Value.int .i64 v)) hE7) ?_
    obtain ⟨hz, h⟩ := h
    refine rp_q rfl rfl rfl (v_shr rfl rfl hz) ?_
    obtain ⟨hz2, h⟩ := h
    refine rp_q rfl rfl rfl (v_andb rfl rfl hz2) ?_
    refine rp_q rfl rfl rfl (v_eql rfl rfl) ?_
    refine rp_q rfl rfl rfl (v_move (v := (Value.bool (decide ((((set2 / 2 ^ v.toNat).toNat &&& (1 : Int).toNat : Nat) : Int) = 1)))) rfl) ?_
    by_cases hp2 : (((set2 / 2 ^ v.toNat).toNat &&& (1 : Int).toNat : Nat) : Int) = 1
    · replace h := h.1 hp2
      refine rp_q (wanted_g rfl (yE_of rfl (congrArg Value.bool (decide_eq_true hp2)))) rfl rfl (v_move (v := (Value.slice Ad ld cd)) hE1) ?_
      refine rp_q (wanted_g rfl (yE_of rfl (congrArg Value.bool (decide_eq_true hp2)))) rfl rfl (v_move (v := (Value.int .i64 v)) hE7) ?_
      obtain ⟨hx, h⟩ := h
      refine rp_q (wanted_g rfl (yE_of rfl (congrArg Value.bool (decide_eq_true hp2)))) rfl rfl (v_iaddr rfl rfl Try.underlying25 info_3 (rd_ix (hS.rdr 0 rfl) hx)) ?_
      refine rp_q (wanted_g rfl (yE_of rfl (congrArg Value.bool (decide_eq_true hp2)))) rfl rfl (v_load (v := (Value.int .i64 (gi d v.toNat))) rfl Try.underlying3 rfl (rd_1 (hS.rdr 0 rfl) hx (fun q => gi_some q) rfl)) ?_
      refine rp_q (wanted_g rfl (yE_of rfl (congrArg Value.bool (decide_eq_true hp2)))) rfl rfl (v_loadn (vs := [(Value.int .i64 g), (Value.slice Ag lg cg)]) hE3 Try.underlying24 rfl info_24 ⟨Row.cell (hS.bx 1 rfl) (i := 0) rfl, Row.cell (hS.bx 1 rfl) (i := 1) rfl, trivial⟩) ?_
      refine rp_q (wanted_g rfl (yE_of rfl (congrArg Value.bool (decide_eq_true hp2)))) rfl rfl (v_move (v := (Value.int .i64 set2)) hE2) ?_
      refine rp_q (wanted_g rfl (yE_of rfl (congrArg Value.bool (decide_eq_true hp2)))) rfl rfl (v_move (v := (Value.int .i64 v)) hE7) ?_
      refine rp_n (wanted_g rfl (yE_of rfl (congrArg Value.bool (decide_eq_true hp2)))) rfl rfl rfl (n_call0 rfl (am3 rfl rfl rfl) enter_157 ((pok_r25_out h (no_lt _) (hS.rdr 2 rfl)).mono ?_))
      rintro _ w4 ⟨r, rfl, hC, h⟩
      replace hS := hS.pur hC.pure
      clear hC
      refine ⟨_, rfl, ?_⟩
      refine ⟨⟨fun hh => Bool.noConfusion (show false = true from hh), ⟨fun hh => Bool.noConfusion (show false = true from hh), ⟨fun hh => Bool.noConfusion (show false = true from hh), ⟨fun _ => (v_load (v := (Value.int .i64 (gi d v.toNat))) rfl Try.underlying3 rfl (rd_1 (hS.rdr 0 rfl) hx (fun q => gi_some q) rfl)), ⟨fun _ => (v_iaddr rfl rfl Try.underlying25 info_3 (rd_ix (hS.rdr 0 rfl) hx)), ⟨fun _ => (v_move (v := (Value.int .i64 v)) hE7), ⟨fun _ => (v_move (v := (Value.slice Ad ld cd)) hE1), ⟨fun hh => Bool.noConfusion (show false = true from hh), ⟨fun hh => Bool.noConfusion (show false = true from hh), ⟨fun hh => Bool.noConfusion (show false = true from hh), ⟨fun hh => Bool.noConfusion (show false = true from hh), ⟨fun hh => Bool.noConfusion (show false = true from hh), ⟨fun hh => Bool.noConfusion (show false = true from hh), trivial⟩⟩⟩⟩⟩⟩⟩⟩⟩⟩⟩⟩⟩, ?_⟩
      refine rp_q (wanted_g rfl (yE_of rfl (congrArg Value.bool (decide_eq_true hp2)))) rfl rfl (v_lss rfl rfl) ?_
      refine rp_q rfl rfl rfl (v_pick_t (v := (Value.bool (decide ((gi d v.toNat) < r)))) (congrArg Value.bool (decide_eq_true hp2)) rfl) ?_
      refine rp_end ?_
      by_cases hp3 : (gi d v.toNat) < r
      · replace h := h.1 hp3
        refine wt_cond_t (congrArg Value.bool (decide_eq_true hp3)) ?_
        refine wt_seq ?_
        refine wl_region wd_wide ?_
        refine rl_q rfl rfl rfl (v_assign (v := (Value.bool (false))) rfl) ?_
        refine rl_end ?_
        exact wt_ret1 rfl rfl ⟨_, rfl, (hS.sel [] (by decide)), h⟩
      · replace h := h.2 hp3
        refine wt_cond_f (congrArg Value.bool (decide_eq_false hp3)) ?_
        refine wt_skip ?_
        refine wt_inBlock ?_
        refine wl_region wd_wide ?_
        refine rl_q rfl rfl rfl (v_move (v := (Value.int .i64 v)) hE7) ?_
        obtain ⟨hi, h⟩ := h
        refine rl_q rfl rfl rfl (v_add rfl rfl hi) ?_
        refine rl_q rfl rfl rfl (v_assign (v := (Value.int .i64 (v + 1))) rfl) ?_
        refine rl_end ?_
        obtain ⟨mq, hlt, h⟩ := h
        exact again mq _ _ _ ⟨_, h, rfl, hE1, hE2, hE3, rfl, (hS.sel [0, 1, 2] (by decide))⟩ hlt
    · replace h := h.2 hp2
      refine rp_p (wanted_n rfl (yE_of rfl (congrArg Value.bool (decide_eq_false hp2))) rfl) rfl ?_
      refine rp_p (wanted_n rfl (yE_of rfl (congrArg Value.bool (decide_eq_false hp2))) rfl) rfl ?_
      refine rp_p (wanted_n rfl (yE_of rfl (congrArg Value.bool (decide_eq_false hp2))) rfl) rfl ?_
      refine rp_p (wanted_n rfl (yE_of rfl (congrArg Value.bool (decide_eq_false hp2))) rfl) rfl ?_
      refine rp_p (wanted_n rfl (yE_of rfl (congrArg Value.bool (decide_eq_false hp2))) rfl) rfl ?_
      refine rp_p (wanted_n rfl (yE_of rfl (congrArg Value.bool (decide_eq_false hp2))) rfl) rfl ?_
      refine rp_p (wanted_n rfl (yE_of rfl (congrArg Value.bool (decide_eq_false hp2))) rfl) rfl ?_
      refine rp_p (wanted_n rfl (yE_of rfl (congrArg Value.bool (decide_eq_false hp2))) rfl) rfl ?_
      refine rp_p (wanted_n rfl (yE_of rfl (congrArg Value.bool (decide_eq_false hp2))) rfl) rfl ?_
      refine rp_q rfl rfl rfl (v_pick_f (v := (Value.bool (false))) (congrArg Value.bool (decide_eq_false hp2)) rfl) ?_
      refine rp_end ?_
      refine wt_cond_f rfl ?_
      refine wt_skip ?_
      refine wt_inBlock ?_
      refine wl_region wd_wide ?_
      refine rl_q rfl rfl rfl (v_move (v := (Value.int .i64 v)) hE7) ?_
      obtain ⟨hi2, h⟩ := h
      refine rl_q rfl rfl rfl (v_add rfl rfl hi2) ?_
      refine rl_q rfl rfl rfl (v_assign (v := (Value.int .i64 (v + 1))) rfl) ?_
      refine rl_end ?_
      obtain ⟨mq, hlt, h⟩ := h
      exact again mq _ _ _ ⟨_, h, rfl, hE1, hE2, hE3, rfl, (hS.sel [0, 1, 2] (by decide))⟩ hlt
  · replace h := h.2 hp
    refine wt_cond_f (congrArg Value.bool (decide_eq_false hp)) ?_
    refine wt_exit rfl ?_
    refine wt_seq ?_
    refine wl_region wd_wide ?_
    refine rl_q rfl rfl rfl (v_assign (v := (Value.bool (true))) rfl) ?_
    refine rl_end ?_
    exact wt_ret1 rfl rfl ⟨_, rfl, (hS.sel [] (by decide)), h⟩

/-- sandpile/sandpileref25.Tight: what it computes. -/
def pf_r25_Tight (g : Int) (g2 : List (Int × Int × Int)) (q : Int) (d : List Int) (R : Bool → Prop) : Prop :=
(∃ I2 : Nat → Int → Prop, (∃ m0, I2 m0 1) ∧ ∀ (m2 : Nat) (set2 : Int), I2 m2 set2 → 
((0 ≤ g ∧ g < 64) ∧
In64 (1 * 2 ^ g.toNat) ∧
((set2 < (1 * 2 ^ g.toNat) →
((0 ≤ q ∧ q < 64) ∧
((0 ≤ (set2 / 2 ^ q.toNat) ∧ (set2 / 2 ^ q.toNat) < 9223372036854775808 ∧ 0 ≤ (1 : Int) ∧ (1 : Int) < 9223372036854775808) ∧
(((((set2 / 2 ^ q.toNat).toNat &&& (1 : Int).toNat : Nat) : Int) = 0 →
pf_r25_May g g2 d set2 (fun (r : Bool) =>
((r = true →
R false) ∧
(¬ (r = true) →
(In64 (set2 + 1) ∧
∃ m3, m3 < m2 ∧ I2 m3 (set2 + 1)))))) ∧
(¬ ((((set2 / 2 ^ q.toNat).toNat &&& (1 : Int).toNat : Nat) : Int) = 0) →
(In64 (set2 + 1) ∧
∃ m4, m4 < m2 ∧ I2 m4 (set2 + 1))))))) ∧
(¬ (set2 < (1 * 2 ^ g.toNat)) →
R true))))
theorem pok_r25_Tight {O : Nat → Prop} {w : World} {g : Int} {g2 : List (Int × Int × Int)} {q : Int} {d : List Int} {Ag : Option Addr} {lg : Nat} {cg : Nat} {Ad : Option Addr} {ld : Nat} {cd : Nat} {R : Bool → Prop} (h : pf_r25_Tight g g2 q d R) (hO : ∀ k, O k → k < w.heap.size) (a0 : (FP.sl c3 Ag lg cg g2).P O w) (a1 : (FP.sl cI Ad ld cd d).P O w) :
    Calls Try.prog 124 #[(Value.agg #[(Value.int .i64 g), (Value.slice Ag lg cg)]), (Value.int .i64 q), (Value.slice Ad ld cd)] w fun e w' => ∃ r2 : Bool, e = .returned (Value.bool (r2)) ∧ Sep w no O w' (rl []) ∧ R r2 := by
  unfold pf_r25_Tight at h
  have hS : Sep w no O w (rl [Res.ro (FP.sl c3 Ag lg cg g2), Res.ro (FP.sl cI Ad ld cd d)]) := Sep.startl hO [(FP.sl c3 Ag lg cg g2), (FP.sl cI Ad ld cd d)] ⟨a0, a1, trivial⟩
  refine calls_sh (l := [(Value.agg #[(Value.int .i64 g), (Value.slice Ag lg cg)]), (Value.int .i64 q), (Value.slice Ad ld cd)]) Try.func124 rfl Try.ntmps124 (Nat.le_of_ble_eq_true rfl) ?_
  refine wt_seq ?_
  refine wl_region wd_wide ?_
  refine rl_n rfl rfl rfl rfl (n_box (v := (Value.agg #[(Value.int .i64 g), (Value.slice Ag lg cg)])) rfl ?_)
  intro g3 w2 hN
  replace hS : Sep w no O w2 (stl _ 2 (Res.box 24 g3 [(Value.int .i64 g), (Value.slice Ag lg cg)])) := hS.new 2 rfl hN
  clear hN
  refine ⟨Stb.none _, ?_⟩
  refine rl_q rfl rfl rfl (v_assign (v := (Value.bool (false))) rfl) ?_
  refine rl_end ?_
  refine wt_seq ?_
  refine wt_seq ?_
  refine wl_region wd_wide ?_
  refine rl_q rfl rfl rfl (v_assign (v := (Value.int .i64 1)) rfl) ?_
  refine rl_end ?_
  refine wt_block ?_
  obtain ⟨I2, ⟨m0, h0⟩, hr⟩ := h
  refine wt_loop (fun m E ds w' => ∃ set2 : Int, I2 m set2 ∧ ds = [] ∧ E 1 = (Value.int .i64 q) ∧ E 2 = (Value.slice Ad ld cd) ∧ E 3 = (Value.pointer (some (⟨g3, 0, none⟩ : Addr))) ∧ E 7 = (Value.int .i64 set2) ∧ Sep w no O w' (rl [Res.ro (FP.sl cI Ad ld cd d), Res.box 24 g3 [(Value.int .i64 g), (Value.slice Ag lg cg)], Res.ro (FP.sl c3 Ag lg cg g2)])) m0 ⟨_, h0, rfl, rfl, rfl, rfl, rfl, (hS.sel [1, 2, 0] (by decide))⟩ ?_
  clear h0 hS
  rintro m2 E ds w3 ⟨set2, h, rfl, hE1, hE2, hE3, hE7, hS⟩ again
  replace h := hr m2 set2 h
  clear hr
  refine wt_seq ?_
  refine wt_seq ?_
  refine wl_region wd_wide ?_
  refine rl_q rfl rfl rfl (v_move (v := (Value.int .i64 set2)) hE7) ?_
  refine rl_q rfl rfl rfl (v_faddr hE3 Try.underlying24 rfl info_3) ?_
  refine rl_q rfl rfl rfl (v_load rfl Try.underlying3 rfl (Row.cell (hS.bx 1 rfl) (i := 0) rfl)) ?_
  obtain ⟨hz, h⟩ := h
  obtain ⟨hi, h⟩ := h
  refine rl_q rfl rfl rfl (v_shl rfl rfl hz hi) ?_
  refine rl_q rfl rfl rfl (v_lss rfl rfl) ?_
  refine rl_end ?_
  by_cases hp : set2 < (1 * 2 ^ g.toNat)
  · replace h := h.1 hp
    refine wt_cond_t (congrArg Value.bool (decide_eq_true hp)) ?_
    refine wt_skip ?_
    refine wt_seq ?_
    refine wt_block ?_
    refine wt_seq ?_
    refine wl_region wd_wide ?_
    refine rl_q rfl rfl rfl (v_move (v := (Value.int .i64 set2)) hE7) ?_
    refine rl_q rfl rfl rfl (v_move (v := (Value.int .i64 q)) hE1) ?_
    obtain ⟨hz2, h⟩ := h
    refine rl_q rfl rfl rfl (v_shr rfl rfl hz2) ?_
    obtain ⟨hz3, h⟩ := h
    refine rl_q rfl rfl rfl (v_andb rfl rfl hz3) ?_
    refine rl_q rfl rfl rfl (v_eql rfl rfl) ?_
    refine rl_q rfl rfl rfl (v_move (v := (Value.bool (decide ((((set2 / 2 ^ q.toNat).toNat &&& (1 : Int).toNat : Nat) : Int) = 0)))) rfl) ?_
    by_cases hp2 : (((set2 / 2 ^ q.toNat).toNat &&& (1 : Int).toNat : Nat) : Int) = 0
    · replace h := h.1 hp2
      refine rl_q (wanted_g rfl (yE_of rfl (congrArg Value.bool (decide_eq_true hp2)))) rfl rfl (v_loadn (vs := [(Value.int .i64 g), (Value.slice Ag lg cg)]) hE3 Try.underlying24 rfl info_24 ⟨Row.cell (hS.bx 1 rfl) (i := 0) rfl, Row.cell (hS.bx 1 rfl) (i := 1) rfl, trivial⟩) ?_
      refine rl_q (wanted_g rfl (yE_of rfl (congrArg Value.bool (decide_eq_true hp2)))) rfl rfl (v_move (v := (Value.slice Ad ld cd)) hE2) ?_
      refine rl_q (wanted_g rfl (yE_of rfl (congrArg Value.bool (decide_eq_true hp2)))) rfl rfl (v_move (v := (Value.int .i64 set2)) hE7) ?_
      refine rl_n (wanted_g rfl (yE_of rfl (congrArg Value.bool (decide_eq_true hp2)))) rfl rfl rfl (n_call0 rfl (am3 rfl rfl rfl) enter_125 ((pok_r25_May h (no_lt _) (hS.rdr 2 rfl) (hS.rdr 0 rfl)).mono ?_))
      rintro _ w4 ⟨r, rfl, hC, h⟩
      replace hS := hS.pur hC.pure
      clear hC
      refine ⟨_, rfl, ?_⟩
      refine ⟨Stb.none _, ?_⟩
      refine rl_q rfl rfl rfl (v_pick_t (v := (Value.bool (r))) (congrArg Value.bool (decide_eq_true hp2)) rfl) ?_
      refine rl_end ?_
      by_cases hp3 : r = true
      · replace h := h.1 hp3
        refine wt_cond_t (congrArg Value.bool hp3) ?_
        refine wt_seq ?_
        refine wl_region wd_wide ?_
        refine rl_q rfl rfl rfl (v_assign (v := (Value.bool (false))) rfl) ?_
        refine rl_end ?_
        exact wt_ret1 rfl rfl ⟨_, rfl, (hS.sel [] (by decide)), h⟩
      · replace h := h.2 hp3
        refine wt_cond_f (congrArg Value.bool (Bool.eq_false_iff.2 hp3)) ?_
        refine wt_skip ?_
        refine wt_inBlock ?_
        refine wl_region wd_wide ?_
        refine rl_q rfl rfl rfl (v_move (v := (Value.int .i64 set2)) hE7) ?_
        obtain ⟨hi2, h⟩ := h
        refine rl_q rfl rfl rfl (v_add rfl rfl hi2) ?_
        refine rl_q rfl rfl rfl (v_assign (v := (Value.int .i64 (set2 + 1))) rfl) ?_
        refine rl_end ?_
        obtain ⟨mq, hlt, h⟩ := h
        exact again mq _ _ _ ⟨_, h, rfl, hE1, hE2, hE3, rfl, (hS.sel [0, 1, 2] (by decide))⟩ hlt
    · replace h := h.2 hp2
      refine rl_p (wanted_n rfl (yE_of rfl (congrArg Value.bool (decide_eq_false hp2))) rfl) rfl ?_
      refine rl_p (wanted_n rfl (yE_of rfl (congrArg Value.bool (decide_eq_false hp2))) rfl) rfl ?_
      refine rl_p (wanted_n rfl (yE_of rfl (congrArg Value.bool (decide_eq_false hp2))) rfl) rfl ?_
      refine rl_p (wanted_n rfl (yE_of rfl (congrArg Value.bool (decide_eq_false hp2))) rfl) rfl ?_
      refine rl_q rfl rfl rfl (v_pick_f (v := (Value.bool (false))) (congrArg Value.bool (decide_eq_false hp2)) rfl) ?_
      refine rl_end ?_
      refine wt_cond_f rfl ?_
      refine wt_skip ?_
      refine wt_inBlock ?_
      refine wl_region wd_wide ?_
      refine rl_q rfl rfl rfl (v_move (v := (Value.int .i64 set2)) hE7) ?_
      obtain ⟨hi3, h⟩ := h
      refine rl_q rfl rfl rfl (v_add rfl rfl hi3) ?_
      refine rl_q rfl rfl rfl (v_assign (v := (Value.int .i64 (set2 + 1))) rfl) ?_
      refine rl_end ?_
      obtain ⟨mq, hlt, h⟩ := h
      exact again mq _ _ _ ⟨_, h, rfl, hE1, hE2, hE3, rfl, (hS.sel [0, 1, 2] (by decide))⟩ hlt
  · replace h := h.2 hp
    refine wt_cond_f (congrArg Value.bool (decide_eq_false hp)) ?_
    refine wt_exit rfl ?_
    refine wt_seq ?_
    refine wl_region wd_wide ?_
    refine rl_q rfl rfl rfl (v_assign (v := (Value.bool (true))) rfl) ?_
    refine rl_end ?_
    exact wt_ret1 rfl rfl ⟨_, rfl, (hS.sel [] (by decide)), h⟩

/-- sandpile/sandpileref34.Is: what it computes. -/
def pf_r34_Is (g : Int) (g2 : List (Int × Int × Int)) (q : Int) (d : List Int) (R : Bool → Prop) : Prop :=
pf_r34_Debt d q (fun (r : Bool) =>
((r = true →
R false) ∧
(¬ (r = true) →
pf_r25_Tight g g2 q d (fun (r2 : Bool) =>
R r2))))
theorem pok_r34_Is {O : Nat → Prop} {w : World} {g : Int} {g2 : List (Int × Int × Int)} {q : Int} {d : List Int} {Ag : Option Addr} {lg : Nat} {cg : Nat} {Ad : Option Addr} {ld : Nat} {cd : Nat} {R : Bool → Prop} (h : pf_r34_Is g g2 q d R) (hO : ∀ k, O k → k < w.heap.size) (a0 : (FP.sl c3 Ag lg cg g2).P O w) (a1 : (FP.sl cI Ad ld cd d).P O w) :
    Calls Try.prog 77 #[(Value.agg #[(Value.int .i64 g), (Value.slice Ag lg cg)]), (Value.int .i64 q), (Value.slice Ad ld cd)] w fun e w' => ∃ r3 : Bool, e = .returned (Value.bool (r3)) ∧ Sep w no O w' (rl []) ∧ R r3 := by
  unfold pf_r34_Is at h
  have hS : Sep w no O w (rl [Res.ro (FP.sl c3 Ag lg cg g2), Res.ro (FP.sl cI Ad ld cd d)]) := Sep.startl hO [(FP.sl c3 Ag lg cg g2), (FP.sl cI Ad ld cd d)] ⟨a0, a1, trivial⟩
  refine calls_sh (l := [(Value.agg #[(Value.int .i64 g), (Value.slice Ag lg cg)]), (Value.int .i64 q), (Value.slice Ad ld cd)]) Try.func77 rfl Try.ntmps77 (Nat.le_of_ble_eq_true rfl) ?_
  refine wt_seq ?_
  refine wl_region wd_wide ?_
  refine rl_n rfl rfl rfl rfl (n_box (v := (Value.agg #[(Value.int .i64 g), (Value.slice Ag lg cg)])) rfl ?_)
  intro g3 w2 hN
  replace hS : Sep w no O w2 (stl _ 2 (Res.box 24 g3 [(Value.int .i64 g), (Value.slice Ag lg cg)])) := hS.new 2 rfl hN
  clear hN
  refine ⟨Stb.none _, ?_⟩
  refine rl_q rfl rfl rfl (v_assign (v := (Value.bool (false))) rfl) ?_
  refine rl_end ?_
  refine wt_seq ?_
  refine wl_region wd_wide ?_
  refine rl_q rfl rfl rfl (v_move (v := (Value.slice Ad ld cd)) rfl) ?_
  refine rl_q rfl rfl rfl (v_move (v := (Value.int .i64 q)) rfl) ?_
  refine rl_n rfl rfl rfl rfl (n_call0 rfl (am2 rfl rfl) enter_28 ((pok_r34_Debt h (no_lt _) (hS.rdr 1 rfl)).mono ?_))
  rintro _ w3 ⟨r, rfl, hC, h⟩
  replace hS := hS.pur hC.pure
  clear hC
  refine ⟨_, rfl, ?_⟩
  refine ⟨Stb.none _, ?_⟩
  refine rl_q rfl rfl rfl (v_not rfl) ?_
  refine rl_q rfl rfl rfl (v_move (v := (Value.bool (!(r)))) rfl) ?_
  by_cases hp : r = true
  · replace h := h.1 hp
    refine rl_p (wanted_n rfl (yE_of rfl (congrArg Value.bool (congrArg Bool.not hp))) rfl) rfl ?_
    refine rl_p (wanted_n rfl (yE_of rfl (congrArg Value.bool (congrArg Bool.not hp))) rfl) rfl ?_
    refine rl_p (wanted_n rfl (yE_of rfl (congrArg Value.bool (congrArg Bool.not hp))) rfl) rfl ?_
    refine rl_p (wanted_n rfl (yE_of rfl (congrArg Value.bool (congrArg Bool.not hp))) rfl) rfl ?_
    refine rl_q rfl rfl rfl (v_pick_f (v := (Value.bool (false))) (congrArg Value.bool (congrArg Bool.not hp)) rfl) ?_
    refine rl_q rfl rfl rfl (v_assign (v := (Value.bool (false))) rfl) ?_
    refine rl_end ?_
    exact wt_ret1 rfl rfl ⟨_, rfl, (hS.sel [] (by decide)), h⟩
  · replace h := h.2 hp
    refine rl_q (wanted_g rfl (yE_of rfl (congrArg Value.bool (congrArg Bool.not (Bool.eq_false_iff.2 hp))))) rfl rfl (v_loadn (vs := [(Value.int .i64 g), (Value.slice Ag lg cg)]) rfl Try.underlying24 rfl info_24 ⟨Row.cell (hS.bx 2 rfl) (i := 0) rfl, Row.cell (hS.bx 2 rfl) (i := 1) rfl, trivial⟩) ?_
    refine rl_q (wanted_g rfl (yE_of rfl (congrArg Value.bool (congrArg Bool.not (Bool.eq_false_iff.2 hp))))) rfl rfl (v_move (v := (Value.int .i64 q)) rfl) ?_
    refine rl_q (wanted_g rfl (yE_of rfl (congrArg Value.bool (congrArg Bool.not (Bool.eq_false_iff.2 hp))))) rfl rfl (v_move (v := (Value.slice Ad ld cd)) rfl) ?_
    refine rl_n (wanted_g rfl (yE_of rfl (congrArg Value.bool (congrArg Bool.not (Bool.eq_false_iff.2 hp))))) rfl rfl rfl (n_call0 rfl (am3 rfl rfl rfl) enter_124 ((pok_r25_Tight h (no_lt _) (hS.rdr 0 rfl) (hS.rdr 1 rfl)).mono ?_))
    rintro _ w4 ⟨r2, rfl, hC, h⟩
    replace hS := hS.pur hC.pure
    clear hC
    refine ⟨_, rfl, ?_⟩
    refine ⟨Stb.none _, ?_⟩
    refine rl_q rfl rfl rfl (v_pick_t (v := (Value.bool (r2))) (congrArg Value.bool (congrArg Bool.not (Bool.eq_false_iff.2 hp))) rfl) ?_
    refine rl_q rfl rfl rfl (v_assign (v := (Value.bool (r2))) rfl) ?_
    refine rl_end ?_
    exact wt_ret1 rfl rfl ⟨_, rfl, (hS.sel [] (by decide)), h⟩

/-- sandpile/sandpileref34.IsReduced: what it computes. -/
def pf_r34_IsReduced (g : Int) (g2 : List (Int × Int × Int)) (q : Int) (d : List Int) (R : Bool → Int → Prop) : Prop :=
pf_r34_Given g g2 q d (fun (r : Int) =>
((r = 0 →
pf_r34_Is g g2 q d (fun (r2 : Bool) =>
R r2 0)) ∧
(¬ (r = 0) →
R false r)))
theorem pok_r34_IsReduced {O : Nat → Prop} {w : World} {g : Int} {g2 : List (Int × Int × Int)} {q : Int} {d : List Int} {Ag : Option Addr} {lg : Nat} {cg : Nat} {Ad : Option Addr} {ld : Nat} {cd : Nat} {R : Bool → Int → Prop} (h : pf_r34_IsReduced g g2 q d R) (hO : ∀ k, O k → k < w.heap.size) (a0 : (FP.sl c3 Ag lg cg g2).P O w) (a1 : (FP.sl cI Ad ld cd d).P O w) :
    Calls Try.prog 30 #[(Value.agg #[(Value.int .i64 g), (Value.slice Ag lg cg)]), (Value.int .i64 q), (Value.slice Ad ld cd)] w fun e w' => ∃ r3 : Bool, ∃ r4 : Int, e = .returned (Value.tuple #[(Value.bool (r3)), (Value.int .i64 r4)]) ∧ Sep w no O w' (rl []) ∧ R r3 r4 := by
  unfold pf_r34_IsReduced at h
  have hS : Sep w no O w (rl [Res.ro (FP.sl c3 Ag lg cg g2), Res.ro (FP.sl cI Ad ld cd d)]) := Sep.startl hO [(FP.sl c3 Ag lg cg g2), (FP.sl cI Ad ld cd d)] ⟨a0, a1, trivial⟩
  refine calls_sh (l := [(Value.agg #[(Value.int .i64 g), (Value.slice Ag lg cg)]), (Value.int .i64 q), (Value.slice Ad ld cd)]) Try.func30 rfl Try.ntmps30 (Nat.le_of_ble_eq_true rfl) ?_
  refine wt_seq ?_
  refine wl_region wd_wide ?_
  refine rl_n rfl rfl rfl rfl (n_box (v := (Value.agg #[(Value.int .i64 g), (Value.slice Ag lg cg)])) rfl ?_)
  intro g3 w2 hN
  replace hS : Sep w no O w2 (stl _ 2 (Res.box 24 g3 [(Value.int .i64 g), (Value.slice Ag lg cg)])) := hS.new 2 rfl hN
  clear hN
  refine ⟨Stb.none _, ?_⟩
  refine rl_q rfl rfl rfl (v_assign (v := (Value.bool (false))) rfl) ?_
  refine rl_q rfl rfl rfl (v_assign (v := (Value.int .i64 0)) rfl) ?_
  refine rl_end ?_
  refine wt_seq ?_
  refine wt_seq ?_
  refine wl_region wd_wide ?_
  refine rl_q rfl rfl rfl (v_loadn (vs := [(Value.int .i64 g), (Value.slice Ag lg cg)]) rfl Try.underlying24 rfl info_24 ⟨Row.cell (hS.bx 2 rfl) (i := 0) rfl, Row.cell (hS.bx 2 rfl) (i := 1) rfl, trivial⟩) ?_
  refine rl_q rfl rfl rfl (v_move (v := (Value.int .i64 q)) rfl) ?_
  refine rl_q rfl rfl rfl (v_move (v := (Value.slice Ad ld cd)) rfl) ?_
  refine rl_n rfl rfl rfl rfl (n_call0 rfl (am3 rfl rfl rfl) enter_24 ((pok_r34_Given h (no_lt _) (hS.rdr 0 rfl) (hS.rdr 1 rfl)).mono ?_))
  rintro _ w3 ⟨r, rfl, hC, h⟩
  replace hS := hS.pur hC.pure
  clear hC
  refine ⟨_, rfl, ?_⟩
  refine ⟨Stb.none _, ?_⟩
  refine rl_q rfl rfl rfl (v_assign (v := (Value.int .i64 r)) rfl) ?_
  refine rl_end ?_
  refine wt_seq ?_
  refine wl_region wd_wide ?_
  refine rl_q rfl rfl rfl (v_move (v := (Value.int .i64 r)) rfl) ?_
  refine rl_q rfl rfl rfl (v_neq rfl rfl) ?_
  refine rl_end ?_
  by_cases hp : r = 0
  · replace h := h.1 hp
    refine wt_cond_f (congrArg Value.bool (congrArg Bool.not (decide_eq_true hp))) ?_
    refine wt_skip ?_
    refine wt_seq ?_
    refine wl_region wd_wide ?_
    refine rl_q rfl rfl rfl (v_loadn (vs := [(Value.int .i64 g), (Value.slice Ag lg cg)]) rfl Try.underlying24 rfl info_24 ⟨Row.cell (hS.bx 2 rfl) (i := 0) rfl, Row.cell (hS.bx 2 rfl) (i := 1) rfl, trivial⟩) ?_
    refine rl_q rfl rfl rfl (v_move (v := (Value.int .i64 q)) rfl) ?_
    refine rl_q rfl rfl rfl (v_move (v := (Value.slice Ad ld cd)) rfl) ?_
    refine rl_n rfl rfl rfl rfl (n_call0 rfl (am3 rfl rfl rfl) enter_77 ((pok_r34_Is h (no_lt _) (hS.rdr 0 rfl) (hS.rdr 1 rfl)).mono ?_))
    rintro _ w4 ⟨r2, rfl, hC, h⟩
    replace hS := hS.pur hC.pure
    clear hC
    refine ⟨_, rfl, ?_⟩
    refine ⟨Stb.none _, ?_⟩
    refine rl_q rfl rfl rfl (v_assign (v := (Value.bool (r2))) rfl) ?_
    refine rl_q rfl rfl rfl (v_assign (v := (Value.int .i64 0)) rfl) ?_
    refine rl_end ?_
    exact wt_ret2 rfl rfl rfl ⟨_, _, rfl, (hS.sel [] (by decide)), h⟩
  · replace h := h.2 hp
    refine wt_cond_t (congrArg Value.bool (congrArg Bool.not (decide_eq_false hp))) ?_
    refine wt_seq ?_
    refine wl_region wd_wide ?_
    refine rl_q rfl rfl rfl (v_move (v := (Value.int .i64 r)) rfl) ?_
    refine rl_q rfl rfl rfl (v_assign (v := (Value.bool (false))) rfl) ?_
    refine rl_q rfl rfl rfl (v_assign (v := (Value.int .i64 r)) rfl) ?_
    refine rl_end ?_
    exact wt_ret2 rfl rfl rfl ⟨_, _, rfl, (hS.sel [] (by decide)), h⟩

/-- sandpile/sandpileref34.Left: what it computes. -/
def pf_r34_Left (g : Int) (g2 : List (Int × Int × Int)) (q : Int) (d : List Int) (R : (List Int) → Prop) : Prop :=
(∃ I2 : Nat → Int → Int → Prop, (∃ m0, I2 m0 0 0) ∧ ∀ (m2 : Nat) (all2 : Int) (set2 : Int), I2 m2 all2 set2 → 
((0 ≤ g ∧ g < 64) ∧
In64 (1 * 2 ^ g.toNat) ∧
((set2 < (1 * 2 ^ g.toNat) →
((0 ≤ q ∧ q < 64) ∧
((0 ≤ (set2 / 2 ^ q.toNat) ∧ (set2 / 2 ^ q.toNat) < 9223372036854775808 ∧ 0 ≤ (1 : Int) ∧ (1 : Int) < 9223372036854775808) ∧
(((((set2 / 2 ^ q.toNat).toNat &&& (1 : Int).toNat : Nat) : Int) = 0 →
pf_r25_May g g2 d set2 (fun (r : Bool) =>
((r = true →
((0 ≤ all2 ∧ all2 < 9223372036854775808 ∧ 0 ≤ set2 ∧ set2 < 9223372036854775808) ∧
(In64 (set2 + 1) ∧
∃ m3, m3 < m2 ∧ I2 m3 ((all2.toNat ||| set2.toNat : Nat) : Int) (set2 + 1)))) ∧
(¬ (r = true) →
(In64 (set2 + 1) ∧
∃ m4, m4 < m2 ∧ I2 m4 all2 (set2 + 1)))))) ∧
(¬ ((((set2 / 2 ^ q.toNat).toNat &&& (1 : Int).toNat : Nat) : Int) = 0) →
(In64 (set2 + 1) ∧
∃ m5, m5 < m2 ∧ I2 m5 all2 (set2 + 1))))))) ∧
(¬ (set2 < (1 * 2 ^ g.toNat)) →
(∃ I3 : Nat → (List Int) → Int → Prop, (∃ m0, I3 m0 ([]) 0) ∧ ∀ (m6 : Nat) (out : List Int) (v : Int), I3 m6 out v → 
((v < g →
((0 ≤ v ∧ v < 64) ∧
((0 ≤ (all2 / 2 ^ v.toNat) ∧ (all2 / 2 ^ v.toNat) < 9223372036854775808 ∧ 0 ≤ (1 : Int) ∧ (1 : Int) < 9223372036854775808) ∧
(((((all2 / 2 ^ v.toNat).toNat &&& (1 : Int).toNat : Nat) : Int) = 1 →
(out.length + 1 ≤ 1000000000 ∧
(In64 (v + 1) ∧
∃ m7, m7 < m6 ∧ I3 m7 (out ++ [v]) (v + 1)))) ∧
(¬ ((((all2 / 2 ^ v.toNat).toNat &&& (1 : Int).toNat : Nat) : Int) = 1) →
(In64 (v + 1) ∧
∃ m8, m8 < m6 ∧ I3 m8 out (v + 1))))))) ∧
(¬ (v < g) →
R out)))))))
theorem pok_r34_Left {O : Nat → Prop} {w : World} {g : Int} {g2 : List (Int × Int × Int)} {q : Int} {d : List Int} {Ag : Option Addr} {lg : Nat} {cg : Nat} {Ad : Option Addr} {ld : Nat} {cd : Nat} {R : (List Int) → Prop} (h : pf_r34_Left g g2 q d R) (hO : ∀ k, O k → k < w.heap.size) (a0 : (FP.sl c3 Ag lg cg g2).P O w) (a1 : (FP.sl cI Ad ld cd d).P O w) :
    Calls Try.prog 78 #[(Value.agg #[(Value.int .i64 g), (Value.slice Ag lg cg)]), (Value.int .i64 q), (Value.slice Ad ld cd)] w fun e w' => ∃ r2 : List Int, ∃ Ar : Option Addr, ∃ lr : Nat, ∃ cr : Nat, e = .returned (Value.slice Ar lr cr) ∧ Sep w no O w' (rl [Res.own cI 3 Ar lr cr r2]) ∧ R r2 := by
  unfold pf_r34_Left at h
  have hS : Sep w no O w (rl [Res.ro (FP.sl c3 Ag lg cg g2), Res.ro (FP.sl cI Ad ld cd d)]) := Sep.startl hO [(FP.sl c3 Ag lg cg g2), (FP.sl cI Ad ld cd d)] ⟨a0, a1, trivial⟩
  refine calls_sh (l := [(Value.agg #[(Value.int .i64 g), (Value.slice Ag lg cg)]), (Value.int .i64 q), (Value.slice Ad ld cd)]) Try.func78 rfl Try.ntmps78 (Nat.le_of_ble_eq_true rfl) ?_
  refine wt_seq ?_
  refine wl_region wd_wide ?_
  refine rl_n rfl rfl rfl rfl (n_box (v := (Value.agg #[(Value.int .i64 g), (Value.slice Ag lg cg)])) rfl ?_)
  intro g3 w2 hN
  replace hS : Sep w no O w2 (stl _ 2 (Res.box 24 g3 [(Value.int .i64 g), (Value.slice Ag lg cg)])) := hS.new 2 rfl hN
  clear hN
  refine ⟨Stb.none _, ?_⟩
  refine rl_q rfl rfl rfl (v_assign (v := (Value.slice none 0 0)) rfl) ?_
  refine rl_end ?_
  refine wt_seq ?_
  refine wl_region wd_wide ?_
  refine rl_q rfl rfl rfl (v_assign (v := (Value.int .i64 0)) rfl) ?_
  refine rl_end ?_
  refine wt_seq ?_
  refine wt_seq ?_
  refine wl_region wd_wide ?_
  refine rl_q rfl rfl rfl (v_assign (v := (Value.int .i64 0)) rfl) ?_
  refine rl_end ?_
  refine wt_block ?_
  obtain ⟨I2, ⟨m0, h0⟩, hr⟩ := h
  refine wt_loop (fun m E ds w' => ∃ all2 : Int, ∃ set2 : Int, I2 m all2 set2 ∧ ds = [] ∧ E 1 = (Value.int .i64 q) ∧ E 2 = (Value.slice Ad ld cd) ∧ E 3 = (Value.pointer (some (⟨g3, 0, none⟩ : Addr))) ∧ E 7 = (Value.int .i64 all2) ∧ E 8 = (Value.int .i64 set2) ∧ Sep w no O w' (rl [Res.ro (FP.sl cI Ad ld cd d), Res.box 24 g3 [(Value.int .i64 g), (Value.slice Ag lg cg)], Res.ro (FP.sl c3 Ag lg cg g2)])) m0 ⟨_, _, h0, rfl, rfl, rfl, rfl, rfl, rfl, (hS.sel [1, 2, 0] (by decide))⟩ ?_
  clear h0 hS
  rintro m2 E ds w3 ⟨all2, set2, h, rfl, hE1, hE2, hE3, hE7, hE8, hS⟩ again
  replace h := hr m2 all2 set2 h
  clear hr
  refine wt_seq ?_
  refine wt_seq ?_
  refine wl_region wd_wide ?_
  refine rl_q rfl rfl rfl (v_move (v := (Value.int .i64 set2)) hE8) ?_
  refine rl_q rfl rfl rfl (v_faddr hE3 Try.underlying24 rfl info_3) ?_
  refine rl_q rfl rfl rfl (v_load rfl Try.underlying3 rfl (Row.cell (hS.bx 1 rfl) (i := 0) rfl)) ?_
  obtain ⟨hz, h⟩ := h
  obtain ⟨hi, h⟩ := h
  refine rl_q rfl rfl rfl (v_shl rfl rfl hz hi) ?_
  refine rl_q rfl rfl rfl (v_lss rfl rfl) ?_
  refine rl_end ?_
  by_cases hp : set2 < (1 * 2 ^ g.toNat)
  · replace h := h.1 hp
    refine wt_cond_t (congrArg Value.bool (decide_eq_true hp)) ?_
    refine wt_skip ?_
    refine wt_seq ?_
    refine wt_block ?_
    refine wt_seq ?_
    refine wl_region wd_wide ?_
    refine rl_q rfl rfl rfl (v_move (v := (Value.int .i64 set2)) hE8) ?_
    refine rl_q rfl rfl rfl (v_move (v := (Value.int .i64 q)) hE1) ?_
    obtain ⟨hz2, h⟩ := h
    refine rl_q rfl rfl rfl (v_shr rfl rfl hz2) ?_
    obtain ⟨hz3, h⟩ := h
    refine rl_q rfl rfl rfl (v_andb rfl rfl hz3) ?_
    refine rl_q rfl rfl rfl (v_eql rfl rfl) ?_
    refine rl_q rfl rfl rfl (v_move (v := (Value.bool (decide ((((set2 / 2 ^ q.toNat).toNat &&& (1 : Int).toNat : Nat) : Int) = 0)))) rfl) ?_
    by_cases hp2 : (((set2 / 2 ^ q.toNat).toNat &&& (1 : Int).toNat : Nat) : Int) = 0
    · replace h := h.1 hp2
      refine rl_q (wanted_g rfl (yE_of rfl (congrArg Value.bool (decide_eq_true hp2)))) rfl rfl (v_loadn (vs := [(Value.int .i64 g), (Value.slice Ag lg cg)]) hE3 Try.underlying24 rfl info_24 ⟨Row.cell (hS.bx 1 rfl) (i := 0) rfl, Row.cell (hS.bx 1 rfl) (i := 1) rfl, trivial⟩) ?_
      refine rl_q (wanted_g rfl (yE_of rfl (congrArg Value.bool (decide_eq_true hp2)))) rfl rfl (v_move (v := (Value.slice Ad ld cd)) hE2) ?_
      refine rl_q (wanted_g rfl (yE_of rfl (congrArg Value.bool (decide_eq_true hp2)))) rfl rfl (v_move (v := (Value.int .i64 set2)) hE8) ?_
      refine rl_n (wanted_g rfl (yE_of rfl (congrArg Value.bool (decide_eq_true hp2)))) rfl rfl rfl (n_call0 rfl (am3 rfl rfl rfl) enter_125 ((pok_r25_May h (no_lt _) (hS.rdr 2 rfl) (hS.rdr 0 rfl)).mono ?_))
      rintro _ w4 ⟨r, rfl, hC, h⟩
      replace hS := hS.pur hC.pure
      clear hC
      refine ⟨_, rfl, ?_⟩
      refine ⟨Stb.none _, ?_⟩
      refine rl_q rfl rfl rfl (v_pick_t (v := (Value.bool (r))) (congrArg Value.bool (decide_eq_true hp2)) rfl) ?_
      refine rl_end ?_
      by_cases hp3 : r = true
      · replace h := h.1 hp3
        refine wt_cond_t (congrArg Value.bool hp3) ?_
        refine wl_region wd_wide ?_
        refine rl_q rfl rfl rfl (v_move (v := (Value.int .i64 all2)) hE7) ?_
        refine rl_q rfl rfl rfl (v_move (v := (Value.int .i64 set2)) hE8) ?_
        obtain ⟨hz4, h⟩ := h
        refine rl_q rfl rfl rfl (v_orb rfl rfl hz4) ?_
        refine rl_q rfl rfl rfl (v_assign (v := (Value.int .i64 ((all2.toNat ||| set2.toNat : Nat) : Int))) rfl) ?_
        refine rl_end ?_
        refine wt_inBlock ?_
        refine wl_region wd_wide ?_
        refine rl_q rfl rfl rfl (v_move (v := (Value.int .i64 set2)) hE8) ?_
        obtain ⟨hi2, h⟩ := h
        refine rl_q rfl rfl rfl (v_add rfl rfl hi2) ?_
        refine rl_q rfl rfl rfl (v_assign (v := (Value.int .i64 (set2 + 1))) rfl) ?_
        refine rl_end ?_
        obtain ⟨mq, hlt, h⟩ := h
        exact again mq _ _ _ ⟨_, _, h, rfl, hE1, hE2, hE3, rfl, rfl, (hS.sel [0, 1, 2] (by decide))⟩ hlt
      · replace h := h.2 hp3
        refine wt_cond_f (congrArg Value.bool (Bool.eq_false_iff.2 hp3)) ?_
        refine wt_skip ?_
        refine wt_inBlock ?_
        refine wl_region wd_wide ?_
        refine rl_q rfl rfl rfl (v_move (v := (Value.int .i64 set2)) hE8) ?_
        obtain ⟨hi3, h⟩ := h
        refine rl_q rfl rfl rfl (v_add rfl rfl hi3) ?_
        refine rl_q rfl rfl rfl (v_assign (v := (Value.int .i64 (set2 + 1))) rfl) ?_
        refine rl_end ?_
        obtain ⟨mq, hlt, h⟩ := h
        exact again mq _ _ _ ⟨_, _, h, rfl, hE1, hE2, hE3, hE7, rfl, (hS.sel [0, 1, 2] (by decide))⟩ hlt
    · replace h := h.2 hp2
      refine rl_p (wanted_n rfl (yE_of rfl (congrArg Value.bool (decide_eq_false hp2))) rfl) rfl ?_
      refine rl_p (wanted_n rfl (yE_of rfl (congrArg Value.bool (decide_eq_false hp2))) rfl) rfl ?_
      refine rl_p (wanted_n rfl (yE_of rfl (congrArg Value.bool (decide_eq_false hp2))) rfl) rfl ?_
      refine rl_p (wanted_n rfl (yE_of rfl (congrArg Value.bool (decide_eq_false hp2))) rfl) rfl ?_
      refine rl_q rfl rfl rfl (v_pick_f (v := (Value.bool (false))) (congrArg Value.bool (decide_eq_false hp2)) rfl) ?_
      refine rl_end ?_
      refine wt_cond_f rfl ?_
      refine wt_skip ?_
      refine wt_inBlock ?_
      refine wl_region wd_wide ?_
      refine rl_q rfl rfl rfl (v_move (v := (Value.int .i64 set2)) hE8) ?_
      obtain ⟨hi4, h⟩ := h
      refine rl_q rfl rfl rfl (v_add rfl rfl hi4) ?_
      refine rl_q rfl rfl rfl (v_assign (v := (Value.int .i64 (set2 + 1))) rfl) ?_
      refine rl_end ?_
      obtain ⟨mq, hlt, h⟩ := h
      exact again mq _ _ _ ⟨_, _, h, rfl, hE1, hE2, hE3, hE7, rfl, (hS.sel [0, 1, 2] (by decide))⟩ hlt
  · replace h := h.2 hp
    refine wt_cond_f (congrArg Value.bool (decide_eq_false hp)) ?_
    refine wt_exit rfl ?_
    refine wt_seq ?_
    refine wl_region wd_wide ?_
    refine rl_q rfl rfl rfl (v_assign (v := (Value.slice none 0 0)) rfl) ?_
    refine rl_end ?_
    refine wt_seq ?_
    refine wt_seq ?_
    refine wl_region wd_wide ?_
    refine rl_q rfl rfl rfl (v_assign (v := (Value.int .i64 0)) rfl) ?_
    refine rl_end ?_
    refine wt_block ?_
    replace hS := hS.nil 3 rfl cI 3
    obtain ⟨I3, ⟨m0, h0⟩, hr⟩ := h
    refine wt_loop (fun m E ds w' => ∃ out : List Int, ∃ v : Int, ∃ Aout : Option Addr, ∃ lout : Nat, ∃ cout : Nat, I3 m out v ∧ ds = [] ∧ E 3 = (Value.pointer (some (⟨g3, 0, none⟩ : Addr))) ∧ E 7 = (Value.int .i64 all2) ∧ E 9 = (Value.slice Aout lout cout) ∧ E 10 = (Value.int .i64 v) ∧ Sep w no O w' (rl [Res.own cI 3 Aout lout cout out, Res.box 24 g3 [(Value.int .i64 g), (Value.slice Ag lg cg)], Res.ro (FP.sl c3 Ag lg cg g2)])) m0 ⟨_, _, _, _, _, h0, rfl, hE3, hE7, rfl, rfl, (hS.sel [3, 1, 2] (by decide))⟩ ?_
    clear h0 hS
    rintro m6 E ds w5 ⟨out, v, Aout, lout, cout, h, rfl, hE3, hE7, hE9, hE10, hS⟩ again2
    replace h := hr m6 out v h
    clear hr
    refine wt_seq ?_
    refine wt_seq ?_
    refine wl_region wd_wide ?_
    refine rl_q rfl rfl rfl (v_move (v := (Value.int .i64 v)) hE10) ?_
    refine rl_q rfl rfl rfl (v_faddr hE3 Try.underlying24 rfl info_3) ?_
    refine rl_q rfl rfl rfl (v_load rfl Try.underlying3 rfl (Row.cell (hS.bx 1 rfl) (i := 0) rfl)) ?_
    refine rl_q rfl rfl rfl (v_lss rfl rfl) ?_
    refine rl_end ?_
    by_cases hp4 : v < g
    · replace h := h.1 hp4
      refine wt_cond_t (congrArg Value.bool (decide_eq_true hp4)) ?_
      refine wt_skip ?_
      refine wt_seq ?_
      refine wt_block ?_
      refine wt_seq ?_
      refine wl_region wd_wide ?_
      refine rl_q rfl rfl rfl (v_move (v := (Value.int .i64 all2)) hE7) ?_
      refine rl_q rfl rfl rfl (v_move (v := (Value.int .i64 v)) hE10) ?_
      obtain ⟨hz5, h⟩ := h
      refine rl_q rfl rfl rfl (v_shr rfl rfl hz5) ?_
      obtain ⟨hz6, h⟩ := h
      refine rl_q rfl rfl rfl (v_andb rfl rfl hz6) ?_
      refine rl_q rfl rfl rfl (v_eql rfl rfl) ?_
      refine rl_end ?_
      by_cases hp5 : (((all2 / 2 ^ v.toNat).toNat &&& (1 : Int).toNat : Nat) : Int) = 1
      · replace h := h.1 hp5
        refine wt_cond_t (congrArg Value.bool (decide_eq_true hp5)) ?_
        refine wl_region wd_wide ?_
        refine rl_q rfl rfl rfl (v_move (v := (Value.slice Aout lout cout)) hE9) ?_
        refine rl_q rfl rfl rfl (v_move (v := (Value.int .i64 v)) hE10) ?_
        refine rl_n rfl rfl rfl rfl (n_bslice (l := [(0, (Value.int .i64 v))]) (cells := [(Value.int .i64 v)]) (bp1 rfl) Try.underlying25 info_3 rfl rfl ?_)
        intro g4 w6 hN
        replace hS := hS.litf (n := 1) 3 rfl (fI .i64) hN ([v] : List Int) rfl (by decide) rfl
        clear hN
        refine ⟨Stb.none _, ?_⟩
        obtain ⟨hx, h⟩ := h
        refine rl_n rfl rfl rfl rfl (n_app (c := cI) rfl rfl Try.underlying25 Try.underlying25 info_3 rfl rfl (by decide) hS 0 rfl (hS.yo 3 rfl) hx ?_)
        clear hS
        intro A c w7 hS
        refine ⟨Stb.none _, ?_⟩
        refine rl_q rfl rfl rfl (v_assign (v := (Value.slice A (lout + 1) c)) rfl) ?_
        refine rl_end ?_
        refine wt_inBlock ?_
        refine wl_region wd_wide ?_
        refine rl_q rfl rfl rfl (v_move (v := (Value.int .i64 v)) hE10) ?_
        obtain ⟨hi5, h⟩ := h
        refine rl_q rfl rfl rfl (v_add rfl rfl hi5) ?_
        refine rl_q rfl rfl rfl (v_assign (v := (Value.int .i64 (v + 1))) rfl) ?_
        refine rl_end ?_
        obtain ⟨mq, hlt, h⟩ := h
        exact again2 mq _ _ _ ⟨_, _, _, _, _, h, rfl, hE3, hE7, rfl, rfl, (hS.sel [0, 1, 2] (by decide))⟩ hlt
      · replace h := h.2 hp5
        refine wt_cond_f (congrArg Value.bool (decide_eq_false hp5)) ?_
        refine wt_skip ?_
        refine wt_inBlock ?_
        refine wl_region wd_wide ?_
        refine rl_q rfl rfl rfl (v_move (v := (Value.int .i64 v)) hE10) ?_
        obtain ⟨hi6, h⟩ := h
        refine rl_q rfl rfl rfl (v_add rfl rfl hi6) ?_
        refine rl_q rfl rfl rfl (v_assign (v := (Value.int .i64 (v + 1))) rfl) ?_
        refine rl_end ?_
        obtain ⟨mq, hlt, h⟩ := h
        exact again2 mq _ _ _ ⟨_, _, _, _, _, h, rfl, hE3, hE7, hE9, rfl, (hS.sel [0, 1, 2] (by decide))⟩ hlt
    · replace h := h.2 hp4
      refine wt_cond_f (congrArg Value.bool (decide_eq_false hp4)) ?_
      refine wt_exit rfl ?_
      refine wt_seq ?_
      refine wl_region wd_wide ?_
      refine rl_q rfl rfl rfl (v_move (v := (Value.slice Aout lout cout)) hE9) ?_
      refine rl_q rfl rfl rfl (v_assign (v := (Value.slice Aout lout cout)) rfl) ?_
      refine rl_end ?_
      exact wt_ret1 rfl rfl ⟨_, _, _, _, rfl, (hS.sel [0] (by decide)), h⟩

/-- sandpile/sandpileref34.Unburnt: what it computes. -/
def pf_r34_Unburnt (g : Int) (g2 : List (Int × Int × Int)) (q : Int) (d : List Int) (R : (List Int) → Int → Prop) : Prop :=
pf_r34_Given g g2 q d (fun (r : Int) =>
((r = 0 →
pf_r34_Debt d q (fun (r2 : Bool) =>
((r2 = true →
R ([]) 15) ∧
(¬ (r2 = true) →
pf_r34_Left g g2 q d (fun (r3 : List Int) =>
R r3 0))))) ∧
(¬ (r = 0) →
R ([]) r)))
theorem pok_r34_Unburnt {O : Nat → Prop} {w : World} {g : Int} {g2 : List (Int × Int × Int)} {q : Int} {d : List Int} {Ag : Option Addr} {lg : Nat} {cg : Nat} {Ad : Option Addr} {ld : Nat} {cd : Nat} {R : (List Int) → Int → Prop} (h : pf_r34_Unburnt g g2 q d R) (hO : ∀ k, O k → k < w.heap.size) (a0 : (FP.sl c3 Ag lg cg g2).P O w) (a1 : (FP.sl cI Ad ld cd d).P O w) :
    Calls Try.prog 32 #[(Value.agg #[(Value.int .i64 g), (Value.slice Ag lg cg)]), (Value.int .i64 q), (Value.slice Ad ld cd)] w fun e w' => ∃ r4 : List Int, ∃ r5 : Int, ∃ Ar2 : Option Addr, ∃ lr2 : Nat, ∃ cr2 : Nat, e = .returned (Value.tuple #[(Value.slice Ar2 lr2 cr2), (Value.int .i64 r5)]) ∧ Sep w no O w' (rl [Res.own cI 3 Ar2 lr2 cr2 r4]) ∧ R r4 r5 := by
  unfold pf_r34_Unburnt at h
  have hS : Sep w no O w (rl [Res.ro (FP.sl c3 Ag lg cg g2), Res.ro (FP.sl cI Ad ld cd d)]) := Sep.startl hO [(FP.sl c3 Ag lg cg g2), (FP.sl cI Ad ld cd d)] ⟨a0, a1, trivial⟩
  refine calls_sh (l := [(Value.agg #[(Value.int .i64 g), (Value.slice Ag lg cg)]), (Value.int .i64 q), (Value.slice Ad ld cd)]) Try.func32 rfl Try.ntmps32 (Nat.le_of_ble_eq_true rfl) ?_
  refine wt_seq ?_
  refine wl_region wd_wide ?_
  refine rl_n rfl rfl rfl rfl (n_box (v := (Value.agg #[(Value.int .i64 g), (Value.slice Ag lg cg)])) rfl ?_)
  intro g3 w2 hN
  replace hS : Sep w no O w2 (stl _ 2 (Res.box 24 g3 [(Value.int .i64 g), (Value.slice Ag lg cg)])) := hS.new 2 rfl hN
  clear hN
  refine ⟨Stb.none _, ?_⟩
  refine rl_q rfl rfl rfl (v_assign (v := (Value.slice none 0 0)) rfl) ?_
  refine rl_q rfl rfl rfl (v_assign (v := (Value.int .i64 0)) rfl) ?_
  refine rl_end ?_
  refine wt_seq ?_
  refine wt_seq ?_
  refine wl_region wd_wide ?_
  refine rl_q rfl rfl rfl (v_loadn (vs := [(Value.int .i64 g), (Value.slice Ag lg cg)]) rfl Try.underlying24 rfl info_24 ⟨Row.cell (hS.bx 2 rfl) (i := 0) rfl, Row.cell (hS.bx 2 rfl) (i := 1) rfl, trivial⟩) ?_
  refine rl_q rfl rfl rfl (v_move (v := (Value.int .i64 q)) rfl) ?_
  refine rl_q rfl rfl rfl (v_move (v := (Value.slice Ad ld cd)) rfl) ?_
  refine rl_n rfl rfl rfl rfl (n_call0 rfl (am3 rfl rfl rfl) enter_24 ((pok_r34_Given h (no_lt _) (hS.rdr 0 rfl) (hS.rdr 1 rfl)).mono ?_))
  rintro _ w3 ⟨r, rfl, hC, h⟩
  replace hS := hS.pur hC.pure
  clear hC
  refine ⟨_, rfl, ?_⟩
  refine ⟨Stb.none _, ?_⟩
  refine rl_q rfl rfl rfl (v_assign (v := (Value.int .i64 r)) rfl) ?_
  refine rl_end ?_
  refine wt_seq ?_
  refine wl_region wd_wide ?_
  refine rl_q rfl rfl rfl (v_move (v := (Value.int .i64 r)) rfl) ?_
  refine rl_q rfl rfl rfl (v_neq rfl rfl) ?_
  refine rl_end ?_
  by_cases hp : r = 0
  · replace h := h.1 hp
    refine wt_cond_f (congrArg Value.bool (congrArg Bool.not (decide_eq_true hp))) ?_
    refine wt_skip ?_
    refine wt_seq ?_
    refine wt_seq ?_
    refine wl_region wd_wide ?_
    refine rl_q rfl rfl rfl (v_move (v := (Value.slice Ad ld cd)) rfl) ?_
    refine rl_q rfl rfl rfl (v_move (v := (Value.int .i64 q)) rfl) ?_
    refine rl_n rfl rfl rfl rfl (n_call0 rfl (am2 rfl rfl) enter_28 ((pok_r34_Debt h (no_lt _) (hS.rdr 1 rfl)).mono ?_))
    rintro _ w4 ⟨r2, rfl, hC, h⟩
    replace hS := hS.pur hC.pure
    clear hC
    refine ⟨_, rfl, ?_⟩
    refine ⟨Stb.none _, ?_⟩
    refine rl_end ?_
    by_cases hp2 : r2 = true
    · replace h := h.1 hp2
      refine wt_cond_t (congrArg Value.bool hp2) ?_
      refine wt_seq ?_
      refine wl_region wd_wide ?_
      refine rl_q rfl rfl rfl (v_assign (v := (Value.slice none 0 0)) rfl) ?_
      refine rl_q rfl rfl rfl (v_assign (v := (Value.int .i64 15)) rfl) ?_
      refine rl_end ?_
      replace hS := hS.nil 3 rfl cI 3
      exact wt_ret2 rfl rfl rfl ⟨_, _, _, _, _, rfl, (hS.sel [3] (by decide)), h⟩
    · replace h := h.2 hp2
      refine wt_cond_f (congrArg Value.bool (Bool.eq_false_iff.2 hp2)) ?_
      refine wt_skip ?_
      refine wt_seq ?_
      refine wl_region wd_wide ?_
      refine rl_q rfl rfl rfl (v_loadn (vs := [(Value.int .i64 g), (Value.slice Ag lg cg)]) rfl Try.underlying24 rfl info_24 ⟨Row.cell (hS.bx 2 rfl) (i := 0) rfl, Row.cell (hS.bx 2 rfl) (i := 1) rfl, trivial⟩) ?_
      refine rl_q rfl rfl rfl (v_move (v := (Value.int .i64 q)) rfl) ?_
      refine rl_q rfl rfl rfl (v_move (v := (Value.slice Ad ld cd)) rfl) ?_
      refine rl_n rfl rfl rfl rfl (n_call0 rfl (am3 rfl rfl rfl) enter_78 ((pok_r34_Left h (no_lt _) (hS.rdr 0 rfl) (hS.rdr 1 rfl)).mono ?_))
      rintro _ w5 ⟨r3, Ar, lr, cr, rfl, hC, h⟩
      replace hS := hS.call1 (hC.widen (flatS (flat_own (fI .i64) _ _ _ _ _) flat0) hS.blt) 3 0 rfl
      clear hC
      refine ⟨_, rfl, ?_⟩
      refine ⟨Stb.none _, ?_⟩
      refine rl_q rfl rfl rfl (v_assign (v := (Value.slice Ar lr cr)) rfl) ?_
      refine rl_q rfl rfl rfl (v_assign (v := (Value.int .i64 0)) rfl) ?_
      refine rl_end ?_
      exact wt_ret2 rfl rfl rfl ⟨_, _, _, _, _, rfl, (hS.sel [3] (by decide)), h⟩
  · replace h := h.2 hp
    refine wt_cond_t (congrArg Value.bool (congrArg Bool.not (decide_eq_false hp))) ?_
    refine wt_seq ?_
    refine wl_region wd_wide ?_
    refine rl_q rfl rfl rfl (v_move (v := (Value.int .i64 r)) rfl) ?_
    refine rl_q rfl rfl rfl (v_assign (v := (Value.slice none 0 0)) rfl) ?_
    refine rl_q rfl rfl rfl (v_assign (v := (Value.int .i64 r)) rfl) ?_
    refine rl_end ?_
    replace hS := hS.nil 3 rfl cI 3
    exact wt_ret2 rfl rfl rfl ⟨_, _, _, _, _, rfl, (hS.sel [3] (by decide)), h⟩
end Go.Proofs.Ytnhmeckhlajeaaa

/- Pure forms of functions, made by program (pf.py), each with the proof that the code does so. -/
namespace Go.Proofs.Ytnhmeckhlajeaaa
open Go Go.RowKit Go.Shelf
set_option linter.unusedVariables false
set_option maxRecDepth 100000
set_option maxHeartbeats 1000000
/-- slices.IndexFunc[sandpile/api.Script,int]: what it computes. -/
def pf_slices_IndexFunc_Script (s : List Int) (Ff : Int → (Bool → Prop) → Prop) (R : Int → Prop) : Prop :=
(∃ I2 : Nat → Int → Prop, (∃ m0, I2 m0 0) ∧ ∀ (m2 : Nat) (v : Int), I2 m2 v → 
((v < ((s.length : Nat) : Int) →
((0 ≤ v ∧ v < ((s.length : Nat) : Int)) ∧
Ff (gi s v.toNat) (fun (r : Bool) =>
((r = true →
R v) ∧
(¬ (r = true) →
(In64 (v + 1) ∧
∃ m3, m3 < m2 ∧ I2 m3 (v + 1))))))) ∧
(¬ (v < ((s.length : Nat) : Int)) →
R (-1))))
theorem pok_slices_IndexFunc_Script {O : Nat → Prop} {w : World} {s : List Int} {Ff : Int → (Bool → Prop) → Prop} {As : Option Addr} {ls : Nat} {cs : Nat} {f : Value} {R : Int → Prop} (h : pf_slices_IndexFunc_Script s Ff R) (hO : ∀ k, O k → k < w.heap.size) (a0 : (FP.sl cI As ls cs s).P O w) (a1 : (FP.st fun w' => ∃ (fid : Nat) (us : Array Value), f = Value.func (.func fid) #[] us ∧ Enters Try.prog fid ∧ ∀ (x0 : Int) (R : Bool → Prop), Ff x0 R → Calls Try.prog fid (#[(Value.int .i64 x0)] ++ us) w' fun e w'' => ∃ r0 : Bool, e = .returned (Value.bool (r0)) ∧ Sep w' no no w'' (rl []) ∧ R r0).P O w) :
    Calls Try.prog 79 #[(Value.slice As ls cs), f] w fun e w' => ∃ r2 : Int, e = .returned (Value.int .i64 r2) ∧ Sep w no O w' (rl []) ∧ R r2 := by
  unfold pf_slices_IndexFunc_Script at h
  have hS : Sep w no O w (rl [Res.ro (FP.sl cI As ls cs s), Res.ro (FP.st fun w' => ∃ (fid : Nat) (us : Array Value), f = Value.func (.func fid) #[] us ∧ Enters Try.prog fid ∧ ∀ (x0 : Int) (R : Bool → Prop), Ff x0 R → Calls Try.prog fid (#[(Value.int .i64 x0)] ++ us) w' fun e w'' => ∃ r0 : Bool, e = .returned (Value.bool (r0)) ∧ Sep w' no no w'' (rl []) ∧ R r0)]) := Sep.startl hO [(FP.sl cI As ls cs s), (FP.st fun w' => ∃ (fid : Nat) (us : Array Value), f = Value.func (.func fid) #[] us ∧ Enters Try.prog fid ∧ ∀ (x0 : Int) (R : Bool → Prop), Ff x0 R → Calls Try.prog fid (#[(Value.int .i64 x0)] ++ us) w' fun e w'' => ∃ r0 : Bool, e = .returned (Value.bool (r0)) ∧ Sep w' no no w'' (rl []) ∧ R r0)] ⟨a0, a1, trivial⟩
  refine calls_sh (l := [(Value.slice As ls cs), f]) Try.func79 rfl Try.ntmps79 (Nat.le_of_ble_eq_true rfl) ?_
  refine wt_seq ?_
  refine wl_region wd_wide ?_
  refine rl_q rfl rfl rfl (v_assign (v := (Value.int .i64 0)) rfl) ?_
  refine rl_end ?_
  refine wt_seq ?_
  refine wt_seq ?_
  refine wl_region wd_wide ?_
  refine rl_q rfl rfl rfl (v_move (v := (Value.slice As ls cs)) rfl) ?_
  refine rl_q rfl rfl rfl (v_lenx (n := s.length) rfl Try.underlying30 (rd_len (hS.rdr 0 rfl))) ?_
  refine rl_q rfl rfl rfl (v_move (v := (Value.int .i64 0)) rfl) ?_
  refine rl_end ?_
  refine wt_block ?_
  obtain ⟨I2, ⟨m0, h0⟩, hr⟩ := h
  refine wt_loop (fun m E ds w' => ∃ v : Int, I2 m v ∧ ds = [] ∧ E 0 = (Value.slice As ls cs) ∧ E 1 = f ∧ E 7 = (Value.int .i64 ((s.length : Nat) : Int)) ∧ E 8 = (Value.int .i64 v) ∧ Sep w no O w' (rl [Res.ro (FP.sl cI As ls cs s), Res.ro (FP.st fun w' => ∃ (fid : Nat) (us : Array Value), f = Value.func (.func fid) #[] us ∧ Enters Try.prog fid ∧ ∀ (x0 : Int) (R : Bool → Prop), Ff x0 R → Calls Try.prog fid (#[(Value.int .i64 x0)] ++ us) w' fun e w'' => ∃ r0 : Bool, e = .returned (Value.bool (r0)) ∧ Sep w' no no w'' (rl []) ∧ R r0)])) m0 ⟨_, h0, rfl, rfl, rfl, rfl, rfl, (hS.sel [0, 1] (by decide))⟩ ?_
  clear h0 hS
  rintro m2 E ds w2 ⟨v, h, rfl, hE0, hE1, hE7, hE8, hS⟩ again
  replace h := hr m2 v h
  clear hr
  refine wt_seq ?_
  refine wl_region wd_wide ?_
  refine rl_q rfl rfl rfl (v_lss hE8 hE7) ?_
  refine rl_end ?_
  refine wt_seq ?_
  by_cases hp : v < ((s.length : Nat) : Int)
  · replace h := h.1 hp
    refine wt_cond_t (congrArg Value.bool (decide_eq_true hp)) ?_
    refine wt_skip ?_
    refine wt_seq ?_
    refine wt_block ?_
    refine wt_seq ?_
    refine wl_region wd_wide ?_
    refine rl_q rfl rfl rfl (v_move (v := (Value.int .i64 v)) hE8) ?_
    refine rl_q rfl rfl rfl (v_assign (v := (Value.int .i64 v)) rfl) ?_
    refine rl_end ?_
    refine wt_seq ?_
    refine wl_region wd_wide ?_
    refine rl_q rfl rfl rfl (v_move (v := f) hE1) ?_
    refine rl_q rfl rfl rfl (v_move (v := (Value.slice As ls cs)) hE0) ?_
    refine rl_q rfl rfl rfl (v_move (v := (Value.int .i64 v)) rfl) ?_
    obtain ⟨hx, h⟩ := h
    refine rl_q rfl rfl rfl (v_iaddr rfl rfl Try.underlying30 info_3 (rd_ix (hS.rdr 0 rfl) hx)) ?_
    refine rl_q rfl rfl rfl (v_load (v := (Value.int .i64 (gi s v.toNat))) rfl Try.underlying3 rfl (rd_1 (hS.rdr 0 rfl) hx (fun q => gi_some q) rfl)) ?_
    obtain ⟨fid, us, hf, he, hcl⟩ := hS.ro 1 rfl _ (Keeps.refl _ _)
    replace h := hcl _ _ h
    clear hcl
    refine rl_n rfl rfl rfl rfl (n_call (hf) (am1 rfl) he (h.mono ?_))
    clear hf he
    rintro _ w3 ⟨r, rfl, hC, h⟩
    replace hS := hS.pur hC.pure
    clear hC
    refine ⟨_, rfl, ?_⟩
    refine ⟨Stb.none _, ?_⟩
    refine rl_end ?_
    by_cases hp2 : r = true
    · replace h := h.1 hp2
      refine wt_cond_t (congrArg Value.bool hp2) ?_
      refine wt_seq ?_
      refine wl_region wd_wide ?_
      refine rl_q rfl rfl rfl (v_move (v := (Value.int .i64 v)) rfl) ?_
      refine rl_q rfl rfl rfl (v_assign (v := (Value.int .i64 v)) rfl) ?_
      refine rl_end ?_
      exact wt_ret1 rfl rfl ⟨_, rfl, (hS.sel [] (by decide)), h⟩
    · replace h := h.2 hp2
      refine wt_cond_f (congrArg Value.bool (Bool.eq_false_iff.2 hp2)) ?_
      refine wt_skip ?_
      refine wt_inBlock ?_
      refine wl_region wd_wide ?_
      obtain ⟨hi, h⟩ := h
      refine rl_q rfl rfl rfl (v_add hE8 rfl hi) ?_
      refine rl_q rfl rfl rfl (v_move (v := (Value.int .i64 (v + 1))) rfl) ?_
      refine rl_end ?_
      obtain ⟨mq, hlt, h⟩ := h
      exact again mq _ _ _ ⟨_, h, rfl, hE0, hE1, hE7, rfl, (hS.sel [0, 1] (by decide))⟩ hlt
  · replace h := h.2 hp
    refine wt_cond_f (congrArg Value.bool (decide_eq_false hp)) ?_
    refine wt_exit rfl ?_
    refine wt_seq ?_
    refine wl_region wd_wide ?_
    refine rl_q rfl rfl rfl (v_assign (v := (Value.int .i64 (-1))) rfl) ?_
    refine rl_end ?_
    exact wt_ret1 rfl rfl ⟨_, rfl, (hS.sel [] (by decide)), h⟩

/-- slices.ContainsFunc[sandpile/api.Script,int]: what it computes. -/
def pf_slices_ContainsFunc_Script (s : List Int) (Ff : Int → (Bool → Prop) → Prop) (R : Bool → Prop) : Prop :=
pf_slices_IndexFunc_Script s Ff (fun (r : Int) =>
R (decide (0 ≤ r)))
theorem pok_slices_ContainsFunc_Script {O : Nat → Prop} {w : World} {s : List Int} {Ff : Int → (Bool → Prop) → Prop} {As : Option Addr} {ls : Nat} {cs : Nat} {f : Value} {R : Bool → Prop} (h : pf_slices_ContainsFunc_Script s Ff R) (hO : ∀ k, O k → k < w.heap.size) (a0 : (FP.sl cI As ls cs s).P O w) (a1 : (FP.st fun w' => ∃ (fid : Nat) (us : Array Value), f = Value.func (.func fid) #[] us ∧ Enters Try.prog fid ∧ ∀ (x0 : Int) (R : Bool → Prop), Ff x0 R → Calls Try.prog fid (#[(Value.int .i64 x0)] ++ us) w' fun e w'' => ∃ r0 : Bool, e = .returned (Value.bool (r0)) ∧ Sep w' no no w'' (rl []) ∧ R r0).P O w) :
    Calls Try.prog 35 #[(Value.slice As ls cs), f] w fun e w' => ∃ r2 : Bool, e = .returned (Value.bool (r2)) ∧ Sep w no O w' (rl []) ∧ R r2 := by
  unfold pf_slices_ContainsFunc_Script at h
  have hS : Sep w no O w (rl [Res.ro (FP.sl cI As ls cs s), Res.ro (FP.st fun w' => ∃ (fid : Nat) (us : Array Value), f = Value.func (.func fid) #[] us ∧ Enters Try.prog fid ∧ ∀ (x0 : Int) (R : Bool → Prop), Ff x0 R → Calls Try.prog fid (#[(Value.int .i64 x0)] ++ us) w' fun e w'' => ∃ r0 : Bool, e = .returned (Value.bool (r0)) ∧ Sep w' no no w'' (rl []) ∧ R r0)]) := Sep.startl hO [(FP.sl cI As ls cs s), (FP.st fun w' => ∃ (fid : Nat) (us : Array Value), f = Value.func (.func fid) #[] us ∧ Enters Try.prog fid ∧ ∀ (x0 : Int) (R : Bool → Prop), Ff x0 R → Calls Try.prog fid (#[(Value.int .i64 x0)] ++ us) w' fun e w'' => ∃ r0 : Bool, e = .returned (Value.bool (r0)) ∧ Sep w' no no w'' (rl []) ∧ R r0)] ⟨a0, a1, trivial⟩
  refine calls_sh (l := [(Value.slice As ls cs), f]) Try.func35 rfl Try.ntmps35 (Nat.le_of_ble_eq_true rfl) ?_
  refine wt_seq ?_
  refine wl_region wd_wide ?_
  refine rl_q rfl rfl rfl (v_assign (v := (Value.bool (false))) rfl) ?_
  refine rl_end ?_
  refine wt_seq ?_
  refine wl_region wd_wide ?_
  refine rl_q rfl rfl rfl (v_move (v := (Value.slice As ls cs)) rfl) ?_
  refine rl_q rfl rfl rfl (v_move (v := f) rfl) ?_
  refine rl_n rfl rfl rfl rfl (n_call0 rfl (am2 rfl rfl) enter_79 ((pok_slices_IndexFunc_Script h (no_lt _) (hS.rdr 0 rfl) (FP.sub _ (hS.ro 1 rfl) (fun _ _ h => h.elim) : FP.P _ no _)).mono ?_))
  rintro _ w2 ⟨r, rfl, hC, h⟩
  replace hS := hS.pur hC.pure
  clear hC
  refine ⟨_, rfl, ?_⟩
  refine ⟨Stb.none _, ?_⟩
  refine rl_q rfl rfl rfl (v_geq rfl rfl) ?_
  refine rl_q rfl rfl rfl (v_assign (v := (Value.bool (decide (0 ≤ r)))) rfl) ?_
  refine rl_end ?_
  exact wt_ret1 rfl rfl ⟨_, rfl, (hS.sel [] (by decide)), h⟩

/-- slices.IndexFunc[sandpile/api.Divisor,int]: what it computes. -/
def pf_slices_IndexFunc_Divisor (s : List Int) (Ff : Int → (Bool → Prop) → Prop) (R : Int → Prop) : Prop :=
(∃ I2 : Nat → Int → Prop, (∃ m0, I2 m0 0) ∧ ∀ (m2 : Nat) (v : Int), I2 m2 v → 
((v < ((s.length : Nat) : Int) →
((0 ≤ v ∧ v < ((s.length : Nat) : Int)) ∧
Ff (gi s v.toNat) (fun (r : Bool) =>
((r = true →
R v) ∧
(¬ (r = true) →
(In64 (v + 1) ∧
∃ m3, m3 < m2 ∧ I2 m3 (v + 1))))))) ∧
(¬ (v < ((s.length : Nat) : Int)) →
R (-1))))
theorem pok_slices_IndexFunc_Divisor {O : Nat → Prop} {w : World} {s : List Int} {Ff : Int → (Bool → Prop) → Prop} {As : Option Addr} {ls : Nat} {cs : Nat} {f : Value} {R : Int → Prop} (h : pf_slices_IndexFunc_Divisor s Ff R) (hO : ∀ k, O k → k < w.heap.size) (a0 : (FP.sl cI As ls cs s).P O w) (a1 : (FP.st fun w' => ∃ (fid : Nat) (us : Array Value), f = Value.func (.func fid) #[] us ∧ Enters Try.prog fid ∧ ∀ (x0 : Int) (R : Bool → Prop), Ff x0 R → Calls Try.prog fid (#[(Value.int .i64 x0)] ++ us) w' fun e w'' => ∃ r0 : Bool, e = .returned (Value.bool (r0)) ∧ Sep w' no no w'' (rl []) ∧ R r0).P O w) :
    Calls Try.prog 134 #[(Value.slice As ls cs), f] w fun e w' => ∃ r2 : Int, e = .returned (Value.int .i64 r2) ∧ Sep w no O w' (rl []) ∧ R r2 := by
  unfold pf_slices_IndexFunc_Divisor at h
  have hS : Sep w no O w (rl [Res.ro (FP.sl cI As ls cs s), Res.ro (FP.st fun w' => ∃ (fid : Nat) (us : Array Value), f = Value.func (.func fid) #[] us ∧ Enters Try.prog fid ∧ ∀ (x0 : Int) (R : Bool → Prop), Ff x0 R → Calls Try.prog fid (#[(Value.int .i64 x0)] ++ us) w' fun e w'' => ∃ r0 : Bool, e = .returned (Value.bool (r0)) ∧ Sep w' no no w'' (rl []) ∧ R r0)]) := Sep.startl hO [(FP.sl cI As ls cs s), (FP.st fun w' => ∃ (fid : Nat) (us : Array Value), f = Value.func (.func fid) #[] us ∧ Enters Try.prog fid ∧ ∀ (x0 : Int) (R : Bool → Prop), Ff x0 R → Calls Try.prog fid (#[(Value.int .i64 x0)] ++ us) w' fun e w'' => ∃ r0 : Bool, e = .returned (Value.bool (r0)) ∧ Sep w' no no w'' (rl []) ∧ R r0)] ⟨a0, a1, trivial⟩
  refine calls_sh (l := [(Value.slice As ls cs), f]) Try.func134 rfl Try.ntmps134 (Nat.le_of_ble_eq_true rfl) ?_
  refine wt_seq ?_
  refine wl_region wd_wide ?_
  refine rl_q rfl rfl rfl (v_assign (v := (Value.int .i64 0)) rfl) ?_
  refine rl_end ?_
  refine wt_seq ?_
  refine wt_seq ?_
  refine wl_region wd_wide ?_
  refine rl_q rfl rfl rfl (v_move (v := (Value.slice As ls cs)) rfl) ?_
  refine rl_q rfl rfl rfl (v_lenx (n := s.length) rfl Try.underlying26 (rd_len (hS.rdr 0 rfl))) ?_
  refine rl_q rfl rfl rfl (v_move (v := (Value.int .i64 0)) rfl) ?_
  refine rl_end ?_
  refine wt_block ?_
  obtain ⟨I2, ⟨m0, h0⟩, hr⟩ := h
  refine wt_loop (fun m E ds w' => ∃ v : Int, I2 m v ∧ ds = [] ∧ E 0 = (Value.slice As ls cs) ∧ E 1 = f ∧ E 7 = (Value.int .i64 ((s.length : Nat) : Int)) ∧ E 8 = (Value.int .i64 v) ∧ Sep w no O w' (rl [Res.ro (FP.sl cI As ls cs s), Res.ro (FP.st fun w' => ∃ (fid : Nat) (us : Array Value), f = Value.func (.func fid) #[] us ∧ Enters Try.prog fid ∧ ∀ (x0 : Int) (R : Bool → Prop), Ff x0 R → Calls Try.prog fid (#[(Value.int .i64 x0)] ++ us) w' fun e w'' => ∃ r0 : Bool, e = .returned (Value.bool (r0)) ∧ Sep w' no no w'' (rl []) ∧ R r0)])) m0 ⟨_, h0, rfl, rfl, rfl, rfl, rfl, (hS.sel [0, 1] (by decide))⟩ ?_
  clear h0 hS
  rintro m2 E ds w2 ⟨v, h, rfl, hE0, hE1, hE7, hE8, hS⟩ again
  replace h := hr m2 v h
  clear hr
  refine wt_seq ?_
  refine wl_region wd_wide ?_
  refine rl_q rfl rfl rfl (v_lss hE8 hE7) ?_
  refine rl_end ?_
  refine wt_seq ?_
  by_cases hp : v < ((s.length : Nat) : Int)
  · replace h := h.1 hp
    refine wt_cond_t (congrArg Value.bool (decide_eq_true hp)) ?_
    refine wt_skip ?_
    refine wt_seq ?_
    refine wt_block ?_
    refine wt_seq ?_
    refine wl_region wd_wide ?_
    refine rl_q rfl rfl rfl (v_move (v := (Value.int .i64 v)) hE8) ?_
    refine rl_q rfl rfl rfl (v_assign (v := (Value.int .i64 v)) rfl) ?_
    refine rl_end ?_
    refine wt_seq ?_
    refine wl_region wd_wide ?_
    refine rl_q rfl rfl rfl (v_move (v := f) hE1) ?_
    refine rl_q rfl rfl rfl (v_move (v := (Value.slice As ls cs)) hE0) ?_
    refine rl_q rfl rfl rfl (v_move (v := (Value.int .i64 v)) rfl) ?_
    obtain ⟨hx, h⟩ := h
    refine rl_q rfl rfl rfl (v_iaddr rfl rfl Try.underlying26 info_3 (rd_ix (hS.rdr 0 rfl) hx)) ?_
    refine rl_q rfl rfl rfl (v_load (v := (Value.int .i64 (gi s v.toNat))) rfl Try.underlying3 rfl (rd_1 (hS.rdr 0 rfl) hx (fun q => gi_some q) rfl)) ?_
    obtain ⟨fid, us, hf, he, hcl⟩ := hS.ro 1 rfl _ (Keeps.refl _ _)
    replace h := hcl _ _ h
    clear hcl
    refine rl_n rfl rfl rfl rfl (n_call (hf) (am1 rfl) he (h.mono ?_))
    clear hf he
    rintro _ w3 ⟨r, rfl, hC, h⟩
    replace hS := hS.pur hC.pure
    clear hC
    refine ⟨_, rfl, ?_⟩
    refine ⟨Stb.none _, ?_⟩
    refine rl_end ?_
    by_cases hp2 : r = true
    · replace h := h.1 hp2
      refine wt_cond_t (congrArg Value.bool hp2) ?_
      refine wt_seq ?_
      refine wl_region wd_wide ?_
      refine rl_q rfl rfl rfl (v_move (v := (Value.int .i64 v)) rfl) ?_
      refine rl_q rfl rfl rfl (v_assign (v := (Value.int .i64 v)) rfl) ?_
      refine rl_end ?_
      exact wt_ret1 rfl rfl ⟨_, rfl, (hS.sel [] (by decide)), h⟩
    · replace h := h.2 hp2
      refine wt_cond_f (congrArg Value.bool (Bool.eq_false_iff.2 hp2)) ?_
      refine wt_skip ?_
      refine wt_inBlock ?_
      refine wl_region wd_wide ?_
      obtain ⟨hi, h⟩ := h
      refine rl_q rfl rfl rfl (v_add hE8 rfl hi) ?_
      refine rl_q rfl rfl rfl (v_move (v := (Value.int .i64 (v + 1))) rfl) ?_
      refine rl_end ?_
      obtain ⟨mq, hlt, h⟩ := h
      exact again mq _ _ _ ⟨_, h, rfl, hE0, hE1, hE7, rfl, (hS.sel [0, 1] (by decide))⟩ hlt
  · replace h := h.2 hp
    refine wt_cond_f (congrArg Value.bool (decide_eq_false hp)) ?_
    refine wt_exit rfl ?_
    refine wt_seq ?_
    refine wl_region wd_wide ?_
    refine rl_q rfl rfl rfl (v_assign (v := (Value.int .i64 (-1))) rfl) ?_
    refine rl_end ?_
    exact wt_ret1 rfl rfl ⟨_, rfl, (hS.sel [] (by decide)), h⟩

/-- slices.ContainsFunc[sandpile/api.Divisor,int]: what it computes. -/
def pf_slices_ContainsFunc_Divisor (s : List Int) (Ff : Int → (Bool → Prop) → Prop) (R : Bool → Prop) : Prop :=
pf_slices_IndexFunc_Divisor s Ff (fun (r : Int) =>
R (decide (0 ≤ r)))
theorem pok_slices_ContainsFunc_Divisor {O : Nat → Prop} {w : World} {s : List Int} {Ff : Int → (Bool → Prop) → Prop} {As : Option Addr} {ls : Nat} {cs : Nat} {f : Value} {R : Bool → Prop} (h : pf_slices_ContainsFunc_Divisor s Ff R) (hO : ∀ k, O k → k < w.heap.size) (a0 : (FP.sl cI As ls cs s).P O w) (a1 : (FP.st fun w' => ∃ (fid : Nat) (us : Array Value), f = Value.func (.func fid) #[] us ∧ Enters Try.prog fid ∧ ∀ (x0 : Int) (R : Bool → Prop), Ff x0 R → Calls Try.prog fid (#[(Value.int .i64 x0)] ++ us) w' fun e w'' => ∃ r0 : Bool, e = .returned (Value.bool (r0)) ∧ Sep w' no no w'' (rl []) ∧ R r0).P O w) :
    Calls Try.prog 95 #[(Value.slice As ls cs), f] w fun e w' => ∃ r2 : Bool, e = .returned (Value.bool (r2)) ∧ Sep w no O w' (rl []) ∧ R r2 := by
  unfold pf_slices_ContainsFunc_Divisor at h
  have hS : Sep w no O w (rl [Res.ro (FP.sl cI As ls cs s), Res.ro (FP.st fun w' => ∃ (fid : Nat) (us : Array Value), f = Value.func (.func fid) #[] us ∧ Enters Try.prog fid ∧ ∀ (x0 : Int) (R : Bool → Prop), Ff x0 R → Calls Try.prog fid (#[(Value.int .i64 x0)] ++ us) w' fun e w'' => ∃ r0 : Bool, e = .returned (Value.bool (r0)) ∧ Sep w' no no w'' (rl []) ∧ R r0)]) := Sep.startl hO [(FP.sl cI As ls cs s), (FP.st fun w' => ∃ (fid : Nat) (us : Array Value), f = Value.func (.func fid) #[] us ∧ Enters Try.prog fid ∧ ∀ (x0 : Int) (R : Bool → Prop), Ff x0 R → Calls Try.prog fid (#[(Value.int .i64 x0)] ++ us) w' fun e w'' => ∃ r0 : Bool, e = .returned (Value.bool (r0)) ∧ Sep w' no no w'' (rl []) ∧ R r0)] ⟨a0, a1, trivial⟩
  refine calls_sh (l := [(Value.slice As ls cs), f]) Try.func95 rfl Try.ntmps95 (Nat.le_of_ble_eq_true rfl) ?_
  refine wt_seq ?_
  refine wl_region wd_wide ?_
  refine rl_q rfl rfl rfl (v_assign (v := (Value.bool (false))) rfl) ?_
  refine rl_end ?_
  refine wt_seq ?_
  refine wl_region wd_wide ?_
  refine rl_q rfl rfl rfl (v_move (v := (Value.slice As ls cs)) rfl) ?_
  refine rl_q rfl rfl rfl (v_move (v := f) rfl) ?_
  refine rl_n rfl rfl rfl rfl (n_call0 rfl (am2 rfl rfl) enter_134 ((pok_slices_IndexFunc_Divisor h (no_lt _) (hS.rdr 0 rfl) (FP.sub _ (hS.ro 1 rfl) (fun _ _ h => h.elim) : FP.P _ no _)).mono ?_))
  rintro _ w2 ⟨r, rfl, hC, h⟩
  replace hS := hS.pur hC.pure
  clear hC
  refine ⟨_, rfl, ?_⟩
  refine ⟨Stb.none _, ?_⟩
  refine rl_q rfl rfl rfl (v_geq rfl rfl) ?_
  refine rl_q rfl rfl rfl (v_assign (v := (Value.bool (decide (0 ≤ r)))) rfl) ?_
  refine rl_end ?_
  exact wt_ret1 rfl rfl ⟨_, rfl, (hS.sel [] (by decide)), h⟩

/-- slices.Index[[]int,int]: what it computes. -/
def pf_slices_Index_intS (s : List Int) (v : Int) (R : Int → Prop) : Prop :=
(∃ I2 : Nat → Int → Prop, (∃ m0, I2 m0 0) ∧ ∀ (m2 : Nat) (v2 : Int), I2 m2 v2 → 
((v2 < ((s.length : Nat) : Int) →
((0 ≤ v2 ∧ v2 < ((s.length : Nat) : Int)) ∧
((v = (gi s v2.toNat) →
R v2) ∧
(¬ (v = (gi s v2.toNat)) →
(In64 (v2 + 1) ∧
∃ m3, m3 < m2 ∧ I2 m3 (v2 + 1)))))) ∧
(¬ (v2 < ((s.length : Nat) : Int)) →
R (-1))))
theorem pok_slices_Index_intS {O : Nat → Prop} {w : World} {s : List Int} {v : Int} {As : Option Addr} {ls : Nat} {cs : Nat} {R : Int → Prop} (h : pf_slices_Index_intS s v R) (hO : ∀ k, O k → k < w.heap.size) (a0 : (FP.sl cI As ls cs s).P O w) :
    Calls Try.prog 85 #[(Value.slice As ls cs), (Value.int .i64 v)] w fun e w' => ∃ r : Int, e = .returned (Value.int .i64 r) ∧ Sep w no O w' (rl []) ∧ R r := by
  unfold pf_slices_Index_intS at h
  have hS : Sep w no O w (rl [Res.ro (FP.sl cI As ls cs s)]) := Sep.startl hO [(FP.sl cI As ls cs s)] ⟨a0, trivial⟩
  refine calls_sh (l := [(Value.slice As ls cs), (Value.int .i64 v)]) Try.func85 rfl Try.ntmps85 (Nat.le_of_ble_eq_true rfl) ?_
  refine wt_seq ?_
  refine wl_region wd_wide ?_
  refine rl_q rfl rfl rfl (v_assign (v := (Value.int .i64 0)) rfl) ?_
  refine rl_end ?_
  refine wt_seq ?_
  refine wt_seq ?_
  refine wl_region wd_wide ?_
  refine rl_q rfl rfl rfl (v_move (v := (Value.slice As ls cs)) rfl) ?_
  refine rl_q rfl rfl rfl (v_lenx (n := s.length) rfl Try.underlying25 (rd_len (hS.rdr 0 rfl))) ?_
  refine rl_q rfl rfl rfl (v_move (v := (Value.int .i64 0)) rfl) ?_
  refine rl_end ?_
  refine wt_block ?_
  obtain ⟨I2, ⟨m0, h0⟩, hr⟩ := h
  refine wt_loop (fun m E ds w' => ∃ v2 : Int, I2 m v2 ∧ ds = [] ∧ E 0 = (Value.slice As ls cs) ∧ E 1 = (Value.int .i64 v) ∧ E 7 = (Value.int .i64 ((s.length : Nat) : Int)) ∧ E 8 = (Value.int .i64 v2) ∧ Sep w no O w' (rl [Res.ro (FP.sl cI As ls cs s)])) m0 ⟨_, h0, rfl, rfl, rfl, rfl, rfl, (hS.sel [0] (by decide))⟩ ?_
  clear h0 hS
  rintro m2 E ds w2 ⟨v2, h, rfl, hE0, hE1, hE7, hE8, hS⟩ again
  replace h := hr m2 v2 h
  clear hr
  refine wt_seq ?_
  refine wl_region wd_wide ?_
  refine rl_q rfl rfl rfl (v_lss hE8 hE7) ?_
  refine rl_end ?_
  refine wt_seq ?_
  by_cases hp : v2 < ((s.length : Nat) : Int)
  · replace h := h.1 hp
    refine wt_cond_t (congrArg Value.bool (decide_eq_true hp)) ?_
    refine wt_skip ?_
    refine wt_seq ?_
    refine wt_block ?_
    refine wt_seq ?_
    refine wl_region wd_wide ?_
    refine rl_q rfl rfl rfl (v_move (v := (Value.int .i64 v2)) hE8) ?_
    refine rl_q rfl rfl rfl (v_assign (v := (Value.int .i64 v2)) rfl) ?_
    refine rl_end ?_
    refine wt_seq ?_
    refine wl_region wd_wide ?_
    refine rl_q rfl rfl rfl (v_move (v := (Value.int .i64 v)) hE1) ?_
    refine rl_q rfl rfl rfl (v_move (v := (Value.slice As ls cs)) hE0) ?_
    refine rl_q rfl rfl rfl (v_move (v := (Value.int .i64 v2)) rfl) ?_
    obtain ⟨hx, h⟩ := h
    refine rl_q rfl rfl rfl (v_iaddr rfl rfl Try.underlying25 info_3 (rd_ix (hS.rdr 0 rfl) hx)) ?_
    refine rl_q rfl rfl rfl (v_load (v := (Value.int .i64 (gi s v2.toNat))) rfl Try.underlying3 rfl (rd_1 (hS.rdr 0 rfl) hx (fun q => gi_some q) rfl)) ?_
    refine rl_q rfl rfl rfl (v_eql rfl rfl) ?_
    refine rl_end ?_
    by_cases hp2 : v = (gi s v2.toNat)
    · replace h := h.1 hp2
      refine wt_cond_t (congrArg Value.bool (decide_eq_true hp2)) ?_
      refine wt_seq ?_
      refine wl_region wd_wide ?_
      refine rl_q rfl rfl rfl (v_move (v := (Value.int .i64 v2)) rfl) ?_
      refine rl_q rfl rfl rfl (v_assign (v := (Value.int .i64 v2)) rfl) ?_
      refine rl_end ?_
      exact wt_ret1 rfl rfl ⟨_, rfl, (hS.sel [] (by decide)), h⟩
    · replace h := h.2 hp2
      refine wt_cond_f (congrArg Value.bool (decide_eq_false hp2)) ?_
      refine wt_skip ?_
      refine wt_inBlock ?_
      refine wl_region wd_wide ?_
      obtain ⟨hi, h⟩ := h
      refine rl_q rfl rfl rfl (v_add hE8 rfl hi) ?_
      refine rl_q rfl rfl rfl (v_move (v := (Value.int .i64 (v2 + 1))) rfl) ?_
      refine rl_end ?_
      obtain ⟨mq, hlt, h⟩ := h
      exact again mq _ _ _ ⟨_, h, rfl, hE0, hE1, hE7, rfl, (hS.sel [0] (by decide))⟩ hlt
  · replace h := h.2 hp
    refine wt_cond_f (congrArg Value.bool (decide_eq_false hp)) ?_
    refine wt_exit rfl ?_
    refine wt_seq ?_
    refine wl_region wd_wide ?_
    refine rl_q rfl rfl rfl (v_assign (v := (Value.int .i64 (-1))) rfl) ?_
    refine rl_end ?_
    exact wt_ret1 rfl rfl ⟨_, rfl, (hS.sel [] (by decide)), h⟩

/-- slices.Contains[[]int,int]: what it computes. -/
def pf_slices_Contains_intS (s : List Int) (v : Int) (R : Bool → Prop) : Prop :=
pf_slices_Index_intS s v (fun (r : Int) =>
R (decide (0 ≤ r)))
theorem pok_slices_Contains_intS {O : Nat → Prop} {w : World} {s : List Int} {v : Int} {As : Option Addr} {ls : Nat} {cs : Nat} {R : Bool → Prop} (h : pf_slices_Contains_intS s v R) (hO : ∀ k, O k → k < w.heap.size) (a0 : (FP.sl cI As ls cs s).P O w) :
    Calls Try.prog 41 #[(Value.slice As ls cs), (Value.int .i64 v)] w fun e w' => ∃ r2 : Bool, e = .returned (Value.bool (r2)) ∧ Sep w no O w' (rl []) ∧ R r2 := by
  unfold pf_slices_Contains_intS at h
  have hS : Sep w no O w (rl [Res.ro (FP.sl cI As ls cs s)]) := Sep.startl hO [(FP.sl cI As ls cs s)] ⟨a0, trivial⟩
  refine calls_sh (l := [(Value.slice As ls cs), (Value.int .i64 v)]) Try.func41 rfl Try.ntmps41 (Nat.le_of_ble_eq_true rfl) ?_
  refine wt_seq ?_
  refine wl_region wd_wide ?_
  refine rl_q rfl rfl rfl (v_assign (v := (Value.bool (false))) rfl) ?_
  refine rl_end ?_
  refine wt_seq ?_
  refine wl_region wd_wide ?_
  refine rl_q rfl rfl rfl (v_move (v := (Value.slice As ls cs)) rfl) ?_
  refine rl_q rfl rfl rfl (v_move (v := (Value.int .i64 v)) rfl) ?_
  refine rl_n rfl rfl rfl rfl (n_call0 rfl (am2 rfl rfl) enter_85 ((pok_slices_Index_intS h (no_lt _) (hS.rdr 0 rfl)).mono ?_))
  rintro _ w2 ⟨r, rfl, hC, h⟩
  replace hS := hS.pur hC.pure
  clear hC
  refine ⟨_, rfl, ?_⟩
  refine ⟨Stb.none _, ?_⟩
  refine rl_q rfl rfl rfl (v_geq rfl rfl) ?_
  refine rl_q rfl rfl rfl (v_assign (v := (Value.bool (decide (0 ≤ r)))) rfl) ?_
  refine rl_end ?_
  exact wt_ret1 rfl rfl ⟨_, rfl, (hS.sel [] (by decide)), h⟩

/-- cmp.isNaN[int]: what it computes. -/
def pf_cmp_isNaN_int (x : Int) (R : Bool → Prop) : Prop :=
R (!(decide (x = x)))
theorem pok_cmp_isNaN_int {O : Nat → Prop} {w : World} {x : Int} {R : Bool → Prop} (h : pf_cmp_isNaN_int x R) (hO : ∀ k, O k → k < w.heap.size) :
    Calls Try.prog 130 #[(Value.int .i64 x)] w fun e w' => ∃ r : Bool, e = .returned (Value.bool (r)) ∧ Sep w no O w' (rl []) ∧ R r := by
  unfold pf_cmp_isNaN_int at h
  have hS : Sep w no O w (rl []) := Sep.start w hO
  refine calls_sh (l := [(Value.int .i64 x)]) Try.func130 rfl Try.ntmps130 (Nat.le_of_ble_eq_true rfl) ?_
  refine wt_seq ?_
  refine wl_region wd_wide ?_
  refine rl_q rfl rfl rfl (v_assign (v := (Value.bool (false))) rfl) ?_
  refine rl_end ?_
  refine wt_seq ?_
  refine wl_region wd_wide ?_
  refine rl_q rfl rfl rfl (v_move (v := (Value.int .i64 x)) rfl) ?_
  refine rl_q rfl rfl rfl (v_move (v := (Value.int .i64 x)) rfl) ?_
  refine rl_q rfl rfl rfl (v_neq rfl rfl) ?_
  refine rl_q rfl rfl rfl (v_assign (v := (Value.bool (!(decide (x = x))))) rfl) ?_
  refine rl_end ?_
  exact wt_ret1 rfl rfl ⟨_, rfl, (hS.sel [] (by decide)), h⟩

/-- cmp.Less[int]: what it computes. -/
def pf_cmp_Less_int (x : Int) (y : Int) (R : Bool → Prop) : Prop :=
pf_cmp_isNaN_int x (fun (r : Bool) =>
((r = true →
pf_cmp_isNaN_int y (fun (r2 : Bool) =>
((r2 = true →
R (decide (x < y))) ∧
(¬ (r2 = true) →
R true)))) ∧
(¬ (r = true) →
R (decide (x < y)))))
theorem pok_cmp_Less_int {O : Nat → Prop} {w : World} {x : Int} {y : Int} {R : Bool → Prop} (h : pf_cmp_Less_int x y R) (hO : ∀ k, O k → k < w.heap.size) :
    Calls Try.prog 86 #[(Value.int .i64 x), (Value.int .i64 y)] w fun e w' => ∃ r3 : Bool, e = .returned (Value.bool (r3)) ∧ Sep w no O w' (rl []) ∧ R r3 := by
  unfold pf_cmp_Less_int at h
  have hS : Sep w no O w (rl []) := Sep.start w hO
  refine calls_sh (l := [(Value.int .i64 x), (Value.int .i64 y)]) Try.func86 rfl Try.ntmps86 (Nat.le_of_ble_eq_true rfl) ?_
  refine wt_seq ?_
  refine wl_region wd_wide ?_
  refine rl_q rfl rfl rfl (v_assign (v := (Value.bool (false))) rfl) ?_
  refine rl_end ?_
  refine wt_seq ?_
  refine wl_region wd_wide ?_
  refine rl_q rfl rfl rfl (v_move (v := (Value.int .i64 x)) rfl) ?_
  refine rl_n rfl rfl rfl rfl (n_call0 rfl (am1 rfl) enter_130 ((pok_cmp_isNaN_int h (no_lt _)).mono ?_))
  rintro _ w2 ⟨r, rfl, hC, h⟩
  replace hS := hS.pur hC.pure
  clear hC
  refine ⟨_, rfl, ?_⟩
  refine ⟨Stb.none _, ?_⟩
  refine rl_q rfl rfl rfl (v_move (v := (Value.bool (r))) rfl) ?_
  by_cases hp : r = true
  · replace h := h.1 hp
    refine rl_q (wanted_g rfl (yE_of rfl (congrArg Value.bool hp))) rfl rfl (v_move (v := (Value.int .i64 y)) rfl) ?_
    refine rl_n (wanted_g rfl (yE_of rfl (congrArg Value.bool hp))) rfl rfl rfl (n_call0 rfl (am1 rfl) enter_130 ((pok_cmp_isNaN_int h (no_lt _)).mono ?_))
    rintro _ w3 ⟨r2, rfl, hC, h⟩
    replace hS := hS.pur hC.pure
    clear hC
    refine ⟨_, rfl, ?_⟩
    refine ⟨Stb.none _, ?_⟩
    refine rl_q (wanted_g rfl (yE_of rfl (congrArg Value.bool hp))) rfl rfl (v_not rfl) ?_
    refine rl_q rfl rfl rfl (v_pick_t (v := (Value.bool (!(r2)))) (congrArg Value.bool hp) rfl) ?_
    refine rl_q rfl rfl rfl (v_move (v := (Value.bool (!(r2)))) rfl) ?_
    by_cases hp2 : r2 = true
    · replace h := h.1 hp2
      refine rl_q (wanted_g rfl (yE_of rfl (congrArg Value.bool (congrArg Bool.not hp2)))) rfl rfl (v_move (v := (Value.int .i64 x)) rfl) ?_
      refine rl_q (wanted_g rfl (yE_of rfl (congrArg Value.bool (congrArg Bool.not hp2)))) rfl rfl (v_move (v := (Value.int .i64 y)) rfl) ?_
      refine rl_q (wanted_g rfl (yE_of rfl (congrArg Value.bool (congrArg Bool.not hp2)))) rfl rfl (v_lss rfl rfl) ?_
      refine rl_q rfl rfl rfl (v_pick_f (v := (Value.bool (decide (x < y)))) (congrArg Value.bool (congrArg Bool.not hp2)) rfl) ?_
      refine rl_q rfl rfl rfl (v_assign (v := (Value.bool (decide (x < y)))) rfl) ?_
      refine rl_end ?_
      exact wt_ret1 rfl rfl ⟨_, rfl, (hS.sel [] (by decide)), h⟩
    · replace h := h.2 hp2
      refine rl_p (wanted_n rfl (yE_of rfl (congrArg Value.bool (congrArg Bool.not (Bool.eq_false_iff.2 hp2)))) rfl) rfl ?_
      refine rl_p (wanted_n rfl (yE_of rfl (congrArg Value.bool (congrArg Bool.not (Bool.eq_false_iff.2 hp2)))) rfl) rfl ?_
      refine rl_p (wanted_n rfl (yE_of rfl (congrArg Value.bool (congrArg Bool.not (Bool.eq_false_iff.2 hp2)))) rfl) rfl ?_
      refine rl_q rfl rfl rfl (v_pick_t (v := (Value.bool (true))) (congrArg Value.bool (congrArg Bool.not (Bool.eq_false_iff.2 hp2))) rfl) ?_
      refine rl_q rfl rfl rfl (v_assign (v := (Value.bool (true))) rfl) ?_
      refine rl_end ?_
      exact wt_ret1 rfl rfl ⟨_, rfl, (hS.sel [] (by decide)), h⟩
  · replace h := h.2 hp
    refine rl_p (wanted_n rfl (yE_of rfl (congrArg Value.bool (Bool.eq_false_iff.2 hp))) rfl) rfl ?_
    refine rl_p (wanted_n rfl (yE_of rfl (congrArg Value.bool (Bool.eq_false_iff.2 hp))) rfl) rfl ?_
    refine rl_p (wanted_n rfl (yE_of rfl (congrArg Value.bool (Bool.eq_false_iff.2 hp))) rfl) rfl ?_
    refine rl_q rfl rfl rfl (v_pick_f (v := (Value.bool (false))) (congrArg Value.bool (Bool.eq_false_iff.2 hp)) rfl) ?_
    refine rl_q rfl rfl rfl (v_move (v := (Value.bool (false))) rfl) ?_
    refine rl_q (wanted_g rfl (yE_of rfl rfl)) rfl rfl (v_move (v := (Value.int .i64 x)) rfl) ?_
    refine rl_q (wanted_g rfl (yE_of rfl rfl)) rfl rfl (v_move (v := (Value.int .i64 y)) rfl) ?_
    refine rl_q (wanted_g rfl (yE_of rfl rfl)) rfl rfl (v_lss rfl rfl) ?_
    refine rl_q rfl rfl rfl (v_pick_f (v := (Value.bool (decide (x < y)))) rfl rfl) ?_
    refine rl_q rfl rfl rfl (v_assign (v := (Value.bool (decide (x < y)))) rfl) ?_
    refine rl_end ?_
    exact wt_ret1 rfl rfl ⟨_, rfl, (hS.sel [] (by decide)), h⟩

/-- slices.IsSorted[[]int,int]: what it computes. -/
def pf_slices_IsSorted_intS (x : List Int) (R : Bool → Prop) : Prop :=
(In64 (((x.length : Nat) : Int) - 1) ∧
(∃ I2 : Nat → Int → Prop, (∃ m0, I2 m0 (((x.length : Nat) : Int) - 1)) ∧ ∀ (m2 : Nat) (i : Int), I2 m2 i → 
((0 < i →
((0 ≤ i ∧ i < ((x.length : Nat) : Int)) ∧
(In64 (i - 1) ∧
((0 ≤ (i - 1) ∧ (i - 1) < ((x.length : Nat) : Int)) ∧
pf_cmp_Less_int (gi x i.toNat) (gi x (i - 1).toNat) (fun (r : Bool) =>
((r = true →
R false) ∧
(¬ (r = true) →
∃ m3, m3 < m2 ∧ I2 m3 (i - 1)))))))) ∧
(¬ (0 < i) →
R true))))
theorem pok_slices_IsSorted_intS {O : Nat → Prop} {w : World} {x : List Int} {Ax : Option Addr} {lx : Nat} {cx : Nat} {R : Bool → Prop} (h : pf_slices_IsSorted_intS x R) (hO : ∀ k, O k → k < w.heap.size) (a0 : (FP.sl cI Ax lx cx x).P O w) :
    Calls Try.prog 42 #[(Value.slice Ax lx cx)] w fun e w' => ∃ r2 : Bool, e = .returned (Value.bool (r2)) ∧ Sep w no O w' (rl []) ∧ R r2 := by
  unfold pf_slices_IsSorted_intS at h
  have hS : Sep w no O w (rl [Res.ro (FP.sl cI Ax lx cx x)]) := Sep.startl hO [(FP.sl cI Ax lx cx x)] ⟨a0, trivial⟩
  refine calls_sh (l := [(Value.slice Ax lx cx)]) Try.func42 rfl Try.ntmps42 (Nat.le_of_ble_eq_true rfl) ?_
  refine wt_seq ?_
  refine wl_region wd_wide ?_
  refine rl_q rfl rfl rfl (v_assign (v := (Value.bool (false))) rfl) ?_
  refine rl_end ?_
  refine wt_seq ?_
  refine wt_seq ?_
  refine wl_region wd_wide ?_
  refine rl_q rfl rfl rfl (v_move (v := (Value.slice Ax lx cx)) rfl) ?_
  refine rl_q rfl rfl rfl (v_lenx (n := x.length) rfl Try.underlying25 (rd_len (hS.rdr 0 rfl))) ?_
  obtain ⟨hi, h⟩ := h
  refine rl_q rfl rfl rfl (v_sub rfl rfl hi) ?_
  refine rl_q rfl rfl rfl (v_assign (v := (Value.int .i64 (((x.length : Nat) : Int) - 1))) rfl) ?_
  refine rl_end ?_
  refine wt_block ?_
  obtain ⟨I2, ⟨m0, h0⟩, hr⟩ := h
  refine wt_loop (fun m E ds w' => ∃ i : Int, I2 m i ∧ ds = [] ∧ E 0 = (Value.slice Ax lx cx) ∧ E 3 = (Value.int .i64 i) ∧ Sep w no O w' (rl [Res.ro (FP.sl cI Ax lx cx x)])) m0 ⟨_, h0, rfl, rfl, rfl, (hS.sel [0] (by decide))⟩ ?_
  clear h0 hS
  rintro m2 E ds w2 ⟨i, h, rfl, hE0, hE3, hS⟩ again
  replace h := hr m2 i h
  clear hr
  refine wt_seq ?_
  refine wt_seq ?_
  refine wl_region wd_wide ?_
  refine rl_q rfl rfl rfl (v_move (v := (Value.int .i64 i)) hE3) ?_
  refine rl_q rfl rfl rfl (v_gtr rfl rfl) ?_
  refine rl_end ?_
  by_cases hp : 0 < i
  · replace h := h.1 hp
    refine wt_cond_t (congrArg Value.bool (decide_eq_true hp)) ?_
    refine wt_skip ?_
    refine wt_seq ?_
    refine wt_block ?_
    refine wt_seq ?_
    refine wp_draw [0, 1, 2, 3, 4, 5, 6, 7, 8, 9] st0 wd_wide (by kernel_rfl) (by kernel_rfl) ?_
    replace hS := hS.drew
    refine rp_q rfl rfl rfl (v_move (v := (Value.slice Ax lx cx)) hE0) ?_
    refine rp_q rfl rfl rfl (v_move (v := (Value.int .i64 i)) hE3) ?_
    obtain ⟨hx, h⟩ := h
    refine rp_q rfl rfl rfl (v_iaddr rfl rfl Try.underlying25 info_3 (rd_ix (hS.rdr 0 rfl) hx)) ?_
    refine rp_q rfl rfl rfl (v_load (v := (Value.int .i64 (gi x i.toNat))) rfl Try.underlying3 rfl (rd_1 (hS.rdr 0 rfl) hx (fun q => gi_some q) rfl)) ?_
    refine rp_q rfl rfl rfl (v_move (v := (Value.slice Ax lx cx)) hE0) ?_
    refine rp_q rfl rfl rfl (v_move (v := (Value.int .i64 i)) hE3) ?_
    obtain ⟨hi2, h⟩ := h
    refine rp_q rfl rfl rfl (v_sub rfl rfl hi2) ?_
    obtain ⟨hx2, h⟩ := h
    refine rp_q rfl rfl rfl (v_iaddr rfl rfl Try.underlying25 info_3 (rd_ix (hS.rdr 0 rfl) hx2)) ?_
    refine rp_q rfl rfl rfl (v_load (v := (Value.int .i64 (gi x (i - 1).toNat))) rfl Try.underlying3 rfl (rd_1 (hS.rdr 0 rfl) hx2 (fun q => gi_some q) rfl)) ?_
    refine rp_n rfl rfl rfl rfl (n_call0 rfl (am2 rfl rfl) enter_86 ((pok_cmp_Less_int h (no_lt _)).mono ?_))
    rintro _ w3 ⟨r, rfl, hC, h⟩
    replace hS := hS.pur hC.pure
    clear hC
    refine ⟨_, rfl, ?_⟩
    refine ⟨Stb.none _, ?_⟩
    refine rp_end ?_
    by_cases hp2 : r = true
    · replace h := h.1 hp2
      refine wt_cond_t (congrArg Value.bool hp2) ?_
      refine wt_seq ?_
      refine wl_region wd_wide ?_
      refine rl_q rfl rfl rfl (v_assign (v := (Value.bool (false))) rfl) ?_
      refine rl_end ?_
      exact wt_ret1 rfl rfl ⟨_, rfl, (hS.sel [] (by decide)), h⟩
    · replace h := h.2 hp2
      refine wt_cond_f (congrArg Value.bool (Bool.eq_false_iff.2 hp2)) ?_
      refine wt_skip ?_
      refine wt_inBlock ?_
      refine wl_region wd_wide ?_
      refine rl_q rfl rfl rfl (v_move (v := (Value.int .i64 i)) hE3) ?_
      refine rl_q rfl rfl rfl (v_sub rfl rfl hi2) ?_
      refine rl_q rfl rfl rfl (v_assign (v := (Value.int .i64 (i - 1))) rfl) ?_
      refine rl_end ?_
      obtain ⟨mq, hlt, h⟩ := h
      exact again mq _ _ _ ⟨_, h, rfl, hE0, rfl, (hS.sel [0] (by decide))⟩ hlt
  · replace h := h.2 hp
    refine wt_cond_f (congrArg Value.bool (decide_eq_false hp)) ?_
    refine wt_exit rfl ?_
    refine wt_seq ?_
    refine wl_region wd_wide ?_
    refine rl_q rfl rfl rfl (v_assign (v := (Value.bool (true))) rfl) ?_
    refine rl_end ?_
    exact wt_ret1 rfl rfl ⟨_, rfl, (hS.sel [] (by decide)), h⟩

/-- slices.Min[sandpile/api.Divisor,int]: what it computes. -/
def pf_slices_Min_Divisor (x : List Int) (R : Int → Prop) : Prop :=
(∃ J2 : Prop, (J2 → ((0 ≤ (0 : Int) ∧ (0 : Int) < ((x.length : Nat) : Int)) ∧
(∃ I2 : Nat → Int → Int → Prop, (∃ m0, I2 m0 (gi x (0 : Int).toNat) 1) ∧ ∀ (m2 : Nat) (m3 : Int) (i : Int), I2 m2 m3 i → 
((i < ((x.length : Nat) : Int) →
((0 ≤ i ∧ i < ((x.length : Nat) : Int)) ∧
(In64 (i + 1) ∧
∃ m4, m4 < m2 ∧ I2 m4 (mnF m3 (gi x i.toNat)) (i + 1)))) ∧
(¬ (i < ((x.length : Nat) : Int)) →
R m3))))) ∧
((((x.length : Nat) : Int) < 1 →
False) ∧
(¬ (((x.length : Nat) : Int) < 1) →
J2)))
theorem pok_slices_Min_Divisor {O : Nat → Prop} {w : World} {x : List Int} {Ax : Option Addr} {lx : Nat} {cx : Nat} {R : Int → Prop} (h : pf_slices_Min_Divisor x R) (hO : ∀ k, O k → k < w.heap.size) (a0 : (FP.sl cI Ax lx cx x).P O w) :
    Calls Try.prog 132 #[(Value.slice Ax lx cx)] w fun e w' => ∃ r : Int, e = .returned (Value.int .i64 r) ∧ Sep w no O w' (rl []) ∧ R r := by
  unfold pf_slices_Min_Divisor at h
  have hS : Sep w no O w (rl [Res.ro (FP.sl cI Ax lx cx x)]) := Sep.startl hO [(FP.sl cI Ax lx cx x)] ⟨a0, trivial⟩
  refine calls_sh (l := [(Value.slice Ax lx cx)]) Try.func132 rfl Try.ntmps132 (Nat.le_of_ble_eq_true rfl) ?_
  refine wt_seq ?_
  refine wl_region wd_wide ?_
  refine rl_q rfl rfl rfl (v_assign (v := (Value.int .i64 0)) rfl) ?_
  refine rl_end ?_
  refine wt_seq ?_
  refine wt_seq ?_
  refine wl_region wd_wide ?_
  refine rl_q rfl rfl rfl (v_move (v := (Value.slice Ax lx cx)) rfl) ?_
  refine rl_q rfl rfl rfl (v_lenx (n := x.length) rfl Try.underlying26 (rd_len (hS.rdr 0 rfl))) ?_
  refine rl_q rfl rfl rfl (v_lss rfl rfl) ?_
  refine rl_end ?_
  obtain ⟨J2, hJ, h⟩ := h
  refine wt_cutT0 (fun E ds w' => J2 ∧ ds = [] ∧ E 0 = (Value.slice Ax lx cx) ∧ Sep w no O w' (rl [Res.ro (FP.sl cI Ax lx cx x)])) ?_ ?_
  · clear h hS
    rintro E ds w2 ⟨h, rfl, hE0, hS⟩
    replace h := hJ h
    refine wt_seq ?_
    refine wl_region wd_wide ?_
    refine rl_q rfl rfl rfl (v_move (v := (Value.slice Ax lx cx)) hE0) ?_
    obtain ⟨hx, h⟩ := h
    refine rl_q rfl rfl rfl (v_iaddr rfl rfl Try.underlying26 info_3 (rd_ix (hS.rdr 0 rfl) hx)) ?_
    refine rl_q rfl rfl rfl (v_load (v := (Value.int .i64 (gi x (0 : Int).toNat))) rfl Try.underlying3 rfl (rd_1 (hS.rdr 0 rfl) hx (fun q => gi_some q) rfl)) ?_
    refine rl_q rfl rfl rfl (v_assign (v := (Value.int .i64 (gi x (0 : Int).toNat))) rfl) ?_
    refine rl_end ?_
    refine wt_seq ?_
    refine wt_seq ?_
    refine wl_region wd_wide ?_
    refine rl_q rfl rfl rfl (v_assign (v := (Value.int .i64 1)) rfl) ?_
    refine rl_end ?_
    refine wt_block ?_
    obtain ⟨I2, ⟨m0, h0⟩, hr⟩ := h
    refine wt_loop (fun m E ds w' => ∃ m3 : Int, ∃ i : Int, I2 m m3 i ∧ ds = [] ∧ E 0 = (Value.slice Ax lx cx) ∧ E 3 = (Value.int .i64 m3) ∧ E 4 = (Value.int .i64 i) ∧ Sep w no O w' (rl [Res.ro (FP.sl cI Ax lx cx x)])) m0 ⟨_, _, h0, rfl, hE0, rfl, rfl, (hS.sel [0] (by decide))⟩ ?_
    clear h0 hS
    rintro m2 E ds w3 ⟨m3, i, h, rfl, hE0, hE3, hE4, hS⟩ again
    replace h := hr m2 m3 i h
    clear hr
    refine wt_seq ?_
    refine wt_seq ?_
    refine wl_region wd_wide ?_
    refine rl_q rfl rfl rfl (v_move (v := (Value.int .i64 i)) hE4) ?_
    refine rl_q rfl rfl rfl (v_move (v := (Value.slice Ax lx cx)) hE0) ?_
    refine rl_q rfl rfl rfl (v_lenx (n := x.length) rfl Try.underlying26 (rd_len (hS.rdr 0 rfl))) ?_
    refine rl_q rfl rfl rfl (v_lss rfl rfl) ?_
    refine rl_end ?_
    by_cases hp : i < ((x.length : Nat) : Int)
    · replace h := h.1 hp
      refine wt_cond_t (congrArg Value.bool (decide_eq_true hp)) ?_
      refine wt_skip ?_
      refine wt_seq ?_
      refine wt_block ?_
      refine wl_region wd_wide ?_
      refine rl_q rfl rfl rfl (v_move (v := (Value.int .i64 m3)) hE3) ?_
      refine rl_q rfl rfl rfl (v_move (v := (Value.slice Ax lx cx)) hE0) ?_
      refine rl_q rfl rfl rfl (v_move (v := (Value.int .i64 i)) hE4) ?_
      obtain ⟨hx2, h⟩ := h
      refine rl_q rfl rfl rfl (v_iaddr rfl rfl Try.underlying26 info_3 (rd_ix (hS.rdr 0 rfl) hx2)) ?_
      refine rl_q rfl rfl rfl (v_load (v := (Value.int .i64 (gi x i.toNat))) rfl Try.underlying3 rfl (rd_1 (hS.rdr 0 rfl) hx2 (fun q => gi_some q) rfl)) ?_
      refine rl_q rfl rfl rfl (v_min2 rfl rfl) ?_
      refine rl_q rfl rfl rfl (v_assign (v := (Value.int .i64 (mnF m3 (gi x i.toNat)))) rfl) ?_
      refine rl_end ?_
      refine wt_inBlock ?_
      refine wl_region wd_wide ?_
      refine rl_q rfl rfl rfl (v_move (v := (Value.int .i64 i)) hE4) ?_
      obtain ⟨hi, h⟩ := h
      refine rl_q rfl rfl rfl (v_add rfl rfl hi) ?_
      refine rl_q rfl rfl rfl (v_assign (v := (Value.int .i64 (i + 1))) rfl) ?_
      refine rl_end ?_
      obtain ⟨mq, hlt, h⟩ := h
      exact again mq _ _ _ ⟨_, _, h, rfl, hE0, rfl, rfl, (hS.sel [0] (by decide))⟩ hlt
    · replace h := h.2 hp
      refine wt_cond_f (congrArg Value.bool (decide_eq_false hp)) ?_
      refine wt_exit rfl ?_
      refine wt_seq ?_
      refine wl_region wd_wide ?_
      refine rl_q rfl rfl rfl (v_move (v := (Value.int .i64 m3)) hE3) ?_
      refine rl_q rfl rfl rfl (v_assign (v := (Value.int .i64 m3)) rfl) ?_
      refine rl_end ?_
      exact wt_ret1 rfl rfl ⟨_, rfl, (hS.sel [] (by decide)), h⟩
  clear hJ
  intro j
  by_cases hp2 : ((x.length : Nat) : Int) < 1
  · replace h := h.1 hp2
    refine wt_cond_t (congrArg Value.bool (decide_eq_true hp2)) ?_
    refine wl_region wd_wide ?_
    exact h.elim
  · replace h := h.2 hp2
    refine wt_cond_f (congrArg Value.bool (decide_eq_false hp2)) ?_
    refine wt_skip ?_
    exact j _ _ _ ⟨h, rfl, rfl, (hS.sel [0] (by decide))⟩
end Go.Proofs.Ytnhmeckhlajeaaa

/- Pure forms of functions, made by program (pf.py), each with the proof that the code does so. -/
namespace Go.Proofs.Ytnhmeckhlajeaaa
open Go Go.RowKit Go.Shelf
set_option linter.unusedVariables false
set_option maxRecDepth 100000
set_option maxHeartbeats 1000000
/-- sandpile/chips.within: what it computes. -/
def pf_chips_within (k : Int) (R : Bool → Prop) : Prop :=
(((-1048576) ≤ k →
R (decide (k ≤ 1048576))) ∧
(¬ ((-1048576) ≤ k) →
R false))
theorem pok_chips_within {O : Nat → Prop} {w : World} {k : Int} {R : Bool → Prop} (h : pf_chips_within k R) (hO : ∀ k, O k → k < w.heap.size) :
    Calls Try.prog 129 #[(Value.int .i64 k)] w fun e w' => ∃ r : Bool, e = .returned (Value.bool (r)) ∧ Sep w no O w' (rl []) ∧ R r := by
  unfold pf_chips_within at h
  have hS : Sep w no O w (rl []) := Sep.start w hO
  refine calls_sh (l := [(Value.int .i64 k)]) Try.func129 rfl Try.ntmps129 (Nat.le_of_ble_eq_true rfl) ?_
  refine wt_seq ?_
  refine wl_region wd_wide ?_
  refine rl_q rfl rfl rfl (v_assign (v := (Value.bool (false))) rfl) ?_
  refine rl_end ?_
  refine wt_seq ?_
  refine wl_region wd_wide ?_
  refine rl_q rfl rfl rfl (v_move (v := (Value.int .i64 k)) rfl) ?_
  refine rl_q rfl rfl rfl (v_geq rfl rfl) ?_
  refine rl_q rfl rfl rfl (v_move (v := (Value.bool (decide ((-1048576) ≤ k)))) rfl) ?_
  by_cases hp : (-1048576) ≤ k
  · replace h := h.1 hp
    refine rl_q (wanted_g rfl (yE_of rfl (congrArg Value.bool (decide_eq_true hp)))) rfl rfl (v_move (v := (Value.int .i64 k)) rfl) ?_
    refine rl_q (wanted_g rfl (yE_of rfl (congrArg Value.bool (decide_eq_true hp)))) rfl rfl (v_leq rfl rfl) ?_
    refine rl_q rfl rfl rfl (v_pick_t (v := (Value.bool (decide (k ≤ 1048576)))) (congrArg Value.bool (decide_eq_true hp)) rfl) ?_
    refine rl_q rfl rfl rfl (v_assign (v := (Value.bool (decide (k ≤ 1048576)))) rfl) ?_
    refine rl_end ?_
    exact wt_ret1 rfl rfl ⟨_, rfl, (hS.sel [] (by decide)), h⟩
  · replace h := h.2 hp
    refine rl_p (wanted_n rfl (yE_of rfl (congrArg Value.bool (decide_eq_false hp))) rfl) rfl ?_
    refine rl_p (wanted_n rfl (yE_of rfl (congrArg Value.bool (decide_eq_false hp))) rfl) rfl ?_
    refine rl_q rfl rfl rfl (v_pick_f (v := (Value.bool (false))) (congrArg Value.bool (decide_eq_false hp)) rfl) ?_
    refine rl_q rfl rfl rfl (v_assign (v := (Value.bool (false))) rfl) ?_
    refine rl_end ?_
    exact wt_ret1 rfl rfl ⟨_, rfl, (hS.sel [] (by decide)), h⟩

/-- sandpile/chips.vertices: what it computes. -/
def pf_chips_vertices (n : Int) (R : Int → Prop) : Prop :=
((n < 1 →
R 2) ∧
(¬ (n < 1) →
((12 < n →
R 2) ∧
(¬ (12 < n) →
R 0))))
theorem pok_chips_vertices {O : Nat → Prop} {w : World} {n : Int} {R : Int → Prop} (h : pf_chips_vertices n R) (hO : ∀ k, O k → k < w.heap.size) :
    Calls Try.prog 128 #[(Value.int .i64 n)] w fun e w' => ∃ r : Int, e = .returned (Value.int .i64 r) ∧ Sep w no O w' (rl []) ∧ R r := by
  unfold pf_chips_vertices at h
  have hS : Sep w no O w (rl []) := Sep.start w hO
  refine calls_sh (l := [(Value.int .i64 n)]) Try.func128 rfl Try.ntmps128 (Nat.le_of_ble_eq_true rfl) ?_
  refine wt_seq ?_
  refine wl_region wd_wide ?_
  refine rl_q rfl rfl rfl (v_assign (v := (Value.int .i64 0)) rfl) ?_
  refine rl_end ?_
  refine wt_seq ?_
  refine wt_seq ?_
  refine wl_region wd_wide ?_
  refine rl_q rfl rfl rfl (v_move (v := (Value.int .i64 n)) rfl) ?_
  refine rl_q rfl rfl rfl (v_lss rfl rfl) ?_
  refine rl_q rfl rfl rfl (v_move (v := (Value.bool (decide (n < 1)))) rfl) ?_
  by_cases hp : n < 1
  · replace h := h.1 hp
    refine rl_p (wanted_n rfl (yE_of rfl (congrArg Value.bool (decide_eq_true hp))) rfl) rfl ?_
    refine rl_p (wanted_n rfl (yE_of rfl (congrArg Value.bool (decide_eq_true hp))) rfl) rfl ?_
    refine rl_q rfl rfl rfl (v_pick_t (v := (Value.bool (true))) (congrArg Value.bool (decide_eq_true hp)) rfl) ?_
    refine rl_end ?_
    refine wt_cond_t rfl ?_
    refine wt_seq ?_
    refine wl_region wd_wide ?_
    refine rl_q rfl rfl rfl (v_assign (v := (Value.int .i64 2)) rfl) ?_
    refine rl_end ?_
    exact wt_ret1 rfl rfl ⟨_, rfl, (hS.sel [] (by decide)), h⟩
  · replace h := h.2 hp
    refine rl_q (wanted_g rfl (yE_of rfl (congrArg Value.bool (decide_eq_false hp)))) rfl rfl (v_move (v := (Value.int .i64 n)) rfl) ?_
    refine rl_q (wanted_g rfl (yE_of rfl (congrArg Value.bool (decide_eq_false hp)))) rfl rfl (v_gtr rfl rfl) ?_
    refine rl_q rfl rfl rfl (v_pick_f (v := (Value.bool (decide (12 < n)))) (congrArg Value.bool (decide_eq_false hp)) rfl) ?_
    refine rl_end ?_
    by_cases hp2 : 12 < n
    · replace h := h.1 hp2
      refine wt_cond_t (congrArg Value.bool (decide_eq_true hp2)) ?_
      refine wt_seq ?_
      refine wl_region wd_wide ?_
      refine rl_q rfl rfl rfl (v_assign (v := (Value.int .i64 2)) rfl) ?_
      refine rl_end ?_
      exact wt_ret1 rfl rfl ⟨_, rfl, (hS.sel [] (by decide)), h⟩
    · replace h := h.2 hp2
      refine wt_cond_f (congrArg Value.bool (decide_eq_false hp2)) ?_
      refine wt_skip ?_
      refine wt_seq ?_
      refine wl_region wd_wide ?_
      refine rl_q rfl rfl rfl (v_assign (v := (Value.int .i64 0)) rfl) ?_
      refine rl_end ?_
      exact wt_ret1 rfl rfl ⟨_, rfl, (hS.sel [] (by decide)), h⟩

/-- sandpile/chips.Check: what it computes. -/
def pf_chips_Check (d : List Int) (n : Int) (R : Int → Prop) : Prop :=
pf_chips_vertices n (fun (r : Int) =>
((r = 0 →
((((d.length : Nat) : Int) = n →
(∃ I2 : Nat → Int → Prop, (∃ m0, I2 m0 0) ∧ ∀ (m2 : Nat) (v : Int), I2 m2 v → 
((v < ((d.length : Nat) : Int) →
((0 ≤ v ∧ v < ((d.length : Nat) : Int)) ∧
pf_chips_within (gi d v.toNat) (fun (r2 : Bool) =>
((r2 = true →
(In64 (v + 1) ∧
∃ m3, m3 < m2 ∧ I2 m3 (v + 1))) ∧
(¬ (r2 = true) →
R 2))))) ∧
(¬ (v < ((d.length : Nat) : Int)) →
R 0)))) ∧
(¬ (((d.length : Nat) : Int) = n) →
R 8))) ∧
(¬ (r = 0) →
R r)))
theorem pok_chips_Check {O : Nat → Prop} {w : World} {d : List Int} {n : Int} {Ad : Option Addr} {ld : Nat} {cd : Nat} {R : Int → Prop} (h : pf_chips_Check d n R) (hO : ∀ k, O k → k < w.heap.size) (a0 : (FP.sl cI Ad ld cd d).P O w) :
    Calls Try.prog 84 #[(Value.slice Ad ld cd), (Value.int .i64 n)] w fun e w' => ∃ r3 : Int, e = .returned (Value.int .i64 r3) ∧ Sep w no O w' (rl []) ∧ R r3 := by
  unfold pf_chips_Check at h
  have hS : Sep w no O w (rl [Res.ro (FP.sl cI Ad ld cd d)]) := Sep.startl hO [(FP.sl cI Ad ld cd d)] ⟨a0, trivial⟩
  refine calls_sh (l := [(Value.slice Ad ld cd), (Value.int .i64 n)]) Try.func84 rfl Try.ntmps84 (Nat.le_of_ble_eq_true rfl) ?_
  refine wt_seq ?_
  refine wl_region wd_wide ?_
  refine rl_q rfl rfl rfl (v_assign (v := (Value.int .i64 0)) rfl) ?_
  refine rl_end ?_
  refine wt_seq ?_
  refine wt_seq ?_
  refine wl_region wd_wide ?_
  refine rl_q rfl rfl rfl (v_move (v := (Value.int .i64 n)) rfl) ?_
  refine rl_n rfl rfl rfl rfl (n_call0 rfl (am1 rfl) enter_128 ((pok_chips_vertices h (no_lt _)).mono ?_))
  rintro _ w2 ⟨r, rfl, hC, h⟩
  replace hS := hS.pur hC.pure
  clear hC
  refine ⟨_, rfl, ?_⟩
  refine ⟨Stb.none _, ?_⟩
  refine rl_q rfl rfl rfl (v_assign (v := (Value.int .i64 r)) rfl) ?_
  refine rl_end ?_
  refine wt_seq ?_
  refine wl_region wd_wide ?_
  refine rl_q rfl rfl rfl (v_move (v := (Value.int .i64 r)) rfl) ?_
  refine rl_q rfl rfl rfl (v_neq rfl rfl) ?_
  refine rl_end ?_
  by_cases hp : r = 0
  · replace h := h.1 hp
    refine wt_cond_f (congrArg Value.bool (congrArg Bool.not (decide_eq_true hp))) ?_
    refine wt_skip ?_
    refine wt_seq ?_
    refine wt_seq ?_
    refine wl_region wd_wide ?_
    refine rl_q rfl rfl rfl (v_move (v := (Value.slice Ad ld cd)) rfl) ?_
    refine rl_q rfl rfl rfl (v_lenx (n := d.length) rfl Try.underlying26 (rd_len (hS.rdr 0 rfl))) ?_
    refine rl_q rfl rfl rfl (v_move (v := (Value.int .i64 n)) rfl) ?_
    refine rl_q rfl rfl rfl (v_neq rfl rfl) ?_
    refine rl_end ?_
    by_cases hp2 : ((d.length : Nat) : Int) = n
    · replace h := h.1 hp2
      refine wt_cond_f (congrArg Value.bool (congrArg Bool.not (decide_eq_true hp2))) ?_
      refine wt_skip ?_
      refine wt_seq ?_
      refine wt_seq ?_
      refine wl_region wd_wide ?_
      refine rl_q rfl rfl rfl (v_move (v := (Value.slice Ad ld cd)) rfl) ?_
      refine rl_q rfl rfl rfl (v_lenx (n := d.length) rfl Try.underlying26 (rd_len (hS.rdr 0 rfl))) ?_
      refine rl_q rfl rfl rfl (v_move (v := (Value.int .i64 0)) rfl) ?_
      refine rl_end ?_
      refine wt_block ?_
      obtain ⟨I2, ⟨m0, h0⟩, hr⟩ := h
      refine wt_loop (fun m E ds w' => ∃ v : Int, I2 m v ∧ ds = [] ∧ E 17 = (Value.slice Ad ld cd) ∧ E 18 = (Value.int .i64 ((d.length : Nat) : Int)) ∧ E 19 = (Value.int .i64 v) ∧ Sep w no O w' (rl [Res.ro (FP.sl cI Ad ld cd d)])) m0 ⟨_, h0, rfl, rfl, rfl, rfl, (hS.sel [0] (by decide))⟩ ?_
      clear h0 hS
      rintro m2 E ds w3 ⟨v, h, rfl, hE17, hE18, hE19, hS⟩ again
      replace h := hr m2 v h
      clear hr
      refine wt_seq ?_
      refine wl_region wd_wide ?_
      refine rl_q rfl rfl rfl (v_lss hE19 hE18) ?_
      refine rl_end ?_
      refine wt_seq ?_
      by_cases hp3 : v < ((d.length : Nat) : Int)
      · replace h := h.1 hp3
        refine wt_cond_t (congrArg Value.bool (decide_eq_true hp3)) ?_
        refine wt_skip ?_
        refine wt_seq ?_
        refine wt_block ?_
        refine wt_seq ?_
        refine wl_region wd_wide ?_
        obtain ⟨hx, h⟩ := h
        refine rl_q rfl rfl rfl (v_iaddr hE17 hE19 Try.underlying26 info_3 (rd_ix (hS.rdr 0 rfl) hx)) ?_
        refine rl_q rfl rfl rfl (v_load (v := (Value.int .i64 (gi d v.toNat))) rfl Try.underlying3 rfl (rd_1 (hS.rdr 0 rfl) hx (fun q => gi_some q) rfl)) ?_
        refine rl_q rfl rfl rfl (v_assign (v := (Value.int .i64 (gi d v.toNat))) rfl) ?_
        refine rl_end ?_
        refine wt_seq ?_
        refine wl_region wd_wide ?_
        refine rl_q rfl rfl rfl (v_move (v := (Value.int .i64 (gi d v.toNat))) rfl) ?_
        refine rl_n rfl rfl rfl rfl (n_call0 rfl (am1 rfl) enter_129 ((pok_chips_within h (no_lt _)).mono ?_))
        rintro _ w4 ⟨r2, rfl, hC, h⟩
        replace hS := hS.pur hC.pure
        clear hC
        refine ⟨_, rfl, ?_⟩
        refine ⟨Stb.none _, ?_⟩
        refine rl_q rfl rfl rfl (v_not rfl) ?_
        refine rl_end ?_
        by_cases hp4 : r2 = true
        · replace h := h.1 hp4
          refine wt_cond_f (congrArg Value.bool (congrArg Bool.not hp4)) ?_
          refine wt_skip ?_
          refine wt_inBlock ?_
          refine wl_region wd_wide ?_
          obtain ⟨hi, h⟩ := h
          refine rl_q rfl rfl rfl (v_add hE19 rfl hi) ?_
          refine rl_q rfl rfl rfl (v_move (v := (Value.int .i64 (v + 1))) rfl) ?_
          refine rl_end ?_
          obtain ⟨mq, hlt, h⟩ := h
          exact again mq _ _ _ ⟨_, h, rfl, hE17, hE18, rfl, (hS.sel [0] (by decide))⟩ hlt
        · replace h := h.2 hp4
          refine wt_cond_t (congrArg Value.bool (congrArg Bool.not (Bool.eq_false_iff.2 hp4))) ?_
          refine wt_seq ?_
          refine wl_region wd_wide ?_
          refine rl_q rfl rfl rfl (v_assign (v := (Value.int .i64 2)) rfl) ?_
          refine rl_end ?_
          exact wt_ret1 rfl rfl ⟨_, rfl, (hS.sel [] (by decide)), h⟩
      · replace h := h.2 hp3
        refine wt_cond_f (congrArg Value.bool (decide_eq_false hp3)) ?_
        refine wt_exit rfl ?_
        refine wt_seq ?_
        refine wl_region wd_wide ?_
        refine rl_q rfl rfl rfl (v_assign (v := (Value.int .i64 0)) rfl) ?_
        refine rl_end ?_
        exact wt_ret1 rfl rfl ⟨_, rfl, (hS.sel [] (by decide)), h⟩
    · replace h := h.2 hp2
      refine wt_cond_t (congrArg Value.bool (congrArg Bool.not (decide_eq_false hp2))) ?_
      refine wt_seq ?_
      refine wl_region wd_wide ?_
      refine rl_q rfl rfl rfl (v_assign (v := (Value.int .i64 8)) rfl) ?_
      refine rl_end ?_
      exact wt_ret1 rfl rfl ⟨_, rfl, (hS.sel [] (by decide)), h⟩
  · replace h := h.2 hp
    refine wt_cond_t (congrArg Value.bool (congrArg Bool.not (decide_eq_false hp))) ?_
    refine wt_seq ?_
    refine wl_region wd_wide ?_
    refine rl_q rfl rfl rfl (v_move (v := (Value.int .i64 r)) rfl) ?_
    refine rl_q rfl rfl rfl (v_assign (v := (Value.int .i64 r)) rfl) ?_
    refine rl_end ?_
    exact wt_ret1 rfl rfl ⟨_, rfl, (hS.sel [] (by decide)), h⟩

/-- sandpile/graph.vertex: what it computes. -/
def pf_graph_vertex (n : Int) (v : Int) (R : Bool → Prop) : Prop :=
((0 ≤ v →
R (decide (v < n))) ∧
(¬ (0 ≤ v) →
R false))
theorem pok_graph_vertex {O : Nat → Prop} {w : World} {n : Int} {v : Int} {R : Bool → Prop} (h : pf_graph_vertex n v R) (hO : ∀ k, O k → k < w.heap.size) :
    Calls Try.prog 139 #[(Value.int .i64 n), (Value.int .i64 v)] w fun e w' => ∃ r : Bool, e = .returned (Value.bool (r)) ∧ Sep w no O w' (rl []) ∧ R r := by
  unfold pf_graph_vertex at h
  have hS : Sep w no O w (rl []) := Sep.start w hO
  refine calls_sh (l := [(Value.int .i64 n), (Value.int .i64 v)]) Try.func139 rfl Try.ntmps139 (Nat.le_of_ble_eq_true rfl) ?_
  refine wt_seq ?_
  refine wl_region wd_wide ?_
  refine rl_q rfl rfl rfl (v_assign (v := (Value.bool (false))) rfl) ?_
  refine rl_end ?_
  refine wt_seq ?_
  refine wl_region wd_wide ?_
  refine rl_q rfl rfl rfl (v_move (v := (Value.int .i64 v)) rfl) ?_
  refine rl_q rfl rfl rfl (v_geq rfl rfl) ?_
  refine rl_q rfl rfl rfl (v_move (v := (Value.bool (decide (0 ≤ v)))) rfl) ?_
  by_cases hp : 0 ≤ v
  · replace h := h.1 hp
    refine rl_q (wanted_g rfl (yE_of rfl (congrArg Value.bool (decide_eq_true hp)))) rfl rfl (v_move (v := (Value.int .i64 v)) rfl) ?_
    refine rl_q (wanted_g rfl (yE_of rfl (congrArg Value.bool (decide_eq_true hp)))) rfl rfl (v_move (v := (Value.int .i64 n)) rfl) ?_
    refine rl_q (wanted_g rfl (yE_of rfl (congrArg Value.bool (decide_eq_true hp)))) rfl rfl (v_lss rfl rfl) ?_
    refine rl_q rfl rfl rfl (v_pick_t (v := (Value.bool (decide (v < n)))) (congrArg Value.bool (decide_eq_true hp)) rfl) ?_
    refine rl_q rfl rfl rfl (v_assign (v := (Value.bool (decide (v < n)))) rfl) ?_
    refine rl_end ?_
    exact wt_ret1 rfl rfl ⟨_, rfl, (hS.sel [] (by decide)), h⟩
  · replace h := h.2 hp
    refine rl_p (wanted_n rfl (yE_of rfl (congrArg Value.bool (decide_eq_false hp))) rfl) rfl ?_
    refine rl_p (wanted_n rfl (yE_of rfl (congrArg Value.bool (decide_eq_false hp))) rfl) rfl ?_
    refine rl_p (wanted_n rfl (yE_of rfl (congrArg Value.bool (decide_eq_false hp))) rfl) rfl ?_
    refine rl_q rfl rfl rfl (v_pick_f (v := (Value.bool (false))) (congrArg Value.bool (decide_eq_false hp)) rfl) ?_
    refine rl_q rfl rfl rfl (v_assign (v := (Value.bool (false))) rfl) ?_
    refine rl_end ?_
    exact wt_ret1 rfl rfl ⟨_, rfl, (hS.sel [] (by decide)), h⟩

/-- cmp.Compare[int]: what it computes. -/
def pf_cmp_Compare_int (x : Int) (y : Int) (R : Int → Prop) : Prop :=
pf_cmp_isNaN_int x (fun (r : Bool) =>
pf_cmp_isNaN_int y (fun (r2 : Bool) =>
((r = true →
((r2 = true →
R 0) ∧
(¬ (r2 = true) →
R (-1)))) ∧
(¬ (r = true) →
((r2 = true →
R 1) ∧
(¬ (r2 = true) →
((x < y →
R (-1)) ∧
(¬ (x < y) →
((y < x →
R 1) ∧
(¬ (y < x) →
R 0))))))))))
theorem pok_cmp_Compare_int {O : Nat → Prop} {w : World} {x : Int} {y : Int} {R : Int → Prop} (h : pf_cmp_Compare_int x y R) (hO : ∀ k, O k → k < w.heap.size) :
    Calls Try.prog 159 #[(Value.int .i64 x), (Value.int .i64 y)] w fun e w' => ∃ r3 : Int, e = .returned (Value.int .i64 r3) ∧ Sep w no O w' (rl []) ∧ R r3 := by
  unfold pf_cmp_Compare_int at h
  have hS : Sep w no O w (rl []) := Sep.start w hO
  refine calls_sh (l := [(Value.int .i64 x), (Value.int .i64 y)]) Try.func159 rfl Try.ntmps159 (Nat.le_of_ble_eq_true rfl) ?_
  refine wt_seq ?_
  refine wl_region wd_wide ?_
  refine rl_q rfl rfl rfl (v_assign (v := (Value.int .i64 0)) rfl) ?_
  refine rl_end ?_
  refine wt_seq ?_
  refine wl_region wd_wide ?_
  refine rl_q rfl rfl rfl (v_move (v := (Value.int .i64 x)) rfl) ?_
  refine rl_n rfl rfl rfl rfl (n_call0 rfl (am1 rfl) enter_130 ((pok_cmp_isNaN_int h (no_lt _)).mono ?_))
  rintro _ w2 ⟨r, rfl, hC, h⟩
  replace hS := hS.pur hC.pure
  clear hC
  refine ⟨_, rfl, ?_⟩
  refine ⟨Stb.none _, ?_⟩
  refine rl_q rfl rfl rfl (v_assign (v := (Value.bool (r))) rfl) ?_
  refine rl_end ?_
  refine wt_seq ?_
  refine wl_region wd_wide ?_
  refine rl_q rfl rfl rfl (v_move (v := (Value.int .i64 y)) rfl) ?_
  refine rl_n rfl rfl rfl rfl (n_call0 rfl (am1 rfl) enter_130 ((pok_cmp_isNaN_int h (no_lt _)).mono ?_))
  rintro _ w3 ⟨r2, rfl, hC, h⟩
  replace hS := hS.pur hC.pure
  clear hC
  refine ⟨_, rfl, ?_⟩
  refine ⟨Stb.none _, ?_⟩
  refine rl_q rfl rfl rfl (v_assign (v := (Value.bool (r2))) rfl) ?_
  refine rl_end ?_
  refine wt_seq ?_
  refine wt_seq ?_
  refine wl_region wd_wide ?_
  refine rl_q rfl rfl rfl (v_move (v := (Value.bool (r))) rfl) ?_
  refine rl_end ?_
  by_cases hp : r = true
  · replace h := h.1 hp
    refine wt_cond_t (congrArg Value.bool hp) ?_
    refine wt_seq ?_
    refine wt_seq ?_
    refine wl_region wd_wide ?_
    refine rl_q rfl rfl rfl (v_move (v := (Value.bool (r2))) rfl) ?_
    refine rl_end ?_
    by_cases hp2 : r2 = true
    · replace h := h.1 hp2
      refine wt_cond_t (congrArg Value.bool hp2) ?_
      refine wt_seq ?_
      refine wl_region wd_wide ?_
      refine rl_q rfl rfl rfl (v_assign (v := (Value.int .i64 0)) rfl) ?_
      refine rl_end ?_
      exact wt_ret1 rfl rfl ⟨_, rfl, (hS.sel [] (by decide)), h⟩
    · replace h := h.2 hp2
      refine wt_cond_f (congrArg Value.bool (Bool.eq_false_iff.2 hp2)) ?_
      refine wt_skip ?_
      refine wt_seq ?_
      refine wl_region wd_wide ?_
      refine rl_q rfl rfl rfl (v_assign (v := (Value.int .i64 (-1))) rfl) ?_
      refine rl_end ?_
      exact wt_ret1 rfl rfl ⟨_, rfl, (hS.sel [] (by decide)), h⟩
  · replace h := h.2 hp
    refine wt_cond_f (congrArg Value.bool (Bool.eq_false_iff.2 hp)) ?_
    refine wt_skip ?_
    refine wt_seq ?_
    refine wt_seq ?_
    refine wl_region wd_wide ?_
    refine rl_q rfl rfl rfl (v_move (v := (Value.bool (r2))) rfl) ?_
    refine rl_end ?_
    by_cases hp3 : r2 = true
    · replace h := h.1 hp3
      refine wt_cond_t (congrArg Value.bool hp3) ?_
      refine wt_seq ?_
      refine wl_region wd_wide ?_
      refine rl_q rfl rfl rfl (v_assign (v := (Value.int .i64 1)) rfl) ?_
      refine rl_end ?_
      exact wt_ret1 rfl rfl ⟨_, rfl, (hS.sel [] (by decide)), h⟩
    · replace h := h.2 hp3
      refine wt_cond_f (congrArg Value.bool (Bool.eq_false_iff.2 hp3)) ?_
      refine wt_skip ?_
      refine wt_seq ?_
      refine wt_seq ?_
      refine wl_region wd_wide ?_
      refine rl_q rfl rfl rfl (v_move (v := (Value.int .i64 x)) rfl) ?_
      refine rl_q rfl rfl rfl (v_move (v := (Value.int .i64 y)) rfl) ?_
      refine rl_q rfl rfl rfl (v_lss rfl rfl) ?_
      refine rl_end ?_
      by_cases hp4 : x < y
      · replace h := h.1 hp4
        refine wt_cond_t (congrArg Value.bool (decide_eq_true hp4)) ?_
        refine wt_seq ?_
        refine wl_region wd_wide ?_
        refine rl_q rfl rfl rfl (v_assign (v := (Value.int .i64 (-1))) rfl) ?_
        refine rl_end ?_
        exact wt_ret1 rfl rfl ⟨_, rfl, (hS.sel [] (by decide)), h⟩
      · replace h := h.2 hp4
        refine wt_cond_f (congrArg Value.bool (decide_eq_false hp4)) ?_
        refine wt_skip ?_
        refine wt_seq ?_
        refine wt_seq ?_
        refine wl_region wd_wide ?_
        refine rl_q rfl rfl rfl (v_move (v := (Value.int .i64 x)) rfl) ?_
        refine rl_q rfl rfl rfl (v_move (v := (Value.int .i64 y)) rfl) ?_
        refine rl_q rfl rfl rfl (v_gtr rfl rfl) ?_
        refine rl_end ?_
        by_cases hp5 : y < x
        · replace h := h.1 hp5
          refine wt_cond_t (congrArg Value.bool (decide_eq_true hp5)) ?_
          refine wt_seq ?_
          refine wl_region wd_wide ?_
          refine rl_q rfl rfl rfl (v_assign (v := (Value.int .i64 1)) rfl) ?_
          refine rl_end ?_
          exact wt_ret1 rfl rfl ⟨_, rfl, (hS.sel [] (by decide)), h⟩
        · replace h := h.2 hp5
          refine wt_cond_f (congrArg Value.bool (decide_eq_false hp5)) ?_
          refine wt_skip ?_
          refine wt_seq ?_
          refine wl_region wd_wide ?_
          refine rl_q rfl rfl rfl (v_assign (v := (Value.int .i64 0)) rfl) ?_
          refine rl_end ?_
          exact wt_ret1 rfl rfl ⟨_, rfl, (hS.sel [] (by decide)), h⟩

/-- cmp.Or[int]: what it computes. -/
def pf_cmp_Or_int (vals : List Int) (R : Int → Prop) : Prop :=
(∃ I2 : Nat → Int → Prop, (∃ m0, I2 m0 0) ∧ ∀ (m2 : Nat) (v : Int), I2 m2 v → 
((v < ((vals.length : Nat) : Int) →
((0 ≤ v ∧ v < ((vals.length : Nat) : Int)) ∧
(((gi vals v.toNat) = 0 →
(In64 (v + 1) ∧
∃ m3, m3 < m2 ∧ I2 m3 (v + 1))) ∧
(¬ ((gi vals v.toNat) = 0) →
R (gi vals v.toNat))))) ∧
(¬ (v < ((vals.length : Nat) : Int)) →
R 0)))
theorem pok_cmp_Or_int {O : Nat → Prop} {w : World} {vals : List Int} {Avals : Option Addr} {lvals : Nat} {cvals : Nat} {R : Int → Prop} (h : pf_cmp_Or_int vals R) (hO : ∀ k, O k → k < w.heap.size) (a0 : (FP.sl cI Avals lvals cvals vals).P O w) :
    Calls Try.prog 158 #[(Value.slice Avals lvals cvals)] w fun e w' => ∃ r : Int, e = .returned (Value.int .i64 r) ∧ Sep w no O w' (rl []) ∧ R r := by
  unfold pf_cmp_Or_int at h
  have hS : Sep w no O w (rl [Res.ro (FP.sl cI Avals lvals cvals vals)]) := Sep.startl hO [(FP.sl cI Avals lvals cvals vals)] ⟨a0, trivial⟩
  refine calls_sh (l := [(Value.slice Avals lvals cvals)]) Try.func158 rfl Try.ntmps158 (Nat.le_of_ble_eq_true rfl) ?_
  refine wt_seq ?_
  refine wl_region wd_wide ?_
  refine rl_q rfl rfl rfl (v_assign (v := (Value.int .i64 0)) rfl) ?_
  refine rl_end ?_
  refine wt_seq ?_
  refine wl_region wd_wide ?_
  refine rl_q rfl rfl rfl (v_assign (v := (Value.int .i64 0)) rfl) ?_
  refine rl_end ?_
  refine wt_seq ?_
  refine wt_seq ?_
  refine wl_region wd_wide ?_
  refine rl_q rfl rfl rfl (v_move (v := (Value.slice Avals lvals cvals)) rfl) ?_
  refine rl_q rfl rfl rfl (v_lenx (n := vals.length) rfl Try.underlying25 (rd_len (hS.rdr 0 rfl))) ?_
  refine rl_q rfl rfl rfl (v_move (v := (Value.int .i64 0)) rfl) ?_
  refine rl_end ?_
  refine wt_block ?_
  obtain ⟨I2, ⟨m0, h0⟩, hr⟩ := h
  refine wt_loop (fun m E ds w' => ∃ v : Int, I2 m v ∧ ds = [] ∧ E 3 = (Value.int .i64 0) ∧ E 6 = (Value.slice Avals lvals cvals) ∧ E 7 = (Value.int .i64 ((vals.length : Nat) : Int)) ∧ E 8 = (Value.int .i64 v) ∧ Sep w no O w' (rl [Res.ro (FP.sl cI Avals lvals cvals vals)])) m0 ⟨_, h0, rfl, rfl, rfl, rfl, rfl, (hS.sel [0] (by decide))⟩ ?_
  clear h0 hS
  rintro m2 E ds w2 ⟨v, h, rfl, hE3, hE6, hE7, hE8, hS⟩ again
  replace h := hr m2 v h
  clear hr
  refine wt_seq ?_
  refine wl_region wd_wide ?_
  refine rl_q rfl rfl rfl (v_lss hE8 hE7) ?_
  refine rl_end ?_
  refine wt_seq ?_
  by_cases hp : v < ((vals.length : Nat) : Int)
  · replace h := h.1 hp
    refine wt_cond_t (congrArg Value.bool (decide_eq_true hp)) ?_
    refine wt_skip ?_
    refine wt_seq ?_
    refine wt_block ?_
    refine wt_seq ?_
    refine wl_region wd_wide ?_
    obtain ⟨hx, h⟩ := h
    refine rl_q rfl rfl rfl (v_iaddr hE6 hE8 Try.underlying25 info_3 (rd_ix (hS.rdr 0 rfl) hx)) ?_
    refine rl_q rfl rfl rfl (v_load (v := (Value.int .i64 (gi vals v.toNat))) rfl Try.underlying3 rfl (rd_1 (hS.rdr 0 rfl) hx (fun q => gi_some q) rfl)) ?_
    refine rl_q rfl rfl rfl (v_assign (v := (Value.int .i64 (gi vals v.toNat))) rfl) ?_
    refine rl_end ?_
    refine wt_seq ?_
    refine wl_region wd_wide ?_
    refine rl_q rfl rfl rfl (v_move (v := (Value.int .i64 (gi vals v.toNat))) rfl) ?_
    refine rl_q rfl rfl rfl (v_move (v := (Value.int .i64 0)) hE3) ?_
    refine rl_q rfl rfl rfl (v_neq rfl rfl) ?_
    refine rl_end ?_
    by_cases hp2 : (gi vals v.toNat) = 0
    · replace h := h.1 hp2
      refine wt_cond_f (congrArg Value.bool (congrArg Bool.not (decide_eq_true hp2))) ?_
      refine wt_skip ?_
      refine wt_inBlock ?_
      refine wl_region wd_wide ?_
      obtain ⟨hi, h⟩ := h
      refine rl_q rfl rfl rfl (v_add hE8 rfl hi) ?_
      refine rl_q rfl rfl rfl (v_move (v := (Value.int .i64 (v + 1))) rfl) ?_
      refine rl_end ?_
      obtain ⟨mq, hlt, h⟩ := h
      exact again mq _ _ _ ⟨_, h, rfl, hE3, hE6, hE7, rfl, (hS.sel [0] (by decide))⟩ hlt
    · replace h := h.2 hp2
      refine wt_cond_t (congrArg Value.bool (congrArg Bool.not (decide_eq_false hp2))) ?_
      refine wt_seq ?_
      refine wl_region wd_wide ?_
      refine rl_q rfl rfl rfl (v_move (v := (Value.int .i64 (gi vals v.toNat))) rfl) ?_
      refine rl_q rfl rfl rfl (v_assign (v := (Value.int .i64 (gi vals v.toNat))) rfl) ?_
      refine rl_end ?_
      exact wt_ret1 rfl rfl ⟨_, rfl, (hS.sel [] (by decide)), h⟩
  · replace h := h.2 hp
    refine wt_cond_f (congrArg Value.bool (decide_eq_false hp)) ?_
    refine wt_exit rfl ?_
    refine wt_seq ?_
    refine wl_region wd_wide ?_
    refine rl_q rfl rfl rfl (v_move (v := (Value.int .i64 0)) hE3) ?_
    refine rl_q rfl rfl rfl (v_assign (v := (Value.int .i64 0)) rfl) ?_
    refine rl_end ?_
    exact wt_ret1 rfl rfl ⟨_, rfl, (hS.sel [] (by decide)), h⟩

/-- (sandpile/graph.pair).compare: what it computes. -/
def pf_graph_pair_compare (p : Int) (p2 : Int) (q : Int) (q2 : Int) (R : Int → Prop) : Prop :=
pf_cmp_Compare_int p q (fun (r : Int) =>
pf_cmp_Compare_int p2 q2 (fun (r2 : Int) =>
pf_cmp_Or_int ([r, r2]) (fun (r3 : Int) =>
R r3)))
theorem pok_graph_pair_compare {O : Nat → Prop} {w : World} {p : Int} {p2 : Int} {q : Int} {q2 : Int} {R : Int → Prop} (h : pf_graph_pair_compare p p2 q q2 R) (hO : ∀ k, O k → k < w.heap.size) :
    Calls Try.prog 140 #[(Value.agg #[(Value.int .i64 p), (Value.int .i64 p2)]), (Value.agg #[(Value.int .i64 q), (Value.int .i64 q2)])] w fun e w' => ∃ r4 : Int, e = .returned (Value.int .i64 r4) ∧ Sep w no O w' (rl []) ∧ R r4 := by
  unfold pf_graph_pair_compare at h
  have hS : Sep w no O w (rl []) := Sep.start w hO
  refine calls_sh (l := [(Value.agg #[(Value.int .i64 p), (Value.int .i64 p2)]), (Value.agg #[(Value.int .i64 q), (Value.int .i64 q2)])]) Try.func140 rfl Try.ntmps140 (Nat.le_of_ble_eq_true rfl) ?_
  refine wt_seq ?_
  refine wl_region wd_wide ?_
  refine rl_n rfl rfl rfl rfl (n_box (v := (Value.agg #[(Value.int .i64 p), (Value.int .i64 p2)])) rfl ?_)
  intro g w2 hN
  replace hS : Sep w no O w2 (stl _ 0 (Res.box 155 g [(Value.int .i64 p), (Value.int .i64 p2)])) := hS.new 0 rfl hN
  clear hN
  refine ⟨Stb.none _, ?_⟩
  refine rl_n rfl rfl rfl rfl (n_box (v := (Value.agg #[(Value.int .i64 q), (Value.int .i64 q2)])) rfl ?_)
  intro g2 w3 hN
  replace hS : Sep w no O w3 (stl _ 1 (Res.box 155 g2 [(Value.int .i64 q), (Value.int .i64 q2)])) := hS.new 1 rfl hN
  clear hN
  refine ⟨Stb.none _, ?_⟩
  refine rl_q rfl rfl rfl (v_assign (v := (Value.int .i64 0)) rfl) ?_
  refine rl_end ?_
  refine wt_seq ?_
  refine wp_draw [0, 1, 2, 3, 5, 6, 7, 8, 4, 9, 10, 11, 12] (fun i => match i with | 4 => [5, 6, 7, 8] | _ => []) wd_wide (by kernel_rfl) (by kernel_rfl) ?_
  replace hS := hS.drew
  refine rp_q rfl rfl rfl (v_faddr rfl Try.underlying155 rfl info_3) ?_
  refine rp_q rfl rfl rfl (v_load rfl Try.underlying3 rfl (Row.cell (hS.bx 0 rfl) (i := 0) rfl)) ?_
  refine rp_q rfl rfl rfl (v_faddr rfl Try.underlying155 rfl info_3) ?_
  refine rp_q rfl rfl rfl (v_load rfl Try.underlying3 rfl (Row.cell (hS.bx 1 rfl) (i := 0) rfl)) ?_
  refine rp_q rfl rfl rfl (v_faddr rfl Try.underlying155 rfl info_3) ?_
  refine rp_q rfl rfl rfl (v_load rfl Try.underlying3 rfl (Row.cell (hS.bx 0 rfl) (i := 1) rfl)) ?_
  refine rp_q rfl rfl rfl (v_faddr rfl Try.underlying155 rfl info_3) ?_
  refine rp_q rfl rfl rfl (v_load rfl Try.underlying3 rfl (Row.cell (hS.bx 1 rfl) (i := 1) rfl)) ?_
  refine rp_n rfl rfl rfl rfl (n_call0 rfl (am2 rfl rfl) enter_159 ((pok_cmp_Compare_int h (no_lt _)).mono ?_))
  rintro _ w4 ⟨r, rfl, hC, h⟩
  replace hS := hS.pur hC.pure
  clear hC
  refine ⟨_, rfl, ?_⟩
  refine ⟨⟨fun _ => (v_load rfl Try.underlying3 rfl (Row.cell (hS.bx 1 rfl) (i := 1) rfl)), ⟨fun _ => (v_faddr rfl Try.underlying155 rfl info_3), ⟨fun _ => (v_load rfl Try.underlying3 rfl (Row.cell (hS.bx 0 rfl) (i := 1) rfl)), ⟨fun _ => (v_faddr rfl Try.underlying155 rfl info_3), ⟨fun hh => Bool.noConfusion (show false = true from hh), ⟨fun hh => Bool.noConfusion (show false = true from hh), ⟨fun hh => Bool.noConfusion (show false = true from hh), ⟨fun hh => Bool.noConfusion (show false = true from hh), trivial⟩⟩⟩⟩⟩⟩⟩⟩, ?_⟩
  refine rp_n rfl rfl rfl rfl (n_call0 rfl (am2 rfl rfl) enter_159 ((pok_cmp_Compare_int h (no_lt _)).mono ?_))
  rintro _ w5 ⟨r2, rfl, hC, h⟩
  replace hS := hS.pur hC.pure
  clear hC
  refine ⟨_, rfl, ?_⟩
  refine ⟨Stb.none _, ?_⟩
  refine rp_n rfl rfl rfl rfl (n_bslice (l := [(0, (Value.int .i64 r)), (1, (Value.int .i64 r2))]) (cells := [(Value.int .i64 r), (Value.int .i64 r2)]) (bp2 rfl rfl) Try.underlying25 info_3 rfl rfl ?_)
  intro g3 w6 hN
  replace hS := hS.litf (n := 2) 2 rfl (fI .i64) hN ([r, r2] : List Int) rfl (by decide) rfl
  clear hN
  refine ⟨Stb.none _, ?_⟩
  refine rp_n rfl rfl rfl rfl (n_call0 rfl (am1 rfl) enter_158 ((pok_cmp_Or_int h (no_lt _) (hS.rdo 2 rfl)).mono ?_))
  rintro _ w7 ⟨r3, rfl, hC, h⟩
  replace hS := hS.pur hC.pure
  clear hC
  refine ⟨_, rfl, ?_⟩
  refine ⟨Stb.none _, ?_⟩
  refine rp_q rfl rfl rfl (v_assign (v := (Value.int .i64 r3)) rfl) ?_
  refine rp_end ?_
  exact wt_ret1 rfl rfl ⟨_, rfl, (hS.sel [] (by decide)), h⟩

/-- sandpile/graph.Check: what it computes. -/
def pf_graph_Check (d : Int) (d2 : List (Int × Int × Int)) (R : Int → Prop) : Prop :=
(∃ J2 : Prop, (J2 → (∃ I2 : Nat → Int → Int → Int → Prop, (∃ m0, I2 m0 0 (-1) (-1)) ∧ ∀ (m2 : Nat) (v : Int) (v2 : Int) (v3 : Int), I2 m2 v v2 v3 → 
((v < ((d2.length : Nat) : Int) →
((0 ≤ v ∧ v < ((d2.length : Nat) : Int)) ∧
(∃ J3 : Prop, (J3 → ((((ge d2 v.toNat).2.1) < ((ge d2 v.toNat).1) →
R 9) ∧
(¬ (((ge d2 v.toNat).2.1) < ((ge d2 v.toNat).1)) →
pf_graph_pair_compare v2 v3 ((ge d2 v.toNat).1) ((ge d2 v.toNat).2.1) (fun (r : Int) =>
((0 ≤ r →
R 9) ∧
(¬ (0 ≤ r) →
(In64 (v + 1) ∧
∃ m3, m3 < m2 ∧ I2 m3 (v + 1) ((ge d2 v.toNat).1) ((ge d2 v.toNat).2.1)))))))) ∧
pf_graph_vertex d ((ge d2 v.toNat).1) (fun (r2 : Bool) =>
((r2 = true →
pf_graph_vertex d ((ge d2 v.toNat).2.1) (fun (r3 : Bool) =>
((r3 = true →
((((ge d2 v.toNat).2.2) < 1 →
R 2) ∧
(¬ (((ge d2 v.toNat).2.2) < 1) →
((50 < ((ge d2 v.toNat).2.2) →
R 2) ∧
(¬ (50 < ((ge d2 v.toNat).2.2)) →
J3))))) ∧
(¬ (r3 = true) →
R 2)))) ∧
(¬ (r2 = true) →
R 2)))))) ∧
(¬ (v < ((d2.length : Nat) : Int)) →
R 0)))) ∧
((d < 1 →
R 2) ∧
(¬ (d < 1) →
((12 < d →
R 2) ∧
(¬ (12 < d) →
J2)))))
theorem pok_graph_Check {O : Nat → Prop} {w : World} {d : Int} {d2 : List (Int × Int × Int)} {Ad : Option Addr} {ld : Nat} {cd : Nat} {R : Int → Prop} (h : pf_graph_Check d d2 R) (hO : ∀ k, O k → k < w.heap.size) (a0 : (FP.sl c3 Ad ld cd d2).P O w) :
    Calls Try.prog 104 #[(Value.agg #[(Value.int .i64 d), (Value.slice Ad ld cd)])] w fun e w' => ∃ r4 : Int, e = .returned (Value.int .i64 r4) ∧ Sep w no O w' (rl []) ∧ R r4 := by
  unfold pf_graph_Check at h
  have hS : Sep w no O w (rl [Res.ro (FP.sl c3 Ad ld cd d2)]) := Sep.startl hO [(FP.sl c3 Ad ld cd d2)] ⟨a0, trivial⟩
  refine calls_sh (l := [(Value.agg #[(Value.int .i64 d), (Value.slice Ad ld cd)])]) Try.func104 rfl Try.ntmps104 (Nat.le_of_ble_eq_true rfl) ?_
  refine wt_seq ?_
  refine wl_region wd_wide ?_
  refine rl_n rfl rfl rfl rfl (n_box (v := (Value.agg #[(Value.int .i64 d), (Value.slice Ad ld cd)])) rfl ?_)
  intro g w2 hN
  replace hS : Sep w no O w2 (stl _ 1 (Res.box 24 g [(Value.int .i64 d), (Value.slice Ad ld cd)])) := hS.new 1 rfl hN
  clear hN
  refine ⟨Stb.none _, ?_⟩
  refine rl_q rfl rfl rfl (v_assign (v := (Value.int .i64 0)) rfl) ?_
  refine rl_end ?_
  refine wt_seq ?_
  refine wt_seq ?_
  obtain ⟨J2, hJ, h⟩ := h
  refine wt_cutT1 (fun E ds w' => J2 ∧ ds = [] ∧ E 1 = (Value.pointer (some (⟨g, 0, none⟩ : Addr))) ∧ Sep w no O w' (rl [Res.box 24 g [(Value.int .i64 d), (Value.slice Ad ld cd)], Res.ro (FP.sl c3 Ad ld cd d2)])) ?_ ?_
  · clear h hS
    rintro E ds w3 ⟨h, rfl, hE1, hS⟩
    replace h := hJ h
    refine wt_seq ?_
    refine wl_region wd_wide ?_
    refine rl_n rfl rfl rfl rfl (n_build (l := [(0, (Value.int .i64 (-1))), (1, (Value.int .i64 (-1)))]) (cells := [(Value.int .i64 (-1)), (Value.int .i64 (-1))]) (places := [(0, 1), (1, 1)]) (bp2 rfl rfl) Try.underlying155 info_155 (by kernel_rfl) rfl ?_)
    refine ⟨Stb.none _, ?_⟩
    refine rl_n rfl rfl rfl rfl (n_alloc info_155 ?_)
    intro g2 w4 hN
    replace hS : Sep w no O w4 (stl _ 2 (Res.box 155 g2 [(Value.int .i64 0), (Value.int .i64 0)])) := hS.new 2 rfl hN
    clear hN
    refine ⟨Stb.none _, ?_⟩
    refine rl_n0 rfl rfl rfl (n_storen (b := g2) (o := 0) (cells := #[(Value.int .i64 (-1)), (Value.int .i64 (-1))]) rfl rfl info_155 rfl rfl (there_row (hS.bx 2 rfl) (Nat.le_of_ble_eq_true rfl)) ?_)
    intro w5 e1
    replace hS := hS.bstn 2 rfl 0 [(Value.int .i64 (-1)), (Value.int .i64 (-1))] e1
    clear e1
    refine ⟨Stb.none _, ?_⟩
    refine rl_end ?_
    refine wt_seq ?_
    refine wt_seq ?_
    refine wl_region wd_wide ?_
    refine rl_q rfl rfl rfl (v_faddr hE1 Try.underlying24 rfl info_22) ?_
    refine rl_q rfl rfl rfl (v_load rfl Try.underlying22 rfl (Row.cell (hS.bx 0 rfl) (i := 1) rfl)) ?_
    refine rl_q rfl rfl rfl (v_lenx (n := d2.length) rfl Try.underlying22 (rd_len (hS.rdr 1 rfl))) ?_
    refine rl_q rfl rfl rfl (v_move (v := (Value.int .i64 0)) rfl) ?_
    refine rl_end ?_
    refine wt_block ?_
    obtain ⟨I2, ⟨m0, h0⟩, hr⟩ := h
    refine wt_loop (fun m E ds w' => ∃ v : Int, ∃ v2 : Int, ∃ v3 : Int, I2 m v v2 v3 ∧ ds = [] ∧ E 1 = (Value.pointer (some (⟨g, 0, none⟩ : Addr))) ∧ E 3 = (Value.pointer (some (⟨g2, 0, none⟩ : Addr))) ∧ E 17 = (Value.slice Ad ld cd) ∧ E 18 = (Value.int .i64 ((d2.length : Nat) : Int)) ∧ E 19 = (Value.int .i64 v) ∧ Sep w no O w' (rl [Res.box 24 g [(Value.int .i64 d), (Value.slice Ad ld cd)], Res.ro (FP.sl c3 Ad ld cd d2), Res.box 155 g2 [(Value.int .i64 v2), (Value.int .i64 v3)]])) m0 ⟨_, _, _, h0, rfl, hE1, rfl, rfl, rfl, rfl, (hS.sel [0, 1, 2] (by decide))⟩ ?_
    clear h0 hS
    rintro m2 E ds w6 ⟨v, v2, v3, h, rfl, hE1, hE3, hE17, hE18, hE19, hS⟩ again
    replace h := hr m2 v v2 v3 h
    clear hr
    refine wt_seq ?_
    refine wl_region wd_wide ?_
    refine rl_q rfl rfl rfl (v_lss hE19 hE18) ?_
    refine rl_end ?_
    refine wt_seq ?_
    by_cases hp : v < ((d2.length : Nat) : Int)
    · replace h := h.1 hp
      refine wt_cond_t (congrArg Value.bool (decide_eq_true hp)) ?_
      refine wt_skip ?_
      refine wt_seq ?_
      refine wt_block ?_
      refine wt_seq ?_
      refine wl_region wd_wide ?_
      obtain ⟨hx, h⟩ := h
      refine rl_q rfl rfl rfl (v_iaddr hE17 hE19 Try.underlying22 info_117 (rd_ix (hS.rdr 1 rfl) hx)) ?_
      refine rl_q rfl rfl rfl (v_loadn (vs := [(Value.int .i64 ((ge d2 v.toNat).1)), (Value.int .i64 ((ge d2 v.toNat).2.1)), (Value.int .i64 ((ge d2 v.toNat).2.2))]) rfl Try.underlying117 rfl info_117 (rd_fs (hS.rdr 1 rfl) hx (fun q => ge_some q))) ?_
      refine rl_n rfl rfl rfl rfl (n_alloc info_117 ?_)
      intro g3 w7 hN
      replace hS : Sep w no O w7 (stl _ 3 (Res.box 117 g3 [(Value.int .i64 0), (Value.int .i64 0), (Value.int .i64 0)])) := hS.new 3 rfl hN
      clear hN
      refine ⟨Stb.none _, ?_⟩
      refine rl_n0 rfl rfl rfl (n_storen (b := g3) (o := 0) (cells := #[(Value.int .i64 ((ge d2 v.toNat).1)), (Value.int .i64 ((ge d2 v.toNat).2.1)), (Value.int .i64 ((ge d2 v.toNat).2.2))]) rfl rfl info_117 rfl rfl (there_row (hS.bx 3 rfl) (Nat.le_of_ble_eq_true rfl)) ?_)
      intro w8 e1
      replace hS := hS.bstn 3 rfl 0 [(Value.int .i64 ((ge d2 v.toNat).1)), (Value.int .i64 ((ge d2 v.toNat).2.1)), (Value.int .i64 ((ge d2 v.toNat).2.2))] e1
      clear e1
      refine ⟨Stb.none _, ?_⟩
      refine rl_end ?_
      refine wt_seq ?_
      refine wl_region wd_wide ?_
      refine rl_q rfl rfl rfl (v_faddr rfl Try.underlying117 rfl info_3) ?_
      refine rl_q rfl rfl rfl (v_load rfl Try.underlying3 rfl (Row.cell (hS.bx 3 rfl) (i := 0) rfl)) ?_
      refine rl_q rfl rfl rfl (v_faddr rfl Try.underlying117 rfl info_3) ?_
      refine rl_q rfl rfl rfl (v_load rfl Try.underlying3 rfl (Row.cell (hS.bx 3 rfl) (i := 1) rfl)) ?_
      refine rl_n rfl rfl rfl rfl (n_build (l := [(0, (Value.int .i64 ((ge d2 v.toNat).1))), (1, (Value.int .i64 ((ge d2 v.toNat).2.1)))]) (cells := [(Value.int .i64 ((ge d2 v.toNat).1)), (Value.int .i64 ((ge d2 v.toNat).2.1))]) (places := [(0, 1), (1, 1)]) (bp2 rfl rfl) Try.underlying155 info_155 (by kernel_rfl) rfl ?_)
      refine ⟨Stb.none _, ?_⟩
      refine rl_n rfl rfl rfl rfl (n_alloc info_155 ?_)
      intro g4 w9 hN
      replace hS : Sep w no O w9 (stl _ 4 (Res.box 155 g4 [(Value.int .i64 0), (Value.int .i64 0)])) := hS.new 4 rfl hN
      clear hN
      refine ⟨Stb.none _, ?_⟩
      refine rl_n0 rfl rfl rfl (n_storen (b := g4) (o := 0) (cells := #[(Value.int .i64 ((ge d2 v.toNat).1)), (Value.int .i64 ((ge d2 v.toNat).2.1))]) rfl rfl info_155 rfl rfl (there_row (hS.bx 4 rfl) (Nat.le_of_ble_eq_true rfl)) ?_)
      intro w10 e1
      replace hS := hS.bstn 4 rfl 0 [(Value.int .i64 ((ge d2 v.toNat).1)), (Value.int .i64 ((ge d2 v.toNat).2.1))] e1
      clear e1
      refine ⟨Stb.none _, ?_⟩
      refine rl_end ?_
      refine wt_seq ?_
      refine wt_block ?_
      refine wt_seq ?_
      obtain ⟨J3, hJ, h⟩ := h
      refine wt_cutB1 (fun E ds w' => J3 ∧ ds = [] ∧ E 1 = (Value.pointer (some (⟨g, 0, none⟩ : Addr))) ∧ E 3 = (Value.pointer (some (⟨g2, 0, none⟩ : Addr))) ∧ E 5 = (Value.pointer (some (⟨g3, 0, none⟩ : Addr))) ∧ E 6 = (Value.pointer (some (⟨g4, 0, none⟩ : Addr))) ∧ E 17 = (Value.slice Ad ld cd) ∧ E 18 = (Value.int .i64 ((d2.length : Nat) : Int)) ∧ E 19 = (Value.int .i64 v) ∧ Sep w no O w' (rl [Res.box 24 g [(Value.int .i64 d), (Value.slice Ad ld cd)], Res.ro (FP.sl c3 Ad ld cd d2), Res.box 155 g2 [(Value.int .i64 v2), (Value.int .i64 v3)], Res.box 117 g3 [(Value.int .i64 ((ge d2 v.toNat).1)), (Value.int .i64 ((ge d2 v.toNat).2.1)), (Value.int .i64 ((ge d2 v.toNat).2.2))], Res.box 155 g4 [(Value.int .i64 ((ge d2 v.toNat).1)), (Value.int .i64 ((ge d2 v.toNat).2.1))]])) ?_ ?_
      · clear h hS
        rintro E ds w11 ⟨h, rfl, hE1, hE3, hE5, hE6, hE17, hE18, hE19, hS⟩
        replace h := hJ h
        refine wt_seq ?_
        refine wl_region wd_wide ?_
        refine rl_q rfl rfl rfl (v_faddr hE5 Try.underlying117 rfl info_3) ?_
        refine rl_q rfl rfl rfl (v_load rfl Try.underlying3 rfl (Row.cell (hS.bx 3 rfl) (i := 0) rfl)) ?_
        refine rl_q rfl rfl rfl (v_faddr hE5 Try.underlying117 rfl info_3) ?_
        refine rl_q rfl rfl rfl (v_load rfl Try.underlying3 rfl (Row.cell (hS.bx 3 rfl) (i := 1) rfl)) ?_
        refine rl_q rfl rfl rfl (v_gtr rfl rfl) ?_
        refine rl_q rfl rfl rfl (v_move (v := (Value.bool (decide (((ge d2 v.toNat).2.1) < ((ge d2 v.toNat).1))))) rfl) ?_
        by_cases hp2 : ((ge d2 v.toNat).2.1) < ((ge d2 v.toNat).1)
        · replace h := h.1 hp2
          refine rl_p (wanted_n rfl (yE_of rfl (congrArg Value.bool (decide_eq_true hp2))) rfl) rfl ?_
          refine rl_p (wanted_n rfl (yE_of rfl (congrArg Value.bool (decide_eq_true hp2))) rfl) rfl ?_
          refine rl_p (wanted_n rfl (yE_of rfl (congrArg Value.bool (decide_eq_true hp2))) rfl) rfl ?_
          refine rl_p (wanted_n rfl (yE_of rfl (congrArg Value.bool (decide_eq_true hp2))) rfl) rfl ?_
          refine rl_q rfl rfl rfl (v_pick_t (v := (Value.bool (true))) (congrArg Value.bool (decide_eq_true hp2)) rfl) ?_
          refine rl_q rfl rfl rfl (v_assign (v := (Value.bool (true))) rfl) ?_
          refine rl_end ?_
          refine wt_cond_t rfl ?_
          refine wt_seq ?_
          refine wl_region wd_wide ?_
          refine rl_q rfl rfl rfl (v_assign (v := (Value.int .i64 9)) rfl) ?_
          refine rl_end ?_
          exact wt_ret1 rfl rfl ⟨_, rfl, (hS.sel [] (by decide)), h⟩
        · replace h := h.2 hp2
          refine rl_q (wanted_g rfl (yE_of rfl (congrArg Value.bool (decide_eq_false hp2)))) rfl rfl (v_loadn (vs := [(Value.int .i64 v2), (Value.int .i64 v3)]) hE3 Try.underlying155 rfl info_155 ⟨Row.cell (hS.bx 2 rfl) (i := 0) rfl, Row.cell (hS.bx 2 rfl) (i := 1) rfl, trivial⟩) ?_
          refine rl_q (wanted_g rfl (yE_of rfl (congrArg Value.bool (decide_eq_false hp2)))) rfl rfl (v_loadn (vs := [(Value.int .i64 ((ge d2 v.toNat).1)), (Value.int .i64 ((ge d2 v.toNat).2.1))]) hE6 Try.underlying155 rfl info_155 ⟨Row.cell (hS.bx 4 rfl) (i := 0) rfl, Row.cell (hS.bx 4 rfl) (i := 1) rfl, trivial⟩) ?_
          refine rl_n (wanted_g rfl (yE_of rfl (congrArg Value.bool (decide_eq_false hp2)))) rfl rfl rfl (n_call0 rfl (am2 rfl rfl) enter_140 ((pok_graph_pair_compare h (no_lt _)).mono ?_))
          rintro _ w12 ⟨r, rfl, hC, h⟩
          replace hS := hS.pur hC.pure
          clear hC
          refine ⟨_, rfl, ?_⟩
          refine ⟨Stb.none _, ?_⟩
          refine rl_q (wanted_g rfl (yE_of rfl (congrArg Value.bool (decide_eq_false hp2)))) rfl rfl (v_geq rfl rfl) ?_
          refine rl_q rfl rfl rfl (v_pick_f (v := (Value.bool (decide (0 ≤ r)))) (congrArg Value.bool (decide_eq_false hp2)) rfl) ?_
          refine rl_q rfl rfl rfl (v_assign (v := (Value.bool (decide (0 ≤ r)))) rfl) ?_
          refine rl_end ?_
          by_cases hp3 : 0 ≤ r
          · replace h := h.1 hp3
            refine wt_cond_t (congrArg Value.bool (decide_eq_true hp3)) ?_
            refine wt_seq ?_
            refine wl_region wd_wide ?_
            refine rl_q rfl rfl rfl (v_assign (v := (Value.int .i64 9)) rfl) ?_
            refine rl_end ?_
            exact wt_ret1 rfl rfl ⟨_, rfl, (hS.sel [] (by decide)), h⟩
          · replace h := h.2 hp3
            refine wt_cond_f (congrArg Value.bool (decide_eq_false hp3)) ?_
            refine wt_skip ?_
            refine wt_inBlock ?_
            refine wl_region wd_wide ?_
            refine rl_q rfl rfl rfl (v_loadn (vs := [(Value.int .i64 ((ge d2 v.toNat).1)), (Value.int .i64 ((ge d2 v.toNat).2.1))]) hE6 Try.underlying155 rfl info_155 ⟨Row.cell (hS.bx 4 rfl) (i := 0) rfl, Row.cell (hS.bx 4 rfl) (i := 1) rfl, trivial⟩) ?_
            refine rl_n0 rfl rfl rfl (n_storen (b := g2) (o := 0) (cells := #[(Value.int .i64 ((ge d2 v.toNat).1)), (Value.int .i64 ((ge d2 v.toNat).2.1))]) hE3 rfl info_155 rfl rfl (there_row (hS.bx 2 rfl) (Nat.le_of_ble_eq_true rfl)) ?_)
            intro w13 e1
            replace hS := hS.bstn 2 rfl 0 [(Value.int .i64 ((ge d2 v.toNat).1)), (Value.int .i64 ((ge d2 v.toNat).2.1))] e1
            clear e1
            refine ⟨Stb.none _, ?_⟩
            refine rl_end ?_
            refine wt_inBlock ?_
            refine wl_region wd_wide ?_
            obtain ⟨hi, h⟩ := h
            refine rl_q rfl rfl rfl (v_add hE19 rfl hi) ?_
            refine rl_q rfl rfl rfl (v_move (v := (Value.int .i64 (v + 1))) rfl) ?_
            refine rl_end ?_
            obtain ⟨mq, hlt, h⟩ := h
            exact again mq _ _ _ ⟨_, _, _, h, rfl, hE1, hE3, hE17, hE18, rfl, (hS.sel [0, 1, 2] (by decide))⟩ hlt
      clear hJ
      intro j2
      refine wl_region wd_wide ?_
      refine rl_q rfl rfl rfl (v_faddr hE1 Try.underlying24 rfl info_3) ?_
      refine rl_q rfl rfl rfl (v_load rfl Try.underlying3 rfl (Row.cell (hS.bx 0 rfl) (i := 0) rfl)) ?_
      refine rl_q rfl rfl rfl (v_faddr rfl Try.underlying117 rfl info_3) ?_
      refine rl_q rfl rfl rfl (v_load rfl Try.underlying3 rfl (Row.cell (hS.bx 3 rfl) (i := 0) rfl)) ?_
      refine rl_n rfl rfl rfl rfl (n_call0 rfl (am2 rfl rfl) enter_139 ((pok_graph_vertex h (no_lt _)).mono ?_))
      rintro _ w14 ⟨r2, rfl, hC, h⟩
      replace hS := hS.pur hC.pure
      clear hC
      refine ⟨_, rfl, ?_⟩
      refine ⟨Stb.none _, ?_⟩
      refine rl_q rfl rfl rfl (v_not rfl) ?_
      refine rl_q rfl rfl rfl (v_move (v := (Value.bool (!(r2)))) rfl) ?_
      by_cases hp4 : r2 = true
      · replace h := h.1 hp4
        refine rl_q (wanted_g rfl (yE_of rfl (congrArg Value.bool (congrArg Bool.not hp4)))) rfl rfl (v_faddr hE1 Try.underlying24 rfl info_3) ?_
        refine rl_q (wanted_g rfl (yE_of rfl (congrArg Value.bool (congrArg Bool.not hp4)))) rfl rfl (v_load rfl Try.underlying3 rfl (Row.cell (hS.bx 0 rfl) (i := 0) rfl)) ?_
        refine rl_q (wanted_g rfl (yE_of rfl (congrArg Value.bool (congrArg Bool.not hp4)))) rfl rfl (v_faddr rfl Try.underlying117 rfl info_3) ?_
        refine rl_q (wanted_g rfl (yE_of rfl (congrArg Value.bool (congrArg Bool.not hp4)))) rfl rfl (v_load rfl Try.underlying3 rfl (Row.cell (hS.bx 3 rfl) (i := 1) rfl)) ?_
        refine rl_n (wanted_g rfl (yE_of rfl (congrArg Value.bool (congrArg Bool.not hp4)))) rfl rfl rfl (n_call0 rfl (am2 rfl rfl) enter_139 ((pok_graph_vertex h (no_lt _)).mono ?_))
        rintro _ w15 ⟨r3, rfl, hC, h⟩
        replace hS := hS.pur hC.pure
        clear hC
        refine ⟨_, rfl, ?_⟩
        refine ⟨Stb.none _, ?_⟩
        refine rl_q (wanted_g rfl (yE_of rfl (congrArg Value.bool (congrArg Bool.not hp4)))) rfl rfl (v_not rfl) ?_
        refine rl_q rfl rfl rfl (v_pick_f (v := (Value.bool (!(r3)))) (congrArg Value.bool (congrArg Bool.not hp4)) rfl) ?_
        refine rl_q rfl rfl rfl (v_move (v := (Value.bool (!(r3)))) rfl) ?_
        by_cases hp5 : r3 = true
        · replace h := h.1 hp5
          refine rl_q (wanted_g rfl (yE_of rfl (congrArg Value.bool (congrArg Bool.not hp5)))) rfl rfl (v_faddr rfl Try.underlying117 rfl info_3) ?_
          refine rl_q (wanted_g rfl (yE_of rfl (congrArg Value.bool (congrArg Bool.not hp5)))) rfl rfl (v_load rfl Try.underlying3 rfl (Row.cell (hS.bx 3 rfl) (i := 2) rfl)) ?_
          refine rl_q (wanted_g rfl (yE_of rfl (congrArg Value.bool (congrArg Bool.not hp5)))) rfl rfl (v_lss rfl rfl) ?_
          refine rl_q rfl rfl rfl (v_pick_f (v := (Value.bool (decide (((ge d2 v.toNat).2.2) < 1)))) (congrArg Value.bool (congrArg Bool.not hp5)) rfl) ?_
          refine rl_q rfl rfl rfl (v_move (v := (Value.bool (decide (((ge d2 v.toNat).2.2) < 1)))) rfl) ?_
          by_cases hp6 : ((ge d2 v.toNat).2.2) < 1
          · replace h := h.1 hp6
            refine rl_p (wanted_n rfl (yE_of rfl (congrArg Value.bool (decide_eq_true hp6))) rfl) rfl ?_
            refine rl_p (wanted_n rfl (yE_of rfl (congrArg Value.bool (decide_eq_true hp6))) rfl) rfl ?_
            refine rl_p (wanted_n rfl (yE_of rfl (congrArg Value.bool (decide_eq_true hp6))) rfl) rfl ?_
            refine rl_q rfl rfl rfl (v_pick_t (v := (Value.bool (true))) (congrArg Value.bool (decide_eq_true hp6)) rfl) ?_
            refine rl_q rfl rfl rfl (v_assign (v := (Value.bool (true))) rfl) ?_
            refine rl_end ?_
            refine wt_cond_t rfl ?_
            refine wt_seq ?_
            refine wl_region wd_wide ?_
            refine rl_q rfl rfl rfl (v_assign (v := (Value.int .i64 2)) rfl) ?_
            refine rl_end ?_
            exact wt_ret1 rfl rfl ⟨_, rfl, (hS.sel [] (by decide)), h⟩
          · replace h := h.2 hp6
            refine rl_q (wanted_g rfl (yE_of rfl (congrArg Value.bool (decide_eq_false hp6)))) rfl rfl (v_faddr rfl Try.underlying117 rfl info_3) ?_
            refine rl_q (wanted_g rfl (yE_of rfl (congrArg Value.bool (decide_eq_false hp6)))) rfl rfl (v_load rfl Try.underlying3 rfl (Row.cell (hS.bx 3 rfl) (i := 2) rfl)) ?_
            refine rl_q (wanted_g rfl (yE_of rfl (congrArg Value.bool (decide_eq_false hp6)))) rfl rfl (v_gtr rfl rfl) ?_
            refine rl_q rfl rfl rfl (v_pick_f (v := (Value.bool (decide (50 < ((ge d2 v.toNat).2.2))))) (congrArg Value.bool (decide_eq_false hp6)) rfl) ?_
            refine rl_q rfl rfl rfl (v_assign (v := (Value.bool (decide (50 < ((ge d2 v.toNat).2.2))))) rfl) ?_
            refine rl_end ?_
            by_cases hp7 : 50 < ((ge d2 v.toNat).2.2)
            · replace h := h.1 hp7
              refine wt_cond_t (congrArg Value.bool (decide_eq_true hp7)) ?_
              refine wt_seq ?_
              refine wl_region wd_wide ?_
              refine rl_q rfl rfl rfl (v_assign (v := (Value.int .i64 2)) rfl) ?_
              refine rl_end ?_
              exact wt_ret1 rfl rfl ⟨_, rfl, (hS.sel [] (by decide)), h⟩
            · replace h := h.2 hp7
              refine wt_cond_f (congrArg Value.bool (decide_eq_false hp7)) ?_
              exact j2 _ _ _ ⟨h, rfl, hE1, hE3, rfl, rfl, hE17, hE18, hE19, (hS.sel [0, 1, 2, 3, 4] (by decide))⟩
        · replace h := h.2 hp5
          refine rl_p (wanted_n rfl (yE_of rfl (congrArg Value.bool (congrArg Bool.not (Bool.eq_false_iff.2 hp5)))) rfl) rfl ?_
          refine rl_p (wanted_n rfl (yE_of rfl (congrArg Value.bool (congrArg Bool.not (Bool.eq_false_iff.2 hp5)))) rfl) rfl ?_
          refine rl_p (wanted_n rfl (yE_of rfl (congrArg Value.bool (congrArg Bool.not (Bool.eq_false_iff.2 hp5)))) rfl) rfl ?_
          refine rl_q rfl rfl rfl (v_pick_t (v := (Value.bool (true))) (congrArg Value.bool (congrArg Bool.not (Bool.eq_false_iff.2 hp5))) rfl) ?_
          refine rl_q rfl rfl rfl (v_move (v := (Value.bool (true))) rfl) ?_
          refine rl_p (wanted_n rfl (yE_of rfl rfl) rfl) rfl ?_
          refine rl_p (wanted_n rfl (yE_of rfl rfl) rfl) rfl ?_
          refine rl_p (wanted_n rfl (yE_of rfl rfl) rfl) rfl ?_
          refine rl_q rfl rfl rfl (v_pick_t (v := (Value.bool (true))) rfl rfl) ?_
          refine rl_q rfl rfl rfl (v_assign (v := (Value.bool (true))) rfl) ?_
          refine rl_end ?_
          refine wt_cond_t rfl ?_
          refine wt_seq ?_
          refine wl_region wd_wide ?_
          refine rl_q rfl rfl rfl (v_assign (v := (Value.int .i64 2)) rfl) ?_
          refine rl_end ?_
          exact wt_ret1 rfl rfl ⟨_, rfl, (hS.sel [] (by decide)), h⟩
      · replace h := h.2 hp4
        refine rl_p (wanted_n rfl (yE_of rfl (congrArg Value.bool (congrArg Bool.not (Bool.eq_false_iff.2 hp4)))) rfl) rfl ?_
        refine rl_p (wanted_n rfl (yE_of rfl (congrArg Value.bool (congrArg Bool.not (Bool.eq_false_iff.2 hp4)))) rfl) rfl ?_
        refine rl_p (wanted_n rfl (yE_of rfl (congrArg Value.bool (congrArg Bool.not (Bool.eq_false_iff.2 hp4)))) rfl) rfl ?_
        refine rl_p (wanted_n rfl (yE_of rfl (congrArg Value.bool (congrArg Bool.not (Bool.eq_false_iff.2 hp4)))) rfl) rfl ?_
        refine rl_p (wanted_n rfl (yE_of rfl (congrArg Value.bool (congrArg Bool.not (Bool.eq_false_iff.2 hp4)))) rfl) rfl ?_
        refine rl_p (wanted_n rfl (yE_of rfl (congrArg Value.bool (congrArg Bool.not (Bool.eq_false_iff.2 hp4)))) rfl) rfl ?_
        refine rl_q rfl rfl rfl (v_pick_t (v := (Value.bool (true))) (congrArg Value.bool (congrArg Bool.not (Bool.eq_false_iff.2 hp4))) rfl) ?_
        refine rl_q rfl rfl rfl (v_move (v := (Value.bool (true))) rfl) ?_
        refine rl_p (wanted_n rfl (yE_of rfl rfl) rfl) rfl ?_
        refine rl_p (wanted_n rfl (yE_of rfl rfl) rfl) rfl ?_
        refine rl_p (wanted_n rfl (yE_of rfl rfl) rfl) rfl ?_
        refine rl_q rfl rfl rfl (v_pick_t (v := (Value.bool (true))) rfl rfl) ?_
        refine rl_q rfl rfl rfl (v_move (v := (Value.bool (true))) rfl) ?_
        refine rl_p (wanted_n rfl (yE_of rfl rfl) rfl) rfl ?_
        refine rl_p (wanted_n rfl (yE_of rfl rfl) rfl) rfl ?_
        refine rl_p (wanted_n rfl (yE_of rfl rfl) rfl) rfl ?_
        refine rl_q rfl rfl rfl (v_pick_t (v := (Value.bool (true))) rfl rfl) ?_
        refine rl_q rfl rfl rfl (v_assign (v := (Value.bool (true))) rfl) ?_
        refine rl_end ?_
        refine wt_cond_t rfl ?_
        refine wt_seq ?_
        refine wl_region wd_wide ?_
        refine rl_q rfl rfl rfl (v_assign (v := (Value.int .i64 2)) rfl) ?_
        refine rl_end ?_
        exact wt_ret1 rfl rfl ⟨_, rfl, (hS.sel [] (by decide)), h⟩
    · replace h := h.2 hp
      refine wt_cond_f (congrArg Value.bool (decide_eq_false hp)) ?_
      refine wt_exit rfl ?_
      refine wt_seq ?_
      refine wl_region wd_wide ?_
      refine rl_q rfl rfl rfl (v_assign (v := (Value.int .i64 0)) rfl) ?_
      refine rl_end ?_
      exact wt_ret1 rfl rfl ⟨_, rfl, (hS.sel [] (by decide)), h⟩
  clear hJ
  intro j
  refine wl_region wd_wide ?_
  refine rl_q rfl rfl rfl (v_faddr rfl Try.underlying24 rfl info_3) ?_
  refine rl_q rfl rfl rfl (v_load rfl Try.underlying3 rfl (Row.cell (hS.bx 1 rfl) (i := 0) rfl)) ?_
  refine rl_q rfl rfl rfl (v_lss rfl rfl) ?_
  refine rl_q rfl rfl rfl (v_move (v := (Value.bool (decide (d < 1)))) rfl) ?_
  by_cases hp8 : d < 1
  · replace h := h.1 hp8
    refine rl_p (wanted_n rfl (yE_of rfl (congrArg Value.bool (decide_eq_true hp8))) rfl) rfl ?_
    refine rl_p (wanted_n rfl (yE_of rfl (congrArg Value.bool (decide_eq_true hp8))) rfl) rfl ?_
    refine rl_p (wanted_n rfl (yE_of rfl (congrArg Value.bool (decide_eq_true hp8))) rfl) rfl ?_
    refine rl_q rfl rfl rfl (v_pick_t (v := (Value.bool (true))) (congrArg Value.bool (decide_eq_true hp8)) rfl) ?_
    refine rl_end ?_
    refine wt_cond_t rfl ?_
    refine wt_seq ?_
    refine wl_region wd_wide ?_
    refine rl_q rfl rfl rfl (v_assign (v := (Value.int .i64 2)) rfl) ?_
    refine rl_end ?_
    exact wt_ret1 rfl rfl ⟨_, rfl, (hS.sel [] (by decide)), h⟩
  · replace h := h.2 hp8
    refine rl_q (wanted_g rfl (yE_of rfl (congrArg Value.bool (decide_eq_false hp8)))) rfl rfl (v_faddr rfl Try.underlying24 rfl info_3) ?_
    refine rl_q (wanted_g rfl (yE_of rfl (congrArg Value.bool (decide_eq_false hp8)))) rfl rfl (v_load rfl Try.underlying3 rfl (Row.cell (hS.bx 1 rfl) (i := 0) rfl)) ?_
    refine rl_q (wanted_g rfl (yE_of rfl (congrArg Value.bool (decide_eq_false hp8)))) rfl rfl (v_gtr rfl rfl) ?_
    refine rl_q rfl rfl rfl (v_pick_f (v := (Value.bool (decide (12 < d)))) (congrArg Value.bool (decide_eq_false hp8)) rfl) ?_
    refine rl_end ?_
    by_cases hp9 : 12 < d
    · replace h := h.1 hp9
      refine wt_cond_t (congrArg Value.bool (decide_eq_true hp9)) ?_
      refine wt_seq ?_
      refine wl_region wd_wide ?_
      refine rl_q rfl rfl rfl (v_assign (v := (Value.int .i64 2)) rfl) ?_
      refine rl_end ?_
      exact wt_ret1 rfl rfl ⟨_, rfl, (hS.sel [] (by decide)), h⟩
    · replace h := h.2 hp9
      refine wt_cond_f (congrArg Value.bool (decide_eq_false hp9)) ?_
      refine wt_skip ?_
      exact j _ _ _ ⟨h, rfl, rfl, (hS.sel [1, 0] (by decide))⟩

/-- sandpile/graph.Subset: what it computes. -/
def pf_graph_Subset (g : Int) (g2 : List (Int × Int × Int)) (set2 : List Int) (R : Int → Prop) : Prop :=
pf_graph_Check g g2 (fun (r : Int) =>
((r = 0 →
(∃ I2 : Nat → Int → Prop, (∃ m0, I2 m0 0) ∧ ∀ (m2 : Nat) (v : Int), I2 m2 v → 
((v < ((set2.length : Nat) : Int) →
((0 ≤ v ∧ v < ((set2.length : Nat) : Int)) ∧
pf_graph_vertex g (gi set2 v.toNat) (fun (r2 : Bool) =>
((r2 = true →
((0 < v →
(In64 (v - 1) ∧
((0 ≤ (v - 1) ∧ (v - 1) < ((set2.length : Nat) : Int)) ∧
(((gi set2 v.toNat) ≤ (gi set2 (v - 1).toNat) →
R 9) ∧
(¬ ((gi set2 v.toNat) ≤ (gi set2 (v - 1).toNat)) →
(In64 (v + 1) ∧
∃ m3, m3 < m2 ∧ I2 m3 (v + 1))))))) ∧
(¬ (0 < v) →
(In64 (v + 1) ∧
∃ m4, m4 < m2 ∧ I2 m4 (v + 1))))) ∧
(¬ (r2 = true) →
R 2))))) ∧
(¬ (v < ((set2.length : Nat) : Int)) →
R 0)))) ∧
(¬ (r = 0) →
R r)))
theorem pok_graph_Subset {O : Nat → Prop} {w : World} {g : Int} {g2 : List (Int × Int × Int)} {set2 : List Int} {Ag : Option Addr} {lg : Nat} {cg : Nat} {Aset : Option Addr} {lset : Nat} {cset : Nat} {R : Int → Prop} (h : pf_graph_Subset g g2 set2 R) (hO : ∀ k, O k → k < w.heap.size) (a0 : (FP.sl c3 Ag lg cg g2).P O w) (a1 : (FP.sl cI Aset lset cset set2).P O w) :
    Calls Try.prog 131 #[(Value.agg #[(Value.int .i64 g), (Value.slice Ag lg cg)]), (Value.slice Aset lset cset)] w fun e w' => ∃ r3 : Int, e = .returned (Value.int .i64 r3) ∧ Sep w no O w' (rl []) ∧ R r3 := by
  unfold pf_graph_Subset at h
  have hS : Sep w no O w (rl [Res.ro (FP.sl c3 Ag lg cg g2), Res.ro (FP.sl cI Aset lset cset set2)]) := Sep.startl hO [(FP.sl c3 Ag lg cg g2), (FP.sl cI Aset lset cset set2)] ⟨a0, a1, trivial⟩
  refine calls_sh (l := [(Value.agg #[(Value.int .i64 g), (Value.slice Ag lg cg)]), (Value.slice Aset lset cset)]) Try.func131 rfl Try.ntmps131 (Nat.le_of_ble_eq_true rfl) ?_
  refine wt_seq ?_
  refine wl_region wd_wide ?_
  refine rl_n rfl rfl rfl rfl (n_box (v := (Value.agg #[(Value.int .i64 g), (Value.slice Ag lg cg)])) rfl ?_)
  intro g3 w2 hN
  replace hS : Sep w no O w2 (stl _ 2 (Res.box 24 g3 [(Value.int .i64 g), (Value.slice Ag lg cg)])) := hS.new 2 rfl hN
  clear hN
  refine ⟨Stb.none _, ?_⟩
  refine rl_q rfl rfl rfl (v_assign (v := (Value.int .i64 0)) rfl) ?_
  refine rl_end ?_
  refine wt_seq ?_
  refine wt_seq ?_
  refine wl_region wd_wide ?_
  refine rl_q rfl rfl rfl (v_loadn (vs := [(Value.int .i64 g), (Value.slice Ag lg cg)]) rfl Try.underlying24 rfl info_24 ⟨Row.cell (hS.bx 2 rfl) (i := 0) rfl, Row.cell (hS.bx 2 rfl) (i := 1) rfl, trivial⟩) ?_
  refine rl_n rfl rfl rfl rfl (n_call0 rfl (am1 rfl) enter_104 ((pok_graph_Check h (no_lt _) (hS.rdr 0 rfl)).mono ?_))
  rintro _ w3 ⟨r, rfl, hC, h⟩
  replace hS := hS.pur hC.pure
  clear hC
  refine ⟨_, rfl, ?_⟩
  refine ⟨Stb.none _, ?_⟩
  refine rl_q rfl rfl rfl (v_assign (v := (Value.int .i64 r)) rfl) ?_
  refine rl_end ?_
  refine wt_seq ?_
  refine wl_region wd_wide ?_
  refine rl_q rfl rfl rfl (v_move (v := (Value.int .i64 r)) rfl) ?_
  refine rl_q rfl rfl rfl (v_neq rfl rfl) ?_
  refine rl_end ?_
  by_cases hp : r = 0
  · replace h := h.1 hp
    refine wt_cond_f (congrArg Value.bool (congrArg Bool.not (decide_eq_true hp))) ?_
    refine wt_skip ?_
    refine wt_seq ?_
    refine wt_seq ?_
    refine wl_region wd_wide ?_
    refine rl_q rfl rfl rfl (v_move (v := (Value.slice Aset lset cset)) rfl) ?_
    refine rl_q rfl rfl rfl (v_lenx (n := set2.length) rfl Try.underlying25 (rd_len (hS.rdr 1 rfl))) ?_
    refine rl_q rfl rfl rfl (v_move (v := (Value.int .i64 0)) rfl) ?_
    refine rl_end ?_
    refine wt_block ?_
    obtain ⟨I2, ⟨m0, h0⟩, hr⟩ := h
    refine wt_loop (fun m E ds w' => ∃ v : Int, I2 m v ∧ ds = [] ∧ E 1 = (Value.slice Aset lset cset) ∧ E 2 = (Value.pointer (some (⟨g3, 0, none⟩ : Addr))) ∧ E 13 = (Value.slice Aset lset cset) ∧ E 14 = (Value.int .i64 ((set2.length : Nat) : Int)) ∧ E 15 = (Value.int .i64 v) ∧ Sep w no O w' (rl [Res.ro (FP.sl cI Aset lset cset set2), Res.box 24 g3 [(Value.int .i64 g), (Value.slice Ag lg cg)], Res.ro (FP.sl c3 Ag lg cg g2)])) m0 ⟨_, h0, rfl, rfl, rfl, rfl, rfl, rfl, (hS.sel [1, 2, 0] (by decide))⟩ ?_
    clear h0 hS
    rintro m2 E ds w4 ⟨v, h, rfl, hE1, hE2, hE13, hE14, hE15, hS⟩ again
    replace h := hr m2 v h
    clear hr
    refine wt_seq ?_
    refine wl_region wd_wide ?_
    refine rl_q rfl rfl rfl (v_lss hE15 hE14) ?_
    refine rl_end ?_
    refine wt_seq ?_
    by_cases hp2 : v < ((set2.length : Nat) : Int)
    · replace h := h.1 hp2
      refine wt_cond_t (congrArg Value.bool (decide_eq_true hp2)) ?_
      refine wt_skip ?_
      refine wt_seq ?_
      refine wt_block ?_
      refine wt_seq ?_
      refine wl_region wd_wide ?_
      refine rl_q rfl rfl rfl (v_move (v := (Value.int .i64 v)) hE15) ?_
      obtain ⟨hx, h⟩ := h
      refine rl_q rfl rfl rfl (v_iaddr hE13 hE15 Try.underlying25 info_3 (rd_ix (hS.rdr 0 rfl) hx)) ?_
      refine rl_q rfl rfl rfl (v_load (v := (Value.int .i64 (gi set2 v.toNat))) rfl Try.underlying3 rfl (rd_1 (hS.rdr 0 rfl) hx (fun q => gi_some q) rfl)) ?_
      refine rl_q rfl rfl rfl (v_assign (v := (Value.int .i64 v)) rfl) ?_
      refine rl_q rfl rfl rfl (v_assign (v := (Value.int .i64 (gi set2 v.toNat))) rfl) ?_
      refine rl_end ?_
      refine wt_seq ?_
      refine wt_seq ?_
      refine wl_region wd_wide ?_
      refine rl_q rfl rfl rfl (v_faddr hE2 Try.underlying24 rfl info_3) ?_
      refine rl_q rfl rfl rfl (v_load rfl Try.underlying3 rfl (Row.cell (hS.bx 1 rfl) (i := 0) rfl)) ?_
      refine rl_q rfl rfl rfl (v_move (v := (Value.int .i64 (gi set2 v.toNat))) rfl) ?_
      refine rl_n rfl rfl rfl rfl (n_call0 rfl (am2 rfl rfl) enter_139 ((pok_graph_vertex h (no_lt _)).mono ?_))
      rintro _ w5 ⟨r2, rfl, hC, h⟩
      replace hS := hS.pur hC.pure
      clear hC
      refine ⟨_, rfl, ?_⟩
      refine ⟨Stb.none _, ?_⟩
      refine rl_q rfl rfl rfl (v_not rfl) ?_
      refine rl_end ?_
      by_cases hp3 : r2 = true
      · replace h := h.1 hp3
        refine wt_cond_f (congrArg Value.bool (congrArg Bool.not hp3)) ?_
        refine wt_skip ?_
        refine wt_seq ?_
        refine wl_region wd_wide ?_
        refine rl_q rfl rfl rfl (v_move (v := (Value.int .i64 v)) rfl) ?_
        refine rl_q rfl rfl rfl (v_gtr rfl rfl) ?_
        refine rl_q rfl rfl rfl (v_move (v := (Value.bool (decide (0 < v)))) rfl) ?_
        by_cases hp4 : 0 < v
        · replace h := h.1 hp4
          refine rl_q (wanted_g rfl (yE_of rfl (congrArg Value.bool (decide_eq_true hp4)))) rfl rfl (v_move (v := (Value.int .i64 (gi set2 v.toNat))) rfl) ?_
          refine rl_q (wanted_g rfl (yE_of rfl (congrArg Value.bool (decide_eq_true hp4)))) rfl rfl (v_move (v := (Value.slice Aset lset cset)) hE1) ?_
          refine rl_q (wanted_g rfl (yE_of rfl (congrArg Value.bool (decide_eq_true hp4)))) rfl rfl (v_move (v := (Value.int .i64 v)) rfl) ?_
          obtain ⟨hi, h⟩ := h
          refine rl_q (wanted_g rfl (yE_of rfl (congrArg Value.bool (decide_eq_true hp4)))) rfl rfl (v_sub rfl rfl hi) ?_
          obtain ⟨hx2, h⟩ := h
          refine rl_q (wanted_g rfl (yE_of rfl (congrArg Value.bool (decide_eq_true hp4)))) rfl rfl (v_iaddr rfl rfl Try.underlying25 info_3 (rd_ix (hS.rdr 0 rfl) hx2)) ?_
          refine rl_q (wanted_g rfl (yE_of rfl (congrArg Value.bool (decide_eq_true hp4)))) rfl rfl (v_load (v := (Value.int .i64 (gi set2 (v - 1).toNat))) rfl Try.underlying3 rfl (rd_1 (hS.rdr 0 rfl) hx2 (fun q => gi_some q) rfl)) ?_
          refine rl_q (wanted_g rfl (yE_of rfl (congrArg Value.bool (decide_eq_true hp4)))) rfl rfl (v_leq rfl rfl) ?_
          refine rl_q rfl rfl rfl (v_pick_t (v := (Value.bool (decide ((gi set2 v.toNat) ≤ (gi set2 (v - 1).toNat))))) (congrArg Value.bool (decide_eq_true hp4)) rfl) ?_
          refine rl_end ?_
          by_cases hp5 : (gi set2 v.toNat) ≤ (gi set2 (v - 1).toNat)
          · replace h := h.1 hp5
            refine wt_cond_t (congrArg Value.bool (decide_eq_true hp5)) ?_
            refine wt_seq ?_
            refine wl_region wd_wide ?_
            refine rl_q rfl rfl rfl (v_assign (v := (Value.int .i64 9)) rfl) ?_
            refine rl_end ?_
            exact wt_ret1 rfl rfl ⟨_, rfl, (hS.sel [] (by decide)), h⟩
          · replace h := h.2 hp5
            refine wt_cond_f (congrArg Value.bool (decide_eq_false hp5)) ?_
            refine wt_skip ?_
            refine wt_inBlock ?_
            refine wl_region wd_wide ?_
            obtain ⟨hi2, h⟩ := h
            refine rl_q rfl rfl rfl (v_add hE15 rfl hi2) ?_
            refine rl_q rfl rfl rfl (v_move (v := (Value.int .i64 (v + 1))) rfl) ?_
            refine rl_end ?_
            obtain ⟨mq, hlt, h⟩ := h
            exact again mq _ _ _ ⟨_, h, rfl, hE1, hE2, hE13, hE14, rfl, (hS.sel [0, 1, 2] (by decide))⟩ hlt
        · replace h := h.2 hp4
          refine rl_p (wanted_n rfl (yE_of rfl (congrArg Value.bool (decide_eq_false hp4))) rfl) rfl ?_
          refine rl_p (wanted_n rfl (yE_of rfl (congrArg Value.bool (decide_eq_false hp4))) rfl) rfl ?_
          refine rl_p (wanted_n rfl (yE_of rfl (congrArg Value.bool (decide_eq_false hp4))) rfl) rfl ?_
          refine rl_p (wanted_n rfl (yE_of rfl (congrArg Value.bool (decide_eq_false hp4))) rfl) rfl ?_
          refine rl_p (wanted_n rfl (yE_of rfl (congrArg Value.bool (decide_eq_false hp4))) rfl) rfl ?_
          refine rl_p (wanted_n rfl (yE_of rfl (congrArg Value.bool (decide_eq_false hp4))) rfl) rfl ?_
          refine rl_p (wanted_n rfl (yE_of rfl (congrArg Value.bool (decide_eq_false hp4))) rfl) rfl ?_
          refine rl_q rfl rfl rfl (v_pick_f (v := (Value.bool (false))) (congrArg Value.bool (decide_eq_false hp4)) rfl) ?_
          refine rl_end ?_
          refine wt_cond_f rfl ?_
          refine wt_skip ?_
          refine wt_inBlock ?_
          refine wl_region wd_wide ?_
          obtain ⟨hi3, h⟩ := h
          refine rl_q rfl rfl rfl (v_add hE15 rfl hi3) ?_
          refine rl_q rfl rfl rfl (v_move (v := (Value.int .i64 (v + 1))) rfl) ?_
          refine rl_end ?_
          obtain ⟨mq, hlt, h⟩ := h
          exact again mq _ _ _ ⟨_, h, rfl, hE1, hE2, hE13, hE14, rfl, (hS.sel [0, 1, 2] (by decide))⟩ hlt
      · replace h := h.2 hp3
        refine wt_cond_t (congrArg Value.bool (congrArg Bool.not (Bool.eq_false_iff.2 hp3))) ?_
        refine wt_seq ?_
        refine wl_region wd_wide ?_
        refine rl_q rfl rfl rfl (v_assign (v := (Value.int .i64 2)) rfl) ?_
        refine rl_end ?_
        exact wt_ret1 rfl rfl ⟨_, rfl, (hS.sel [] (by decide)), h⟩
    · replace h := h.2 hp2
      refine wt_cond_f (congrArg Value.bool (decide_eq_false hp2)) ?_
      refine wt_exit rfl ?_
      refine wt_seq ?_
      refine wl_region wd_wide ?_
      refine rl_q rfl rfl rfl (v_assign (v := (Value.int .i64 0)) rfl) ?_
      refine rl_end ?_
      exact wt_ret1 rfl rfl ⟨_, rfl, (hS.sel [] (by decide)), h⟩
  · replace h := h.2 hp
    refine wt_cond_t (congrArg Value.bool (congrArg Bool.not (decide_eq_false hp))) ?_
    refine wt_seq ?_
    refine wl_region wd_wide ?_
    refine rl_q rfl rfl rfl (v_move (v := (Value.int .i64 r)) rfl) ?_
    refine rl_q rfl rfl rfl (v_assign (v := (Value.int .i64 r)) rfl) ?_
    refine rl_end ?_
    exact wt_ret1 rfl rfl ⟨_, rfl, (hS.sel [] (by decide)), h⟩

/-- sandpile/firing.given: what it computes. -/
def pf_firing_given (g : Int) (g2 : List (Int × Int × Int)) (d : List Int) (R : Int → Prop) : Prop :=
pf_graph_Check g g2 (fun (r : Int) =>
((r = 0 →
pf_chips_Check d g (fun (r2 : Int) =>
R r2)) ∧
(¬ (r = 0) →
R r)))
theorem pok_firing_given {O : Nat → Prop} {w : World} {g : Int} {g2 : List (Int × Int × Int)} {d : List Int} {Ag : Option Addr} {lg : Nat} {cg : Nat} {Ad : Option Addr} {ld : Nat} {cd : Nat} {R : Int → Prop} (h : pf_firing_given g g2 d R) (hO : ∀ k, O k → k < w.heap.size) (a0 : (FP.sl c3 Ag lg cg g2).P O w) (a1 : (FP.sl cI Ad ld cd d).P O w) :
    Calls Try.prog 80 #[(Value.agg #[(Value.int .i64 g), (Value.slice Ag lg cg)]), (Value.slice Ad ld cd)] w fun e w' => ∃ r3 : Int, e = .returned (Value.int .i64 r3) ∧ Sep w no O w' (rl []) ∧ R r3 := by
  unfold pf_firing_given at h
  have hS : Sep w no O w (rl [Res.ro (FP.sl c3 Ag lg cg g2), Res.ro (FP.sl cI Ad ld cd d)]) := Sep.startl hO [(FP.sl c3 Ag lg cg g2), (FP.sl cI Ad ld cd d)] ⟨a0, a1, trivial⟩
  refine calls_sh (l := [(Value.agg #[(Value.int .i64 g), (Value.slice Ag lg cg)]), (Value.slice Ad ld cd)]) Try.func80 rfl Try.ntmps80 (Nat.le_of_ble_eq_true rfl) ?_
  refine wt_seq ?_
  refine wl_region wd_wide ?_
  refine rl_n rfl rfl rfl rfl (n_box (v := (Value.agg #[(Value.int .i64 g), (Value.slice Ag lg cg)])) rfl ?_)
  intro g3 w2 hN
  replace hS : Sep w no O w2 (stl _ 2 (Res.box 24 g3 [(Value.int .i64 g), (Value.slice Ag lg cg)])) := hS.new 2 rfl hN
  clear hN
  refine ⟨Stb.none _, ?_⟩
  refine rl_q rfl rfl rfl (v_assign (v := (Value.int .i64 0)) rfl) ?_
  refine rl_end ?_
  refine wt_seq ?_
  refine wt_seq ?_
  refine wl_region wd_wide ?_
  refine rl_q rfl rfl rfl (v_loadn (vs := [(Value.int .i64 g), (Value.slice Ag lg cg)]) rfl Try.underlying24 rfl info_24 ⟨Row.cell (hS.bx 2 rfl) (i := 0) rfl, Row.cell (hS.bx 2 rfl) (i := 1) rfl, trivial⟩) ?_
  refine rl_n rfl rfl rfl rfl (n_call0 rfl (am1 rfl) enter_104 ((pok_graph_Check h (no_lt _) (hS.rdr 0 rfl)).mono ?_))
  rintro _ w3 ⟨r, rfl, hC, h⟩
  replace hS := hS.pur hC.pure
  clear hC
  refine ⟨_, rfl, ?_⟩
  refine ⟨Stb.none _, ?_⟩
  refine rl_q rfl rfl rfl (v_assign (v := (Value.int .i64 r)) rfl) ?_
  refine rl_end ?_
  refine wt_seq ?_
  refine wl_region wd_wide ?_
  refine rl_q rfl rfl rfl (v_move (v := (Value.int .i64 r)) rfl) ?_
  refine rl_q rfl rfl rfl (v_neq rfl rfl) ?_
  refine rl_end ?_
  by_cases hp : r = 0
  · replace h := h.1 hp
    refine wt_cond_f (congrArg Value.bool (congrArg Bool.not (decide_eq_true hp))) ?_
    refine wt_skip ?_
    refine wt_seq ?_
    refine wl_region wd_wide ?_
    refine rl_q rfl rfl rfl (v_move (v := (Value.slice Ad ld cd)) rfl) ?_
    refine rl_q rfl rfl rfl (v_faddr rfl Try.underlying24 rfl info_3) ?_
    refine rl_q rfl rfl rfl (v_load rfl Try.underlying3 rfl (Row.cell (hS.bx 2 rfl) (i := 0) rfl)) ?_
    refine rl_n rfl rfl rfl rfl (n_call0 rfl (am2 rfl rfl) enter_84 ((pok_chips_Check h (no_lt _) (hS.rdr 1 rfl)).mono ?_))
    rintro _ w4 ⟨r2, rfl, hC, h⟩
    replace hS := hS.pur hC.pure
    clear hC
    refine ⟨_, rfl, ?_⟩
    refine ⟨Stb.none _, ?_⟩
    refine rl_q rfl rfl rfl (v_assign (v := (Value.int .i64 r2)) rfl) ?_
    refine rl_end ?_
    exact wt_ret1 rfl rfl ⟨_, rfl, (hS.sel [] (by decide)), h⟩
  · replace h := h.2 hp
    refine wt_cond_t (congrArg Value.bool (congrArg Bool.not (decide_eq_false hp))) ?_
    refine wt_seq ?_
    refine wl_region wd_wide ?_
    refine rl_q rfl rfl rfl (v_move (v := (Value.int .i64 r)) rfl) ?_
    refine rl_q rfl rfl rfl (v_assign (v := (Value.int .i64 r)) rfl) ?_
    refine rl_end ?_
    exact wt_ret1 rfl rfl ⟨_, rfl, (hS.sel [] (by decide)), h⟩

/-- sandpile/firing.Check: what it computes. -/
def pf_firing_Check (g : Int) (g2 : List (Int × Int × Int)) (s : List Int) (R : Int → Prop) : Prop :=
pf_firing_given g g2 s (fun (r : Int) =>
R r)
theorem pok_firing_Check {O : Nat → Prop} {w : World} {g : Int} {g2 : List (Int × Int × Int)} {s : List Int} {Ag : Option Addr} {lg : Nat} {cg : Nat} {As : Option Addr} {ls : Nat} {cs : Nat} {R : Int → Prop} (h : pf_firing_Check g g2 s R) (hO : ∀ k, O k → k < w.heap.size) (a0 : (FP.sl c3 Ag lg cg g2).P O w) (a1 : (FP.sl cI As ls cs s).P O w) :
    Calls Try.prog 81 #[(Value.agg #[(Value.int .i64 g), (Value.slice Ag lg cg)]), (Value.slice As ls cs)] w fun e w' => ∃ r2 : Int, e = .returned (Value.int .i64 r2) ∧ Sep w no O w' (rl []) ∧ R r2 := by
  unfold pf_firing_Check at h
  have hS : Sep w no O w (rl [Res.ro (FP.sl c3 Ag lg cg g2), Res.ro (FP.sl cI As ls cs s)]) := Sep.startl hO [(FP.sl c3 Ag lg cg g2), (FP.sl cI As ls cs s)] ⟨a0, a1, trivial⟩
  refine calls_sh (l := [(Value.agg #[(Value.int .i64 g), (Value.slice Ag lg cg)]), (Value.slice As ls cs)]) Try.func81 rfl Try.ntmps81 (Nat.le_of_ble_eq_true rfl) ?_
  refine wt_seq ?_
  refine wl_region wd_wide ?_
  refine rl_n rfl rfl rfl rfl (n_box (v := (Value.agg #[(Value.int .i64 g), (Value.slice Ag lg cg)])) rfl ?_)
  intro g3 w2 hN
  replace hS : Sep w no O w2 (stl _ 2 (Res.box 24 g3 [(Value.int .i64 g), (Value.slice Ag lg cg)])) := hS.new 2 rfl hN
  clear hN
  refine ⟨Stb.none _, ?_⟩
  refine rl_q rfl rfl rfl (v_assign (v := (Value.int .i64 0)) rfl) ?_
  refine rl_end ?_
  refine wt_seq ?_
  refine wl_region wd_wide ?_
  refine rl_q rfl rfl rfl (v_loadn (vs := [(Value.int .i64 g), (Value.slice Ag lg cg)]) rfl Try.underlying24 rfl info_24 ⟨Row.cell (hS.bx 2 rfl) (i := 0) rfl, Row.cell (hS.bx 2 rfl) (i := 1) rfl, trivial⟩) ?_
  refine rl_q rfl rfl rfl (v_move (v := (Value.slice As ls cs)) rfl) ?_
  refine rl_n rfl rfl rfl rfl (n_call0 rfl (am2 rfl rfl) enter_80 ((pok_firing_given h (no_lt _) (hS.rdr 0 rfl) (hS.rdr 1 rfl)).mono ?_))
  rintro _ w3 ⟨r, rfl, hC, h⟩
  replace hS := hS.pur hC.pure
  clear hC
  refine ⟨_, rfl, ?_⟩
  refine ⟨Stb.none _, ?_⟩
  refine rl_q rfl rfl rfl (v_assign (v := (Value.int .i64 r)) rfl) ?_
  refine rl_end ?_
  exact wt_ret1 rfl rfl ⟨_, rfl, (hS.sel [] (by decide)), h⟩

/-- sandpile/firing.bounded$1: what it computes. -/
def pf_firing_bounded_1 (k : Int) (R : Bool → Prop) : Prop :=
((k < (-1048576) →
R true) ∧
(¬ (k < (-1048576)) →
R (decide (1048576 < k))))
theorem pok_firing_bounded_1 {O : Nat → Prop} {w : World} {k : Int} {R : Bool → Prop} (h : pf_firing_bounded_1 k R) (hO : ∀ k, O k → k < w.heap.size) :
    Calls Try.prog 126 #[(Value.int .i64 k)] w fun e w' => ∃ r : Bool, e = .returned (Value.bool (r)) ∧ Sep w no O w' (rl []) ∧ R r := by
  unfold pf_firing_bounded_1 at h
  have hS : Sep w no O w (rl []) := Sep.start w hO
  refine calls_sh (l := [(Value.int .i64 k)]) Try.func126 rfl Try.ntmps126 (Nat.le_of_ble_eq_true rfl) ?_
  refine wt_seq ?_
  refine wl_region wd_wide ?_
  refine rl_q rfl rfl rfl (v_assign (v := (Value.bool (false))) rfl) ?_
  refine rl_end ?_
  refine wt_seq ?_
  refine wl_region wd_wide ?_
  refine rl_q rfl rfl rfl (v_move (v := (Value.int .i64 k)) rfl) ?_
  refine rl_q rfl rfl rfl (v_lss rfl rfl) ?_
  refine rl_q rfl rfl rfl (v_move (v := (Value.bool (decide (k < (-1048576))))) rfl) ?_
  by_cases hp : k < (-1048576)
  · replace h := h.1 hp
    refine rl_p (wanted_n rfl (yE_of rfl (congrArg Value.bool (decide_eq_true hp))) rfl) rfl ?_
    refine rl_p (wanted_n rfl (yE_of rfl (congrArg Value.bool (decide_eq_true hp))) rfl) rfl ?_
    refine rl_q rfl rfl rfl (v_pick_t (v := (Value.bool (true))) (congrArg Value.bool (decide_eq_true hp)) rfl) ?_
    refine rl_q rfl rfl rfl (v_assign (v := (Value.bool (true))) rfl) ?_
    refine rl_end ?_
    exact wt_ret1 rfl rfl ⟨_, rfl, (hS.sel [] (by decide)), h⟩
  · replace h := h.2 hp
    refine rl_q (wanted_g rfl (yE_of rfl (congrArg Value.bool (decide_eq_false hp)))) rfl rfl (v_move (v := (Value.int .i64 k)) rfl) ?_
    refine rl_q (wanted_g rfl (yE_of rfl (congrArg Value.bool (decide_eq_false hp)))) rfl rfl (v_gtr rfl rfl) ?_
    refine rl_q rfl rfl rfl (v_pick_f (v := (Value.bool (decide (1048576 < k)))) (congrArg Value.bool (decide_eq_false hp)) rfl) ?_
    refine rl_q rfl rfl rfl (v_assign (v := (Value.bool (decide (1048576 < k)))) rfl) ?_
    refine rl_end ?_
    exact wt_ret1 rfl rfl ⟨_, rfl, (hS.sel [] (by decide)), h⟩

/-- sandpile/firing.bounded: what it computes. -/
def pf_firing_bounded (d : List Int) (R : (List Int) → Int → Prop) : Prop :=
pf_slices_ContainsFunc_Divisor d (fun x R => pf_firing_bounded_1 x R) (fun (r : Bool) =>
((r = true →
R ([]) 11) ∧
(¬ (r = true) →
R d 0)))
theorem pok_firing_bounded {O : Nat → Prop} {w : World} {d : List Int} {Ad : Option Addr} {ld : Nat} {cd : Nat} {R : (List Int) → Int → Prop} (h : pf_firing_bounded d R) (hO : ∀ k, O k → k < w.heap.size) (a0 : (FP.sl cI Ad ld cd d).P O w) :
    Calls Try.prog 82 #[(Value.slice Ad ld cd)] w fun e w' => ∃ r2 : List Int, ∃ r3 : Int, ∃ Ar : Option Addr, ∃ lr : Nat, ∃ cr : Nat, e = .returned (Value.tuple #[(Value.slice Ar lr cr), (Value.int .i64 r3)]) ∧ Sep w no O w' (rl [Res.ro (FP.sl cI Ar lr cr r2)]) ∧ R r2 r3 := by
  unfold pf_firing_bounded at h
  have hS : Sep w no O w (rl [Res.ro (FP.sl cI Ad ld cd d)]) := Sep.startl hO [(FP.sl cI Ad ld cd d)] ⟨a0, trivial⟩
  refine calls_sh (l := [(Value.slice Ad ld cd)]) Try.func82 rfl Try.ntmps82 (Nat.le_of_ble_eq_true rfl) ?_
  refine wt_seq ?_
  refine wl_region wd_wide ?_
  refine rl_q rfl rfl rfl (v_assign (v := (Value.slice none 0 0)) rfl) ?_
  refine rl_q rfl rfl rfl (v_assign (v := (Value.int .i64 0)) rfl) ?_
  refine rl_end ?_
  refine wt_seq ?_
  refine wt_seq ?_
  refine wl_region wd_wide ?_
  refine rl_q rfl rfl rfl (v_move (v := (Value.slice Ad ld cd)) rfl) ?_
  refine rl_n rfl rfl rfl rfl (n_call0 rfl (am2 rfl rfl) enter_95 ((pok_slices_ContainsFunc_Divisor h (no_lt _) (hS.rdr 0 rfl) (fun w' hk => ⟨126, #[], rfl, enter_126, fun x R hF => cast_calls (by simp) (pok_firing_bounded_1 hF (no_lt _))⟩)).mono ?_))
  rintro _ w2 ⟨r, rfl, hC, h⟩
  replace hS := hS.pur hC.pure
  clear hC
  refine ⟨_, rfl, ?_⟩
  refine ⟨Stb.none _, ?_⟩
  refine rl_end ?_
  by_cases hp : r = true
  · replace h := h.1 hp
    refine wt_cond_t (congrArg Value.bool hp) ?_
    refine wt_seq ?_
    refine wl_region wd_wide ?_
    refine rl_q rfl rfl rfl (v_assign (v := (Value.slice none 0 0)) rfl) ?_
    refine rl_q rfl rfl rfl (v_assign (v := (Value.int .i64 11)) rfl) ?_
    refine rl_end ?_
    replace hS := hS.addro 1 rfl _ (nil_sl cI _ _)
    exact wt_ret2 rfl rfl rfl ⟨_, _, _, _, _, rfl, (hS.sel [1] (by decide)), h⟩
  · replace h := h.2 hp
    refine wt_cond_f (congrArg Value.bool (Bool.eq_false_iff.2 hp)) ?_
    refine wt_skip ?_
    refine wt_seq ?_
    refine wl_region wd_wide ?_
    refine rl_q rfl rfl rfl (v_move (v := (Value.slice Ad ld cd)) rfl) ?_
    refine rl_q rfl rfl rfl (v_assign (v := (Value.slice Ad ld cd)) rfl) ?_
    refine rl_q rfl rfl rfl (v_assign (v := (Value.int .i64 0)) rfl) ?_
    refine rl_end ?_
    exact wt_ret2 rfl rfl rfl ⟨_, _, _, _, _, rfl, (hS.sel [0] (by decide)), h⟩

/-- sandpile/firing.moved$1: what it computes. -/
def pf_firing_moved_1 (x : Int) (x2 : Int) (x3 : Int) (cap : List Int) (cap2 : List Int) (R : (List Int) → Prop) : Prop :=
((0 ≤ x ∧ x < ((cap.length : Nat) : Int)) ∧
((0 ≤ x2 ∧ x2 < ((cap.length : Nat) : Int)) ∧
(In64 ((gi cap x.toNat) - (gi cap x2.toNat)) ∧
(In64 (x3 * ((gi cap x.toNat) - (gi cap x2.toNat))) ∧
((0 ≤ x ∧ x < ((cap2.length : Nat) : Int)) ∧
(In64 ((gi cap2 x.toNat) - (x3 * ((gi cap x.toNat) - (gi cap x2.toNat)))) ∧
((0 ≤ x2 ∧ x2 < (((cap2.set x.toNat ((gi cap2 x.toNat) - (x3 * ((gi cap x.toNat) - (gi cap x2.toNat))))).length : Nat) : Int)) ∧
(In64 ((gi (cap2.set x.toNat ((gi cap2 x.toNat) - (x3 * ((gi cap x.toNat) - (gi cap x2.toNat))))) x2.toNat) + (x3 * ((gi cap x.toNat) - (gi cap x2.toNat)))) ∧
R ((cap2.set x.toNat ((gi cap2 x.toNat) - (x3 * ((gi cap x.toNat) - (gi cap x2.toNat))))).set x2.toNat ((gi (cap2.set x.toNat ((gi cap2 x.toNat) - (x3 * ((gi cap x.toNat) - (gi cap x2.toNat))))) x2.toNat) + (x3 * ((gi cap x.toNat) - (gi cap x2.toNat)))))))))))))
theorem pok_firing_moved_1 {S O : Nat → Prop} {w : World} {x : Int} {x2 : Int} {x3 : Int} {cap : List Int} {cap2 : List Int} {gc : Nat} {Acap : Option Addr} {lcap : Nat} {ccap : Nat} {gc2 : Nat} {Acap2 : Option Addr} {lcap2 : Nat} {ccap2 : Nat} {R : (List Int) → Prop} (h : pf_firing_moved_1 x x2 x3 cap cap2 R) (hS : Sep w S O w (rl [Res.box 30 gc [(Value.slice Acap lcap ccap)], Res.ro (FP.sl cI Acap lcap ccap cap), Res.box 26 gc2 [(Value.slice Acap2 lcap2 ccap2)], Res.own cI 3 Acap2 lcap2 ccap2 cap2])) :
    Calls Try.prog 127 #[(Value.agg #[(Value.int .i64 x), (Value.int .i64 x2), (Value.int .i64 x3)]), (Value.pointer (some (⟨gc, 0, none⟩ : Addr))), (Value.pointer (some (⟨gc2, 0, none⟩ : Addr)))] w fun e w' => ∃ z : List Int, ∃ Az : Option Addr, ∃ lz : Nat, ∃ cz : Nat, e = .returned (Value.tuple #[]) ∧ Sep w S O w' (rl [Res.box 30 gc [(Value.slice Acap lcap ccap)], Res.box 26 gc2 [(Value.slice Az lz cz)], Res.own cI 3 Az lz cz z]) ∧ R z := by
  unfold pf_firing_moved_1 at h
  refine calls_sh (l := [(Value.agg #[(Value.int .i64 x), (Value.int .i64 x2), (Value.int .i64 x3)]), (Value.pointer (some (⟨gc, 0, none⟩ : Addr))), (Value.pointer (some (⟨gc2, 0, none⟩ : Addr)))]) Try.func127 rfl Try.ntmps127 (Nat.le_of_ble_eq_true rfl) ?_
  refine wt_seq ?_
  refine wl_region wd_wide ?_
  refine rl_n rfl rfl rfl rfl (n_box (v := (Value.agg #[(Value.int .i64 x), (Value.int .i64 x2), (Value.int .i64 x3)])) rfl ?_)
  intro g w2 hN
  replace hS : Sep w S O w2 (stl _ 4 (Res.box 117 g [(Value.int .i64 x), (Value.int .i64 x2), (Value.int .i64 x3)])) := hS.new 4 rfl hN
  clear hN
  refine ⟨Stb.none _, ?_⟩
  refine rl_end ?_
  refine wt_seq ?_
  refine wp_draw [0, 1, 2, 3, 4, 5, 6, 7, 8, 9, 10, 11, 12, 13, 14] st0 wd_wide (by kernel_rfl) (by kernel_rfl) ?_
  replace hS := hS.drew
  refine rp_q rfl rfl rfl (v_faddr rfl Try.underlying117 rfl info_3) ?_
  refine rp_q rfl rfl rfl (v_load rfl Try.underlying3 rfl (Row.cell (hS.bx 4 rfl) (i := 2) rfl)) ?_
  refine rp_q rfl rfl rfl (v_load rfl Try.underlying30 rfl (Row.cell (hS.bx 0 rfl) (i := 0) rfl)) ?_
  refine rp_q rfl rfl rfl (v_faddr rfl Try.underlying117 rfl info_3) ?_
  refine rp_q rfl rfl rfl (v_load rfl Try.underlying3 rfl (Row.cell (hS.bx 4 rfl) (i := 0) rfl)) ?_
  obtain ⟨hx, h⟩ := h
  refine rp_q rfl rfl rfl (v_iaddr rfl rfl Try.underlying30 info_3 (rd_ix (hS.rdr 1 rfl) hx)) ?_
  refine rp_q rfl rfl rfl (v_load (v := (Value.int .i64 (gi cap x.toNat))) rfl Try.underlying3 rfl (rd_1 (hS.rdr 1 rfl) hx (fun q => gi_some q) rfl)) ?_
  refine rp_q rfl rfl rfl (v_load rfl Try.underlying30 rfl (Row.cell (hS.bx 0 rfl) (i := 0) rfl)) ?_
  refine rp_q rfl rfl rfl (v_faddr rfl Try.underlying117 rfl info_3) ?_
  refine rp_q rfl rfl rfl (v_load rfl Try.underlying3 rfl (Row.cell (hS.bx 4 rfl) (i := 1) rfl)) ?_
  obtain ⟨hx2, h⟩ := h
  refine rp_q rfl rfl rfl (v_iaddr rfl rfl Try.underlying30 info_3 (rd_ix (hS.rdr 1 rfl) hx2)) ?_
  refine rp_q rfl rfl rfl (v_load (v := (Value.int .i64 (gi cap x2.toNat))) rfl Try.underlying3 rfl (rd_1 (hS.rdr 1 rfl) hx2 (fun q => gi_some q) rfl)) ?_
  obtain ⟨hi, h⟩ := h
  refine rp_q rfl rfl rfl (v_sub rfl rfl hi) ?_
  obtain ⟨hi2, h⟩ := h
  refine rp_q rfl rfl rfl (v_mul rfl rfl hi2) ?_
  refine rp_q rfl rfl rfl (v_assign (v := (Value.int .i64 (x3 * ((gi cap x.toNat) - (gi cap x2.toNat))))) rfl) ?_
  refine rp_end ?_
  refine wt_seq ?_
  refine wl_region wd_wide ?_
  refine rl_q rfl rfl rfl (v_load rfl Try.underlying26 rfl (Row.cell (hS.bx 2 rfl) (i := 0) rfl)) ?_
  refine rl_q rfl rfl rfl (v_faddr rfl Try.underlying117 rfl info_3) ?_
  refine rl_q rfl rfl rfl (v_load rfl Try.underlying3 rfl (Row.cell (hS.bx 4 rfl) (i := 0) rfl)) ?_
  obtain ⟨hx3, h⟩ := h
  refine rl_q rfl rfl rfl (v_iaddr rfl rfl Try.underlying26 info_3 (rd_ix (hS.rdo 3 rfl) hx3)) ?_
  refine rl_q rfl rfl rfl (v_load (v := (Value.int .i64 (gi cap2 x.toNat))) rfl Try.underlying3 rfl (rd_1 (hS.rdo 3 rfl) hx3 (fun q => gi_some q) rfl)) ?_
  refine rl_q rfl rfl rfl (v_move (v := (Value.int .i64 (x3 * ((gi cap x.toNat) - (gi cap x2.toNat))))) rfl) ?_
  obtain ⟨hi3, h⟩ := h
  refine rl_q rfl rfl rfl (v_sub rfl rfl hi3) ?_
  refine rl_q rfl rfl rfl (v_iaddr rfl rfl Try.underlying26 info_3 (rd_ix (hS.rdo 3 rfl) hx3)) ?_
  refine rl_n0 rfl rfl rfl (n_store (v := (Value.int .i64 ((gi cap2 x.toNat) - (x3 * ((gi cap x.toNat) - (gi cap x2.toNat)))))) rfl rfl rfl info_3 (hS.wr 3 rfl rfl hx3) ?_)
  intro w3 e1
  replace hS := hS.st 3 rfl rfl hx3 (x := (gi cap2 x.toNat) - (x3 * ((gi cap x.toNat) - (gi cap x2.toNat)))) rfl e1
  clear e1
  refine ⟨Stb.none _, ?_⟩
  refine rl_end ?_
  refine wl_region wd_wide ?_
  refine rl_q rfl rfl rfl (v_load rfl Try.underlying26 rfl (Row.cell (hS.bx 2 rfl) (i := 0) rfl)) ?_
  refine rl_q rfl rfl rfl (v_faddr rfl Try.underlying117 rfl info_3) ?_
  refine rl_q rfl rfl rfl (v_load rfl Try.underlying3 rfl (Row.cell (hS.bx 4 rfl) (i := 1) rfl)) ?_
  obtain ⟨hx4, h⟩ := h
  refine rl_q rfl rfl rfl (v_iaddr rfl rfl Try.underlying26 info_3 (rd_ix (hS.rdo 3 rfl) hx4)) ?_
  refine rl_q rfl rfl rfl (v_load (v := (Value.int .i64 (gi (cap2.set x.toNat ((gi cap2 x.toNat) - (x3 * ((gi cap x.toNat) - (gi cap x2.toNat))))) x2.toNat))) rfl Try.underlying3 rfl (rd_1 (hS.rdo 3 rfl) hx4 (fun q => gi_some q) rfl)) ?_
  refine rl_q rfl rfl rfl (v_move (v := (Value.int .i64 (x3 * ((gi cap x.toNat) - (gi cap x2.toNat))))) rfl) ?_
  obtain ⟨hi4, h⟩ := h
  refine rl_q rfl rfl rfl (v_add rfl rfl hi4) ?_
  refine rl_q rfl rfl rfl (v_iaddr rfl rfl Try.underlying26 info_3 (rd_ix (hS.rdo 3 rfl) hx4)) ?_
  refine rl_n0 rfl rfl rfl (n_store (v := (Value.int .i64 ((gi (cap2.set x.toNat ((gi cap2 x.toNat) - (x3 * ((gi cap x.toNat) - (gi cap x2.toNat))))) x2.toNat) + (x3 * ((gi cap x.toNat) - (gi cap x2.toNat)))))) rfl rfl rfl info_3 (hS.wr 3 rfl rfl hx4) ?_)
  intro w4 e1
  replace hS := hS.st 3 rfl rfl hx4 (x := (gi (cap2.set x.toNat ((gi cap2 x.toNat) - (x3 * ((gi cap x.toNat) - (gi cap x2.toNat))))) x2.toNat) + (x3 * ((gi cap x.toNat) - (gi cap x2.toNat)))) rfl e1
  clear e1
  refine ⟨Stb.none _, ?_⟩
  refine rl_end ?_
  exact wt_end0 rfl ⟨_, _, _, _, rfl, (hS.sel [0, 2, 3] (by decide)), h⟩

/-- sandpile/firing.moved: what it computes. -/
def pf_firing_moved (g : Int) (g2 : List (Int × Int × Int)) (d : List Int) (s : List Int) (R : (List Int) → Prop) : Prop :=
pf_slices_Clone_Divisor d (fun (r : List Int) =>
(∃ I2 : Nat → Int → (List Int) → Prop, (∃ m0, I2 m0 0 r) ∧ ∀ (m2 : Nat) (v : Int) (out : List Int), I2 m2 v out → 
((v < ((g2.length : Nat) : Int) →
((0 ≤ v ∧ v < ((g2.length : Nat) : Int)) ∧
pf_firing_moved_1 ((ge g2 v.toNat).1) ((ge g2 v.toNat).2.1) ((ge g2 v.toNat).2.2) s out (fun (y : List Int) =>
(In64 (v + 1) ∧
∃ m3, m3 < m2 ∧ I2 m3 (v + 1) y)))) ∧
(¬ (v < ((g2.length : Nat) : Int)) →
R out))))
theorem pok_firing_moved {O : Nat → Prop} {w : World} {g : Int} {g2 : List (Int × Int × Int)} {d : List Int} {s : List Int} {Ag : Option Addr} {lg : Nat} {cg : Nat} {Ad : Option Addr} {ld : Nat} {cd : Nat} {As : Option Addr} {ls : Nat} {cs : Nat} {R : (List Int) → Prop} (h : pf_firing_moved g g2 d s R) (hO : ∀ k, O k → k < w.heap.size) (a0 : (FP.sl c3 Ag lg cg g2).P O w) (a1 : (FP.sl cI Ad ld cd d).P O w) (a2 : (FP.sl cI As ls cs s).P O w) :
    Calls Try.prog 83 #[(Value.agg #[(Value.int .i64 g), (Value.slice Ag lg cg)]), (Value.slice Ad ld cd), (Value.slice As ls cs)] w fun e w' => ∃ r2 : List Int, ∃ Ar2 : Option Addr, ∃ lr2 : Nat, ∃ cr2 : Nat, e = .returned (Value.slice Ar2 lr2 cr2) ∧ Sep w no O w' (rl [Res.own cI 3 Ar2 lr2 cr2 r2]) ∧ R r2 := by
  unfold pf_firing_moved at h
  have hS : Sep w no O w (rl [Res.ro (FP.sl c3 Ag lg cg g2), Res.ro (FP.sl cI Ad ld cd d), Res.ro (FP.sl cI As ls cs s)]) := Sep.startl hO [(FP.sl c3 Ag lg cg g2), (FP.sl cI Ad ld cd d), (FP.sl cI As ls cs s)] ⟨a0, a1, a2, trivial⟩
  refine calls_sh (l := [(Value.agg #[(Value.int .i64 g), (Value.slice Ag lg cg)]), (Value.slice Ad ld cd), (Value.slice As ls cs)]) Try.func83 rfl Try.ntmps83 (Nat.le_of_ble_eq_true rfl) ?_
  refine wt_seq ?_
  refine wl_region wd_wide ?_
  refine rl_n rfl rfl rfl rfl (n_box (v := (Value.agg #[(Value.int .i64 g), (Value.slice Ag lg cg)])) rfl ?_)
  intro g3 w2 hN
  replace hS : Sep w no O w2 (stl _ 3 (Res.box 24 g3 [(Value.int .i64 g), (Value.slice Ag lg cg)])) := hS.new 3 rfl hN
  clear hN
  refine ⟨Stb.none _, ?_⟩
  refine rl_n rfl rfl rfl rfl (n_box (v := (Value.slice As ls cs)) rfl ?_)
  intro g4 w3 hN
  replace hS : Sep w no O w3 (stl _ 4 (Res.box 30 g4 [(Value.slice As ls cs)])) := hS.new 4 rfl hN
  clear hN
  refine ⟨Stb.none _, ?_⟩
  refine rl_q rfl rfl rfl (v_assign (v := (Value.slice none 0 0)) rfl) ?_
  refine rl_end ?_
  refine wt_seq ?_
  refine wl_region wd_wide ?_
  refine rl_q rfl rfl rfl (v_move (v := (Value.slice Ad ld cd)) rfl) ?_
  refine rl_n rfl rfl rfl rfl (n_call0 rfl (am1 rfl) enter_22 ((pok_slices_Clone_Divisor h (no_lt _) (hS.rdr 1 rfl)).mono ?_))
  rintro _ w4 ⟨r, Ar, lr, cr, rfl, hC, h⟩
  replace hS := hS.call1 (hC.widen (flatS (flat_own (fI .i64) _ _ _ _ _) flat0) hS.blt) 5 0 rfl
  clear hC
  refine ⟨_, rfl, ?_⟩
  refine ⟨Stb.none _, ?_⟩
  refine rl_n rfl rfl rfl rfl (n_alloc info_26 ?_)
  intro g5 w5 hN
  replace hS : Sep w no O w5 (stl _ 6 (Res.box 26 g5 [(Value.slice none 0 0)])) := hS.new 6 rfl hN
  clear hN
  refine ⟨Stb.none _, ?_⟩
  refine rl_n0 rfl rfl rfl (n_store (v := (Value.slice Ar lr cr)) rfl rfl rfl info_26 (hS.bwr 6 rfl (j := 0) rfl) ?_)
  intro w6 e1
  replace hS := hS.bst 6 rfl 0 (Value.slice Ar lr cr) e1
  clear e1
  refine ⟨Stb.none _, ?_⟩
  refine rl_end ?_
  refine wt_seq ?_
  refine wl_region wd_wide ?_
  refine rl_q rfl rfl rfl (v_func (am0) (am2 rfl rfl)) ?_
  refine rl_q rfl rfl rfl (v_assign (v := (Value.func (Fn.func 127) #[] #[(Value.pointer (some (⟨g4, 0, none⟩ : Addr))), (Value.pointer (some (⟨g5, 0, none⟩ : Addr)))])) rfl) ?_
  refine rl_end ?_
  refine wt_seq ?_
  refine wt_seq ?_
  refine wl_region wd_wide ?_
  refine rl_q rfl rfl rfl (v_faddr rfl Try.underlying24 rfl info_22) ?_
  refine rl_q rfl rfl rfl (v_load rfl Try.underlying22 rfl (Row.cell (hS.bx 3 rfl) (i := 1) rfl)) ?_
  refine rl_q rfl rfl rfl (v_lenx (n := g2.length) rfl Try.underlying22 (rd_len (hS.rdr 0 rfl))) ?_
  refine rl_q rfl rfl rfl (v_move (v := (Value.int .i64 0)) rfl) ?_
  refine rl_end ?_
  refine wt_block ?_
  obtain ⟨I2, ⟨m0, h0⟩, hr⟩ := h
  refine wt_loop (fun m E ds w' => ∃ v : Int, ∃ out : List Int, ∃ Aout : Option Addr, ∃ lout : Nat, ∃ cout : Nat, I2 m v out ∧ ds = [] ∧ E 7 = (Value.pointer (some (⟨g5, 0, none⟩ : Addr))) ∧ E 8 = (Value.func (Fn.func 127) #[] #[(Value.pointer (some (⟨g4, 0, none⟩ : Addr))), (Value.pointer (some (⟨g5, 0, none⟩ : Addr)))]) ∧ E 15 = (Value.slice Ag lg cg) ∧ E 16 = (Value.int .i64 ((g2.length : Nat) : Int)) ∧ E 17 = (Value.int .i64 v) ∧ Sep w no O w' (rl [Res.box 26 g5 [(Value.slice Aout lout cout)], Res.own cI 3 Aout lout cout out, Res.box 30 g4 [(Value.slice As ls cs)], Res.ro (FP.sl cI As ls cs s), Res.ro (FP.sl c3 Ag lg cg g2)])) m0 ⟨_, _, _, _, _, h0, rfl, rfl, rfl, rfl, rfl, rfl, (hS.sel [6, 5, 4, 2, 0] (by decide))⟩ ?_
  clear h0 hS
  rintro m2 E ds w7 ⟨v, out, Aout, lout, cout, h, rfl, hE7, hE8, hE15, hE16, hE17, hS⟩ again
  replace h := hr m2 v out h
  clear hr
  refine wt_seq ?_
  refine wl_region wd_wide ?_
  refine rl_q rfl rfl rfl (v_lss hE17 hE16) ?_
  refine rl_end ?_
  refine wt_seq ?_
  by_cases hp : v < ((g2.length : Nat) : Int)
  · replace h := h.1 hp
    refine wt_cond_t (congrArg Value.bool (decide_eq_true hp)) ?_
    refine wt_skip ?_
    refine wt_seq ?_
    refine wt_block ?_
    refine wt_seq ?_
    refine wl_region wd_wide ?_
    obtain ⟨hx, h⟩ := h
    refine rl_q rfl rfl rfl (v_iaddr hE15 hE17 Try.underlying22 info_117 (rd_ix (hS.rdr 4 rfl) hx)) ?_
    refine rl_q rfl rfl rfl (v_loadn (vs := [(Value.int .i64 ((ge g2 v.toNat).1)), (Value.int .i64 ((ge g2 v.toNat).2.1)), (Value.int .i64 ((ge g2 v.toNat).2.2))]) rfl Try.underlying117 rfl info_117 (rd_fs (hS.rdr 4 rfl) hx (fun q => ge_some q))) ?_
    refine rl_n rfl rfl rfl rfl (n_alloc info_117 ?_)
    intro g6 w8 hN
    replace hS : Sep w no O w8 (stl _ 5 (Res.box 117 g6 [(Value.int .i64 0), (Value.int .i64 0), (Value.int .i64 0)])) := hS.new 5 rfl hN
    clear hN
    refine ⟨Stb.none _, ?_⟩
    refine rl_n0 rfl rfl rfl (n_storen (b := g6) (o := 0) (cells := #[(Value.int .i64 ((ge g2 v.toNat).1)), (Value.int .i64 ((ge g2 v.toNat).2.1)), (Value.int .i64 ((ge g2 v.toNat).2.2))]) rfl rfl info_117 rfl rfl (there_row (hS.bx 5 rfl) (Nat.le_of_ble_eq_true rfl)) ?_)
    intro w9 e1
    replace hS := hS.bstn 5 rfl 0 [(Value.int .i64 ((ge g2 v.toNat).1)), (Value.int .i64 ((ge g2 v.toNat).2.1)), (Value.int .i64 ((ge g2 v.toNat).2.2))] e1
    clear e1
    refine ⟨Stb.none _, ?_⟩
    refine rl_end ?_
    refine wl_region wd_wide ?_
    refine rl_q rfl rfl rfl (v_move (v := (Value.func (Fn.func 127) #[] #[(Value.pointer (some (⟨g4, 0, none⟩ : Addr))), (Value.pointer (some (⟨g5, 0, none⟩ : Addr)))])) hE8) ?_
    refine rl_q rfl rfl rfl (v_loadn (vs := [(Value.int .i64 ((ge g2 v.toNat).1)), (Value.int .i64 ((ge g2 v.toNat).2.1)), (Value.int .i64 ((ge g2 v.toNat).2.2))]) rfl Try.underlying117 rfl info_117 ⟨Row.cell (hS.bx 5 rfl) (i := 0) rfl, Row.cell (hS.bx 5 rfl) (i := 1) rfl, Row.cell (hS.bx 5 rfl) (i := 2) rfl, trivial⟩) ?_
    have hB := hS.lend (asc [(2, 0), (0, 1), (1, 2)]) [2, 3, 0, 1] (by decide) ⟨.inl (ne_none rfl), .inr rfl, .inl (ne_none rfl), .inl (ne_none rfl), trivial⟩
    refine rl_n rfl rfl rfl rfl (n_call (vs := #[(Value.agg #[(Value.int .i64 ((ge g2 v.toNat).1)), (Value.int .i64 ((ge g2 v.toNat).2.1)), (Value.int .i64 ((ge g2 v.toNat).2.2))])]) (us := #[(Value.pointer (some (⟨g4, 0, none⟩ : Addr))), (Value.pointer (some (⟨g5, 0, none⟩ : Addr)))]) rfl (am1 rfl) enter_127 ((cast_calls (by simp) (pok_firing_moved_1 h hB)).mono ?_))
    rintro _ w10 ⟨y, A, l, c, rfl, hC, h⟩
    replace hS := hS.back (asc [(2, 0), (0, 1), (1, 2)]) (asc_inj (by decide)) hC
    clear hC hB
    refine ⟨_, rfl, ?_⟩
    refine ⟨Stb.none _, ?_⟩
    refine rl_end ?_
    refine wt_inBlock ?_
    refine wl_region wd_wide ?_
    obtain ⟨hi, h⟩ := h
    refine rl_q rfl rfl rfl (v_add hE17 rfl hi) ?_
    refine rl_q rfl rfl rfl (v_move (v := (Value.int .i64 (v + 1))) rfl) ?_
    refine rl_end ?_
    obtain ⟨mq, hlt, h⟩ := h
    exact again mq _ _ _ ⟨_, _, _, _, _, h, rfl, hE7, hE8, hE15, hE16, rfl, (hS.sel [0, 1, 2, 3, 4] (by decide))⟩ hlt
  · replace h := h.2 hp
    refine wt_cond_f (congrArg Value.bool (decide_eq_false hp)) ?_
    refine wt_exit rfl ?_
    refine wt_seq ?_
    refine wl_region wd_wide ?_
    refine rl_q rfl rfl rfl (v_load hE7 Try.underlying26 rfl (Row.cell (hS.bx 0 rfl) (i := 0) rfl)) ?_
    refine rl_q rfl rfl rfl (v_assign (v := (Value.slice Aout lout cout)) rfl) ?_
    refine rl_end ?_
    exact wt_ret1 rfl rfl ⟨_, _, _, _, rfl, (hS.sel [1] (by decide)), h⟩

/-- sandpile/firing.Apply: what it computes. -/
def pf_firing_Apply (g : Int) (g2 : List (Int × Int × Int)) (d : List Int) (s : List Int) (R : (List Int) → Int → Prop) : Prop :=
pf_firing_given g g2 d (fun (r : Int) =>
((r = 0 →
pf_firing_Check g g2 s (fun (r2 : Int) =>
((r2 = 0 →
pf_firing_moved g g2 d s (fun (r3 : List Int) =>
pf_firing_bounded r3 (fun (r4 : List Int) (r5 : Int) =>
R r4 r5))) ∧
(¬ (r2 = 0) →
R ([]) r2)))) ∧
(¬ (r = 0) →
R ([]) r)))
theorem pok_firing_Apply {O : Nat → Prop} {w : World} {g : Int} {g2 : List (Int × Int × Int)} {d : List Int} {s : List Int} {Ag : Option Addr} {lg : Nat} {cg : Nat} {Ad : Option Addr} {ld : Nat} {cd : Nat} {As : Option Addr} {ls : Nat} {cs : Nat} {R : (List Int) → Int → Prop} (h : pf_firing_Apply g g2 d s R) (hO : ∀ k, O k → k < w.heap.size) (a0 : (FP.sl c3 Ag lg cg g2).P O w) (a1 : (FP.sl cI Ad ld cd d).P O w) (a2 : (FP.sl cI As ls cs s).P O w) :
    Calls Try.prog 37 #[(Value.agg #[(Value.int .i64 g), (Value.slice Ag lg cg)]), (Value.slice Ad ld cd), (Value.slice As ls cs)] w fun e w' => ∃ r6 : List Int, ∃ r7 : Int, ∃ Ar3 : Option Addr, ∃ lr3 : Nat, ∃ cr3 : Nat, e = .returned (Value.tuple #[(Value.slice Ar3 lr3 cr3), (Value.int .i64 r7)]) ∧ Sep w no O w' (rl [Res.ro (FP.sl cI Ar3 lr3 cr3 r6)]) ∧ R r6 r7 := by
  unfold pf_firing_Apply at h
  have hS : Sep w no O w (rl [Res.ro (FP.sl c3 Ag lg cg g2), Res.ro (FP.sl cI Ad ld cd d), Res.ro (FP.sl cI As ls cs s)]) := Sep.startl hO [(FP.sl c3 Ag lg cg g2), (FP.sl cI Ad ld cd d), (FP.sl cI As ls cs s)] ⟨a0, a1, a2, trivial⟩
  refine calls_sh (l := [(Value.agg #[(Value.int .i64 g), (Value.slice Ag lg cg)]), (Value.slice Ad ld cd), (Value.slice As ls cs)]) Try.func37 rfl Try.ntmps37 (Nat.le_of_ble_eq_true rfl) ?_
  refine wt_seq ?_
  refine wl_region wd_wide ?_
  refine rl_n rfl rfl rfl rfl (n_box (v := (Value.agg #[(Value.int .i64 g), (Value.slice Ag lg cg)])) rfl ?_)
  intro g3 w2 hN
  replace hS : Sep w no O w2 (stl _ 3 (Res.box 24 g3 [(Value.int .i64 g), (Value.slice Ag lg cg)])) := hS.new 3 rfl hN
  clear hN
  refine ⟨Stb.none _, ?_⟩
  refine rl_q rfl rfl rfl (v_assign (v := (Value.slice none 0 0)) rfl) ?_
  refine rl_q rfl rfl rfl (v_assign (v := (Value.int .i64 0)) rfl) ?_
  refine rl_end ?_
  refine wt_seq ?_
  refine wt_seq ?_
  refine wl_region wd_wide ?_
  refine rl_q rfl rfl rfl (v_loadn (vs := [(Value.int .i64 g), (Value.slice Ag lg cg)]) rfl Try.underlying24 rfl info_24 ⟨Row.cell (hS.bx 3 rfl) (i := 0) rfl, Row.cell (hS.bx 3 rfl) (i := 1) rfl, trivial⟩) ?_
  refine rl_q rfl rfl rfl (v_move (v := (Value.slice Ad ld cd)) rfl) ?_
  refine rl_n rfl rfl rfl rfl (n_call0 rfl (am2 rfl rfl) enter_80 ((pok_firing_given h (no_lt _) (hS.rdr 0 rfl) (hS.rdr 1 rfl)).mono ?_))
  rintro _ w3 ⟨r, rfl, hC, h⟩
  replace hS := hS.pur hC.pure
  clear hC
  refine ⟨_, rfl, ?_⟩
  refine ⟨Stb.none _, ?_⟩
  refine rl_q rfl rfl rfl (v_assign (v := (Value.int .i64 r)) rfl) ?_
  refine rl_end ?_
  refine wt_seq ?_
  refine wl_region wd_wide ?_
  refine rl_q rfl rfl rfl (v_move (v := (Value.int .i64 r)) rfl) ?_
  refine rl_q rfl rfl rfl (v_neq rfl rfl) ?_
  refine rl_end ?_
  by_cases hp : r = 0
  · replace h := h.1 hp
    refine wt_cond_f (congrArg Value.bool (congrArg Bool.not (decide_eq_true hp))) ?_
    refine wt_skip ?_
    refine wt_seq ?_
    refine wt_seq ?_
    refine wl_region wd_wide ?_
    refine rl_q rfl rfl rfl (v_loadn (vs := [(Value.int .i64 g), (Value.slice Ag lg cg)]) rfl Try.underlying24 rfl info_24 ⟨Row.cell (hS.bx 3 rfl) (i := 0) rfl, Row.cell (hS.bx 3 rfl) (i := 1) rfl, trivial⟩) ?_
    refine rl_q rfl rfl rfl (v_move (v := (Value.slice As ls cs)) rfl) ?_
    refine rl_n rfl rfl rfl rfl (n_call0 rfl (am2 rfl rfl) enter_81 ((pok_firing_Check h (no_lt _) (hS.rdr 0 rfl) (hS.rdr 2 rfl)).mono ?_))
    rintro _ w4 ⟨r2, rfl, hC, h⟩
    replace hS := hS.pur hC.pure
    clear hC
    refine ⟨_, rfl, ?_⟩
    refine ⟨Stb.none _, ?_⟩
    refine rl_q rfl rfl rfl (v_assign (v := (Value.int .i64 r2)) rfl) ?_
    refine rl_end ?_
    refine wt_seq ?_
    refine wl_region wd_wide ?_
    refine rl_q rfl rfl rfl (v_move (v := (Value.int .i64 r2)) rfl) ?_
    refine rl_q rfl rfl rfl (v_neq rfl rfl) ?_
    refine rl_end ?_
    by_cases hp2 : r2 = 0
    · replace h := h.1 hp2
      refine wt_cond_f (congrArg Value.bool (congrArg Bool.not (decide_eq_true hp2))) ?_
      refine wt_skip ?_
      refine wt_seq ?_
      refine wl_region wd_wide ?_
      refine rl_q rfl rfl rfl (v_loadn (vs := [(Value.int .i64 g), (Value.slice Ag lg cg)]) rfl Try.underlying24 rfl info_24 ⟨Row.cell (hS.bx 3 rfl) (i := 0) rfl, Row.cell (hS.bx 3 rfl) (i := 1) rfl, trivial⟩) ?_
      refine rl_q rfl rfl rfl (v_move (v := (Value.slice Ad ld cd)) rfl) ?_
      refine rl_q rfl rfl rfl (v_move (v := (Value.slice As ls cs)) rfl) ?_
      refine rl_n rfl rfl rfl rfl (n_call0 rfl (am3 rfl rfl rfl) enter_83 ((pok_firing_moved h (no_lt _) (hS.rdr 0 rfl) (hS.rdr 1 rfl) (hS.rdr 2 rfl)).mono ?_))
      rintro _ w5 ⟨r3, Ar, lr, cr, rfl, hC, h⟩
      replace hS := hS.call1 (hC.widen (flatS (flat_own (fI .i64) _ _ _ _ _) flat0) hS.blt) 4 0 rfl
      clear hC
      refine ⟨_, rfl, ?_⟩
      refine ⟨Stb.none _, ?_⟩
      replace hS := hS.frz 4 rfl
      refine rl_n rfl rfl rfl rfl (n_call0 rfl (am1 rfl) enter_82 ((pok_firing_bounded h hS.blt (hS.ro 4 rfl)).mono ?_))
      rintro _ w6 ⟨r4, r5, Ar2, lr2, cr2, rfl, hC, h⟩
      replace hS := hS.call1 hC 5 0 rfl
      clear hC
      refine ⟨_, rfl, ?_⟩
      refine ⟨Stb.none _, ?_⟩
      refine rl_q rfl rfl rfl (v_extract (v := (Value.slice Ar2 lr2 cr2)) rfl rfl) ?_
      refine rl_q rfl rfl rfl (v_extract (v := (Value.int .i64 r5)) rfl rfl) ?_
      refine rl_q rfl rfl rfl (v_assign (v := (Value.slice Ar2 lr2 cr2)) rfl) ?_
      refine rl_q rfl rfl rfl (v_assign (v := (Value.int .i64 r5)) rfl) ?_
      refine rl_end ?_
      exact wt_ret2 rfl rfl rfl ⟨_, _, _, _, _, rfl, (hS.sel [5] (by decide)), h⟩
    · replace h := h.2 hp2
      refine wt_cond_t (congrArg Value.bool (congrArg Bool.not (decide_eq_false hp2))) ?_
      refine wt_seq ?_
      refine wl_region wd_wide ?_
      refine rl_q rfl rfl rfl (v_move (v := (Value.int .i64 r2)) rfl) ?_
      refine rl_q rfl rfl rfl (v_assign (v := (Value.slice none 0 0)) rfl) ?_
      refine rl_q rfl rfl rfl (v_assign (v := (Value.int .i64 r2)) rfl) ?_
      refine rl_end ?_
      replace hS := hS.addro 4 rfl _ (nil_sl cI _ _)
      exact wt_ret2 rfl rfl rfl ⟨_, _, _, _, _, rfl, (hS.sel [4] (by decide)), h⟩
  · replace h := h.2 hp
    refine wt_cond_t (congrArg Value.bool (congrArg Bool.not (decide_eq_false hp))) ?_
    refine wt_seq ?_
    refine wl_region wd_wide ?_
    refine rl_q rfl rfl rfl (v_move (v := (Value.int .i64 r)) rfl) ?_
    refine rl_q rfl rfl rfl (v_assign (v := (Value.slice none 0 0)) rfl) ?_
    refine rl_q rfl rfl rfl (v_assign (v := (Value.int .i64 r)) rfl) ?_
    refine rl_end ?_
    replace hS := hS.addro 4 rfl _ (nil_sl cI _ _)
    exact wt_ret2 rfl rfl rfl ⟨_, _, _, _, _, rfl, (hS.sel [4] (by decide)), h⟩

/-- sandpile/firing.of: what it computes. -/
def pf_firing_of (g : Int) (g2 : List (Int × Int × Int)) (set2 : List Int) (times : Int) (R : (List Int) → Prop) : Prop :=
((0 ≤ g ∧ g ≤ 1000000) ∧
(∃ I2 : Nat → Int → (List Int) → Prop, (∃ m0, I2 m0 0 (List.replicate g.toNat (0 : Int))) ∧ ∀ (m2 : Nat) (v : Int) (s : List Int), I2 m2 v s → 
((v < ((set2.length : Nat) : Int) →
((0 ≤ v ∧ v < ((set2.length : Nat) : Int)) ∧
((0 ≤ (gi set2 v.toNat) ∧ (gi set2 v.toNat) < ((s.length : Nat) : Int)) ∧
(In64 (v + 1) ∧
∃ m3, m3 < m2 ∧ I2 m3 (v + 1) (s.set (gi set2 v.toNat).toNat times))))) ∧
(¬ (v < ((set2.length : Nat) : Int)) →
R s))))
theorem pok_firing_of {O : Nat → Prop} {w : World} {g : Int} {g2 : List (Int × Int × Int)} {set2 : List Int} {times : Int} {Ag : Option Addr} {lg : Nat} {cg : Nat} {Aset : Option Addr} {lset : Nat} {cset : Nat} {R : (List Int) → Prop} (h : pf_firing_of g g2 set2 times R) (hO : ∀ k, O k → k < w.heap.size) (a0 : (FP.sl c3 Ag lg cg g2).P O w) (a1 : (FP.sl cI Aset lset cset set2).P O w) :
    Calls Try.prog 88 #[(Value.agg #[(Value.int .i64 g), (Value.slice Ag lg cg)]), (Value.slice Aset lset cset), (Value.int .i64 times)] w fun e w' => ∃ r : List Int, ∃ Ar : Option Addr, ∃ lr : Nat, ∃ cr : Nat, e = .returned (Value.slice Ar lr cr) ∧ Sep w no O w' (rl [Res.own cI 3 Ar lr cr r]) ∧ R r := by
  unfold pf_firing_of at h
  have hS : Sep w no O w (rl [Res.ro (FP.sl c3 Ag lg cg g2), Res.ro (FP.sl cI Aset lset cset set2)]) := Sep.startl hO [(FP.sl c3 Ag lg cg g2), (FP.sl cI Aset lset cset set2)] ⟨a0, a1, trivial⟩
  refine calls_sh (l := [(Value.agg #[(Value.int .i64 g), (Value.slice Ag lg cg)]), (Value.slice Aset lset cset), (Value.int .i64 times)]) Try.func88 rfl Try.ntmps88 (Nat.le_of_ble_eq_true rfl) ?_
  refine wt_seq ?_
  refine wl_region wd_wide ?_
  refine rl_n rfl rfl rfl rfl (n_box (v := (Value.agg #[(Value.int .i64 g), (Value.slice Ag lg cg)])) rfl ?_)
  intro g3 w2 hN
  replace hS : Sep w no O w2 (stl _ 2 (Res.box 24 g3 [(Value.int .i64 g), (Value.slice Ag lg cg)])) := hS.new 2 rfl hN
  clear hN
  refine ⟨Stb.none _, ?_⟩
  refine rl_q rfl rfl rfl (v_assign (v := (Value.slice none 0 0)) rfl) ?_
  refine rl_end ?_
  refine wt_seq ?_
  refine wl_region wd_wide ?_
  refine rl_q rfl rfl rfl (v_faddr rfl Try.underlying24 rfl info_3) ?_
  refine rl_q rfl rfl rfl (v_load rfl Try.underlying3 rfl (Row.cell (hS.bx 2 rfl) (i := 0) rfl)) ?_
  obtain ⟨hx, h⟩ := h
  refine rl_n rfl rfl rfl rfl (n_make rfl rfl Try.underlying30 info_3 (by decide) rfl hx ?_)
  intro g4 w3 hN
  replace hS := hS.made 3 rfl cI (Value.int .i64 0) (0 : Int) (fun _ _ => rfl) hN (by omega)
  clear hN
  refine ⟨Stb.none _, ?_⟩
  refine rl_q rfl rfl rfl (v_assign (v := (Value.slice (some ⟨g4, 0, none⟩) g.toNat g.toNat)) rfl) ?_
  refine rl_end ?_
  refine wt_seq ?_
  refine wt_seq ?_
  refine wl_region wd_wide ?_
  refine rl_q rfl rfl rfl (v_move (v := (Value.slice Aset lset cset)) rfl) ?_
  refine rl_q rfl rfl rfl (v_lenx (n := set2.length) rfl Try.underlying25 (rd_len (hS.rdr 1 rfl))) ?_
  refine rl_q rfl rfl rfl (v_move (v := (Value.int .i64 0)) rfl) ?_
  refine rl_end ?_
  refine wt_block ?_
  obtain ⟨I2, ⟨m0, h0⟩, hr⟩ := h
  refine wt_loop (fun m E ds w' => ∃ v : Int, ∃ s : List Int, ∃ As : Option Addr, ∃ ls : Nat, ∃ cs : Nat, I2 m v s ∧ ds = [] ∧ E 2 = (Value.int .i64 times) ∧ E 7 = (Value.slice As ls cs) ∧ E 13 = (Value.slice Aset lset cset) ∧ E 14 = (Value.int .i64 ((set2.length : Nat) : Int)) ∧ E 15 = (Value.int .i64 v) ∧ Sep w no O w' (rl [Res.own cI 3 As ls cs s, Res.ro (FP.sl cI Aset lset cset set2)])) m0 ⟨_, _, _, _, _, h0, rfl, rfl, rfl, rfl, rfl, rfl, (hS.sel [3, 1] (by decide))⟩ ?_
  clear h0 hS
  rintro m2 E ds w4 ⟨v, s, As, ls, cs, h, rfl, hE2, hE7, hE13, hE14, hE15, hS⟩ again
  replace h := hr m2 v s h
  clear hr
  refine wt_seq ?_
  refine wl_region wd_wide ?_
  refine rl_q rfl rfl rfl (v_lss hE15 hE14) ?_
  refine rl_end ?_
  refine wt_seq ?_
  by_cases hp : v < ((set2.length : Nat) : Int)
  · replace h := h.1 hp
    refine wt_cond_t (congrArg Value.bool (decide_eq_true hp)) ?_
    refine wt_skip ?_
    refine wt_seq ?_
    refine wt_block ?_
    refine wt_seq ?_
    refine wl_region wd_wide ?_
    obtain ⟨hx2, h⟩ := h
    refine rl_q rfl rfl rfl (v_iaddr hE13 hE15 Try.underlying25 info_3 (rd_ix (hS.rdr 1 rfl) hx2)) ?_
    refine rl_q rfl rfl rfl (v_load (v := (Value.int .i64 (gi set2 v.toNat))) rfl Try.underlying3 rfl (rd_1 (hS.rdr 1 rfl) hx2 (fun q => gi_some q) rfl)) ?_
    refine rl_q rfl rfl rfl (v_assign (v := (Value.int .i64 (gi set2 v.toNat))) rfl) ?_
    refine rl_end ?_
    refine wl_region wd_wide ?_
    refine rl_q rfl rfl rfl (v_move (v := (Value.slice As ls cs)) hE7) ?_
    refine rl_q rfl rfl rfl (v_move (v := (Value.int .i64 (gi set2 v.toNat))) rfl) ?_
    refine rl_q rfl rfl rfl (v_move (v := (Value.int .i64 times)) hE2) ?_
    obtain ⟨hx3, h⟩ := h
    refine rl_q rfl rfl rfl (v_iaddr rfl rfl Try.underlying30 info_3 (rd_ix (hS.rdo 0 rfl) hx3)) ?_
    refine rl_n0 rfl rfl rfl (n_store (v := (Value.int .i64 times)) rfl rfl rfl info_3 (hS.wr 0 rfl rfl hx3) ?_)
    intro w5 e1
    replace hS := hS.st 0 rfl rfl hx3 (x := times) rfl e1
    clear e1
    refine ⟨Stb.none _, ?_⟩
    refine rl_end ?_
    refine wt_inBlock ?_
    refine wl_region wd_wide ?_
    obtain ⟨hi, h⟩ := h
    refine rl_q rfl rfl rfl (v_add hE15 rfl hi) ?_
    refine rl_q rfl rfl rfl (v_move (v := (Value.int .i64 (v + 1))) rfl) ?_
    refine rl_end ?_
    obtain ⟨mq, hlt, h⟩ := h
    exact again mq _ _ _ ⟨_, _, _, _, _, h, rfl, hE2, hE7, hE13, hE14, rfl, (hS.sel [0, 1] (by decide))⟩ hlt
  · replace h := h.2 hp
    refine wt_cond_f (congrArg Value.bool (decide_eq_false hp)) ?_
    refine wt_exit rfl ?_
    refine wt_seq ?_
    refine wl_region wd_wide ?_
    refine rl_q rfl rfl rfl (v_move (v := (Value.slice As ls cs)) hE7) ?_
    refine rl_q rfl rfl rfl (v_assign (v := (Value.slice As ls cs)) rfl) ?_
    refine rl_end ?_
    exact wt_ret1 rfl rfl ⟨_, _, _, _, rfl, (hS.sel [0] (by decide)), h⟩

/-- sandpile/firing.subset: what it computes. -/
def pf_firing_subset (g : Int) (g2 : List (Int × Int × Int)) (d : List Int) (set2 : List Int) (R : Int → Prop) : Prop :=
pf_firing_given g g2 d (fun (r : Int) =>
((r = 0 →
pf_graph_Subset g g2 set2 (fun (r2 : Int) =>
R r2)) ∧
(¬ (r = 0) →
R r)))
theorem pok_firing_subset {O : Nat → Prop} {w : World} {g : Int} {g2 : List (Int × Int × Int)} {d : List Int} {set2 : List Int} {Ag : Option Addr} {lg : Nat} {cg : Nat} {Ad : Option Addr} {ld : Nat} {cd : Nat} {Aset : Option Addr} {lset : Nat} {cset : Nat} {R : Int → Prop} (h : pf_firing_subset g g2 d set2 R) (hO : ∀ k, O k → k < w.heap.size) (a0 : (FP.sl c3 Ag lg cg g2).P O w) (a1 : (FP.sl cI Ad ld cd d).P O w) (a2 : (FP.sl cI Aset lset cset set2).P O w) :
    Calls Try.prog 87 #[(Value.agg #[(Value.int .i64 g), (Value.slice Ag lg cg)]), (Value.slice Ad ld cd), (Value.slice Aset lset cset)] w fun e w' => ∃ r3 : Int, e = .returned (Value.int .i64 r3) ∧ Sep w no O w' (rl []) ∧ R r3 := by
  unfold pf_firing_subset at h
  have hS : Sep w no O w (rl [Res.ro (FP.sl c3 Ag lg cg g2), Res.ro (FP.sl cI Ad ld cd d), Res.ro (FP.sl cI Aset lset cset set2)]) := Sep.startl hO [(FP.sl c3 Ag lg cg g2), (FP.sl cI Ad ld cd d), (FP.sl cI Aset lset cset set2)] ⟨a0, a1, a2, trivial⟩
  refine calls_sh (l := [(Value.agg #[(Value.int .i64 g), (Value.slice Ag lg cg)]), (Value.slice Ad ld cd), (Value.slice Aset lset cset)]) Try.func87 rfl Try.ntmps87 (Nat.le_of_ble_eq_true rfl) ?_
  refine wt_seq ?_
  refine wl_region wd_wide ?_
  refine rl_n rfl rfl rfl rfl (n_box (v := (Value.agg #[(Value.int .i64 g), (Value.slice Ag lg cg)])) rfl ?_)
  intro g3 w2 hN
  replace hS : Sep w no O w2 (stl _ 3 (Res.box 24 g3 [(Value.int .i64 g), (Value.slice Ag lg cg)])) := hS.new 3 rfl hN
  clear hN
  refine ⟨Stb.none _, ?_⟩
  refine rl_q rfl rfl rfl (v_assign (v := (Value.int .i64 0)) rfl) ?_
  refine rl_end ?_
  refine wt_seq ?_
  refine wt_seq ?_
  refine wl_region wd_wide ?_
  refine rl_q rfl rfl rfl (v_loadn (vs := [(Value.int .i64 g), (Value.slice Ag lg cg)]) rfl Try.underlying24 rfl info_24 ⟨Row.cell (hS.bx 3 rfl) (i := 0) rfl, Row.cell (hS.bx 3 rfl) (i := 1) rfl, trivial⟩) ?_
  refine rl_q rfl rfl rfl (v_move (v := (Value.slice Ad ld cd)) rfl) ?_
  refine rl_n rfl rfl rfl rfl (n_call0 rfl (am2 rfl rfl) enter_80 ((pok_firing_given h (no_lt _) (hS.rdr 0 rfl) (hS.rdr 1 rfl)).mono ?_))
  rintro _ w3 ⟨r, rfl, hC, h⟩
  replace hS := hS.pur hC.pure
  clear hC
  refine ⟨_, rfl, ?_⟩
  refine ⟨Stb.none _, ?_⟩
  refine rl_q rfl rfl rfl (v_assign (v := (Value.int .i64 r)) rfl) ?_
  refine rl_end ?_
  refine wt_seq ?_
  refine wl_region wd_wide ?_
  refine rl_q rfl rfl rfl (v_move (v := (Value.int .i64 r)) rfl) ?_
  refine rl_q rfl rfl rfl (v_neq rfl rfl) ?_
  refine rl_end ?_
  by_cases hp : r = 0
  · replace h := h.1 hp
    refine wt_cond_f (congrArg Value.bool (congrArg Bool.not (decide_eq_true hp))) ?_
    refine wt_skip ?_
    refine wt_seq ?_
    refine wl_region wd_wide ?_
    refine rl_q rfl rfl rfl (v_loadn (vs := [(Value.int .i64 g), (Value.slice Ag lg cg)]) rfl Try.underlying24 rfl info_24 ⟨Row.cell (hS.bx 3 rfl) (i := 0) rfl, Row.cell (hS.bx 3 rfl) (i := 1) rfl, trivial⟩) ?_
    refine rl_q rfl rfl rfl (v_move (v := (Value.slice Aset lset cset)) rfl) ?_
    refine rl_n rfl rfl rfl rfl (n_call0 rfl (am2 rfl rfl) enter_131 ((pok_graph_Subset h (no_lt _) (hS.rdr 0 rfl) (hS.rdr 2 rfl)).mono ?_))
    rintro _ w4 ⟨r2, rfl, hC, h⟩
    replace hS := hS.pur hC.pure
    clear hC
    refine ⟨_, rfl, ?_⟩
    refine ⟨Stb.none _, ?_⟩
    refine rl_q rfl rfl rfl (v_assign (v := (Value.int .i64 r2)) rfl) ?_
    refine rl_end ?_
    exact wt_ret1 rfl rfl ⟨_, rfl, (hS.sel [] (by decide)), h⟩
  · replace h := h.2 hp
    refine wt_cond_t (congrArg Value.bool (congrArg Bool.not (decide_eq_false hp))) ?_
    refine wt_seq ?_
    refine wl_region wd_wide ?_
    refine rl_q rfl rfl rfl (v_move (v := (Value.int .i64 r)) rfl) ?_
    refine rl_q rfl rfl rfl (v_assign (v := (Value.int .i64 r)) rfl) ?_
    refine rl_end ?_
    exact wt_ret1 rfl rfl ⟨_, rfl, (hS.sel [] (by decide)), h⟩

/-- sandpile/firing.FireSet: what it computes. -/
def pf_firing_FireSet (g : Int) (g2 : List (Int × Int × Int)) (d : List Int) (set2 : List Int) (R : (List Int) → Int → Prop) : Prop :=
pf_firing_subset g g2 d set2 (fun (r : Int) =>
((r = 0 →
pf_firing_of g g2 set2 1 (fun (r2 : List Int) =>
pf_firing_moved g g2 d r2 (fun (r3 : List Int) =>
pf_firing_bounded r3 (fun (r4 : List Int) (r5 : Int) =>
R r4 r5)))) ∧
(¬ (r = 0) →
R ([]) r)))
theorem pok_firing_FireSet {O : Nat → Prop} {w : World} {g : Int} {g2 : List (Int × Int × Int)} {d : List Int} {set2 : List Int} {Ag : Option Addr} {lg : Nat} {cg : Nat} {Ad : Option Addr} {ld : Nat} {cd : Nat} {Aset : Option Addr} {lset : Nat} {cset : Nat} {R : (List Int) → Int → Prop} (h : pf_firing_FireSet g g2 d set2 R) (hO : ∀ k, O k → k < w.heap.size) (a0 : (FP.sl c3 Ag lg cg g2).P O w) (a1 : (FP.sl cI Ad ld cd d).P O w) (a2 : (FP.sl cI Aset lset cset set2).P O w) :
    Calls Try.prog 43 #[(Value.agg #[(Value.int .i64 g), (Value.slice Ag lg cg)]), (Value.slice Ad ld cd), (Value.slice Aset lset cset)] w fun e w' => ∃ r6 : List Int, ∃ r7 : Int, ∃ Ar4 : Option Addr, ∃ lr4 : Nat, ∃ cr4 : Nat, e = .returned (Value.tuple #[(Value.slice Ar4 lr4 cr4), (Value.int .i64 r7)]) ∧ Sep w no O w' (rl [Res.ro (FP.sl cI Ar4 lr4 cr4 r6)]) ∧ R r6 r7 := by
  unfold pf_firing_FireSet at h
  have hS : Sep w no O w (rl [Res.ro (FP.sl c3 Ag lg cg g2), Res.ro (FP.sl cI Ad ld cd d), Res.ro (FP.sl cI Aset lset cset set2)]) := Sep.startl hO [(FP.sl c3 Ag lg cg g2), (FP.sl cI Ad ld cd d), (FP.sl cI Aset lset cset set2)] ⟨a0, a1, a2, trivial⟩
  refine calls_sh (l := [(Value.agg #[(Value.int .i64 g), (Value.slice Ag lg cg)]), (Value.slice Ad ld cd), (Value.slice Aset lset cset)]) Try.func43 rfl Try.ntmps43 (Nat.le_of_ble_eq_true rfl) ?_
  refine wt_seq ?_
  refine wl_region wd_wide ?_
  refine rl_n rfl rfl rfl rfl (n_box (v := (Value.agg #[(Value.int .i64 g), (Value.slice Ag lg cg)])) rfl ?_)
  intro g3 w2 hN
  replace hS : Sep w no O w2 (stl _ 3 (Res.box 24 g3 [(Value.int .i64 g), (Value.slice Ag lg cg)])) := hS.new 3 rfl hN
  clear hN
  refine ⟨Stb.none _, ?_⟩
  refine rl_q rfl rfl rfl (v_assign (v := (Value.slice none 0 0)) rfl) ?_
  refine rl_q rfl rfl rfl (v_assign (v := (Value.int .i64 0)) rfl) ?_
  refine rl_end ?_
  refine wt_seq ?_
  refine wt_seq ?_
  refine wl_region wd_wide ?_
  refine rl_q rfl rfl rfl (v_loadn (vs := [(Value.int .i64 g), (Value.slice Ag lg cg)]) rfl Try.underlying24 rfl info_24 ⟨Row.cell (hS.bx 3 rfl) (i := 0) rfl, Row.cell (hS.bx 3 rfl) (i := 1) rfl, trivial⟩) ?_
  refine rl_q rfl rfl rfl (v_move (v := (Value.slice Ad ld cd)) rfl) ?_
  refine rl_q rfl rfl rfl (v_move (v := (Value.slice Aset lset cset)) rfl) ?_
  refine rl_n rfl rfl rfl rfl (n_call0 rfl (am3 rfl rfl rfl) enter_87 ((pok_firing_subset h (no_lt _) (hS.rdr 0 rfl) (hS.rdr 1 rfl) (hS.rdr 2 rfl)).mono ?_))
  rintro _ w3 ⟨r, rfl, hC, h⟩
  replace hS := hS.pur hC.pure
  clear hC
  refine ⟨_, rfl, ?_⟩
  refine ⟨Stb.none _, ?_⟩
  refine rl_q rfl rfl rfl (v_assign (v := (Value.int .i64 r)) rfl) ?_
  refine rl_end ?_
  refine wt_seq ?_
  refine wl_region wd_wide ?_
  refine rl_q rfl rfl rfl (v_move (v := (Value.int .i64 r)) rfl) ?_
  refine rl_q rfl rfl rfl (v_neq rfl rfl) ?_
  refine rl_end ?_
  by_cases hp : r = 0
  · replace h := h.1 hp
    refine wt_cond_f (congrArg Value.bool (congrArg Bool.not (decide_eq_true hp))) ?_
    refine wt_skip ?_
    refine wt_seq ?_
    refine wp_draw [0, 1, 2, 3, 4, 5, 6, 7, 8, 9, 10] (fun i => match i with | 4 => [0, 1] | _ => []) wd_wide (by kernel_rfl) (by kernel_rfl) ?_
    replace hS := hS.drew
    refine rp_q rfl rfl rfl (v_loadn (vs := [(Value.int .i64 g), (Value.slice Ag lg cg)]) rfl Try.underlying24 rfl info_24 ⟨Row.cell (hS.bx 3 rfl) (i := 0) rfl, Row.cell (hS.bx 3 rfl) (i := 1) rfl, trivial⟩) ?_
    refine rp_q rfl rfl rfl (v_move (v := (Value.slice Ad ld cd)) rfl) ?_
    refine rp_q rfl rfl rfl (v_loadn (vs := [(Value.int .i64 g), (Value.slice Ag lg cg)]) rfl Try.underlying24 rfl info_24 ⟨Row.cell (hS.bx 3 rfl) (i := 0) rfl, Row.cell (hS.bx 3 rfl) (i := 1) rfl, trivial⟩) ?_
    refine rp_q rfl rfl rfl (v_move (v := (Value.slice Aset lset cset)) rfl) ?_
    refine rp_n rfl rfl rfl rfl (n_call0 rfl (am3 rfl rfl rfl) enter_88 ((pok_firing_of h (no_lt _) (hS.rdr 0 rfl) (hS.rdr 2 rfl)).mono ?_))
    rintro _ w4 ⟨r2, Ar, lr, cr, rfl, hC, h⟩
    replace hS := hS.call1 (hC.widen (flatS (flat_own (fI .i64) _ _ _ _ _) flat0) hS.blt) 4 0 rfl
    clear hC
    refine ⟨_, rfl, ?_⟩
    refine ⟨⟨fun hh => Bool.noConfusion (show false = true from hh), ⟨fun hh => Bool.noConfusion (show false = true from hh), ⟨fun _ => (v_move (v := (Value.slice Ad ld cd)) rfl), ⟨fun _ => (v_loadn (vs := [(Value.int .i64 g), (Value.slice Ag lg cg)]) rfl Try.underlying24 rfl info_24 ⟨Row.cell (hS.bx 3 rfl) (i := 0) rfl, Row.cell (hS.bx 3 rfl) (i := 1) rfl, trivial⟩), trivial⟩⟩⟩⟩, ?_⟩
    refine rp_n rfl rfl rfl rfl (n_call0 rfl (am3 rfl rfl rfl) enter_83 ((pok_firing_moved h (no_lt _) (hS.rdr 0 rfl) (hS.rdr 1 rfl) (hS.rdo 4 rfl)).mono ?_))
    rintro _ w5 ⟨r3, Ar2, lr2, cr2, rfl, hC, h⟩
    replace hS := hS.call1 (hC.widen (flatS (flat_own (fI .i64) _ _ _ _ _) flat0) hS.blt) 5 0 rfl
    clear hC
    refine ⟨_, rfl, ?_⟩
    refine ⟨Stb.none _, ?_⟩
    replace hS := hS.frz 5 rfl
    refine rp_n rfl rfl rfl rfl (n_call0 rfl (am1 rfl) enter_82 ((pok_firing_bounded h hS.blt (hS.ro 5 rfl)).mono ?_))
    rintro _ w6 ⟨r4, r5, Ar3, lr3, cr3, rfl, hC, h⟩
    replace hS := hS.call1 hC 6 0 rfl
    clear hC
    refine ⟨_, rfl, ?_⟩
    refine ⟨Stb.none _, ?_⟩
    refine rp_q rfl rfl rfl (v_extract (v := (Value.slice Ar3 lr3 cr3)) rfl rfl) ?_
    refine rp_q rfl rfl rfl (v_extract (v := (Value.int .i64 r5)) rfl rfl) ?_
    refine rp_q rfl rfl rfl (v_assign (v := (Value.slice Ar3 lr3 cr3)) rfl) ?_
    refine rp_q rfl rfl rfl (v_assign (v := (Value.int .i64 r5)) rfl) ?_
    refine rp_end ?_
    exact wt_ret2 rfl rfl rfl ⟨_, _, _, _, _, rfl, (hS.sel [6] (by decide)), h⟩
  · replace h := h.2 hp
    refine wt_cond_t (congrArg Value.bool (congrArg Bool.not (decide_eq_false hp))) ?_
    refine wt_seq ?_
    refine wl_region wd_wide ?_
    refine rl_q rfl rfl rfl (v_move (v := (Value.int .i64 r)) rfl) ?_
    refine rl_q rfl rfl rfl (v_assign (v := (Value.slice none 0 0)) rfl) ?_
    refine rl_q rfl rfl rfl (v_assign (v := (Value.int .i64 r)) rfl) ?_
    refine rl_end ?_
    replace hS := hS.addro 4 rfl _ (nil_sl cI _ _)
    exact wt_ret2 rfl rfl rfl ⟨_, _, _, _, _, rfl, (hS.sel [4] (by decide)), h⟩
end Go.Proofs.Ytnhmeckhlajeaaa
