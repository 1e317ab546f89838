/- Pure forms of functions, made by program (pf.py), each with the proof that the code does so. -/
import Derived.Test.YtnhmeckhlajeaaaTy
import Derived.Test.YtnhmeckhlajeaaaPf
import Derived.Test.YtnhmeckhlajeaaaPa
namespace Go.Proofs.Ytnhmeckhlajeaaa
open Go Go.RowKit Go.Shelf
set_option linter.unusedVariables false
set_option maxRecDepth 100000
set_option maxHeartbeats 1000000
/-- slices.Equal[sandpile/api.Divisor,int]: what it computes. -/
def pf_slices_Equal_Divisor (s1 : List Int) (s2 : List Int) (R : Bool → Prop) : Prop :=
((((s1.length : Nat) : Int) = ((s2.length : Nat) : Int) →
(∃ I2 : Nat → Int → Prop, (∃ m0, I2 m0 0) ∧ ∀ (m2 : Nat) (v : Int), I2 m2 v → 
((v < ((s1.length : Nat) : Int) →
((0 ≤ v ∧ v < ((s1.length : Nat) : Int)) ∧
((0 ≤ v ∧ v < ((s2.length : Nat) : Int)) ∧
(((gi s1 v.toNat) = (gi s2 v.toNat) →
(In64 (v + 1) ∧
∃ m3, m3 < m2 ∧ I2 m3 (v + 1))) ∧
(¬ ((gi s1 v.toNat) = (gi s2 v.toNat)) →
R false))))) ∧
(¬ (v < ((s1.length : Nat) : Int)) →
R true)))) ∧
(¬ (((s1.length : Nat) : Int) = ((s2.length : Nat) : Int)) →
R false))
theorem pok_slices_Equal_Divisor {O : Nat → Prop} {w : World} {s1 : List Int} {s2 : List Int} {As1 : Option Addr} {ls1 : Nat} {cs1 : Nat} {As2 : Option Addr} {ls2 : Nat} {cs2 : Nat} {R : Bool → Prop} (h : pf_slices_Equal_Divisor s1 s2 R) (hO : ∀ k, O k → k < w.heap.size) (a0 : (FP.sl cI As1 ls1 cs1 s1).P O w) (a1 : (FP.sl cI As2 ls2 cs2 s2).P O w) :
    Calls Try.prog 19 #[(Value.slice As1 ls1 cs1), (Value.slice As2 ls2 cs2)] w fun e w' => ∃ r : Bool, e = .returned (Value.bool (r)) ∧ Sep w no O w' (rl []) ∧ R r := by
  unfold pf_slices_Equal_Divisor at h
  have hS : Sep w no O w (rl [Res.ro (FP.sl cI As1 ls1 cs1 s1), Res.ro (FP.sl cI As2 ls2 cs2 s2)]) := Sep.startl hO [(FP.sl cI As1 ls1 cs1 s1), (FP.sl cI As2 ls2 cs2 s2)] ⟨a0, a1, trivial⟩
  refine calls_sh (l := [(Value.slice As1 ls1 cs1), (Value.slice As2 ls2 cs2)]) Try.func19 rfl Try.ntmps19 (Nat.le_of_ble_eq_true rfl) ?_
  refine wt_seq ?_
  refine wl_region wd_wide ?_
  refine rl_q rfl rfl rfl (v_assign (v := (Value.bool (false))) rfl) ?_
  refine rl_end ?_
  refine wt_seq ?_
  refine wt_seq ?_
  refine wl_region wd_wide ?_
  refine rl_q rfl rfl rfl (v_move (v := (Value.slice As1 ls1 cs1)) rfl) ?_
  refine rl_q rfl rfl rfl (v_lenx (n := s1.length) rfl Try.underlying26 (rd_len (hS.rdr 0 rfl))) ?_
  refine rl_q rfl rfl rfl (v_move (v := (Value.slice As2 ls2 cs2)) rfl) ?_
  refine rl_q rfl rfl rfl (v_lenx (n := s2.length) rfl Try.underlying26 (rd_len (hS.rdr 1 rfl))) ?_
  refine rl_q rfl rfl rfl (v_neq rfl rfl) ?_
  refine rl_end ?_
  by_cases hp : ((s1.length : Nat) : Int) = ((s2.length : Nat) : Int)
  · replace h := h.1 hp
    refine wt_cond_f (congrArg Value.bool (congrArg Bool.not (decide_eq_true hp))) ?_
    refine wt_skip ?_
    refine wt_seq ?_
    refine wt_seq ?_
    refine wl_region wd_wide ?_
    refine rl_q rfl rfl rfl (v_move (v := (Value.slice As1 ls1 cs1)) rfl) ?_
    refine rl_q rfl rfl rfl (v_lenx (n := s1.length) rfl Try.underlying26 (rd_len (hS.rdr 0 rfl))) ?_
    refine rl_q rfl rfl rfl (v_move (v := (Value.int .i64 0)) rfl) ?_
    refine rl_end ?_
    refine wt_block ?_
    obtain ⟨I2, ⟨m0, h0⟩, hr⟩ := h
    refine wt_loop (fun m E ds w' => ∃ v : Int, I2 m v ∧ ds = [] ∧ E 0 = (Value.slice As1 ls1 cs1) ∧ E 1 = (Value.slice As2 ls2 cs2) ∧ E 12 = (Value.int .i64 ((s1.length : Nat) : Int)) ∧ E 13 = (Value.int .i64 v) ∧ Sep w no O w' (rl [Res.ro (FP.sl cI As1 ls1 cs1 s1), Res.ro (FP.sl cI As2 ls2 cs2 s2)])) m0 ⟨_, h0, rfl, rfl, rfl, rfl, rfl, (hS.sel [0, 1] (by decide))⟩ ?_
    clear h0 hS
    rintro m2 E ds w2 ⟨v, h, rfl, hE0, hE1, hE12, hE13, hS⟩ again
    replace h := hr m2 v h
    clear hr
    refine wt_seq ?_
    refine wl_region wd_wide ?_
    refine rl_q rfl rfl rfl (v_lss hE13 hE12) ?_
    refine rl_end ?_
    refine wt_seq ?_
    by_cases hp2 : v < ((s1.length : Nat) : Int)
    · replace h := h.1 hp2
      refine wt_cond_t (congrArg Value.bool (decide_eq_true hp2)) ?_
      refine wt_skip ?_
      refine wt_seq ?_
      refine wt_block ?_
      refine wt_seq ?_
      refine wl_region wd_wide ?_
      refine rl_q rfl rfl rfl (v_move (v := (Value.int .i64 v)) hE13) ?_
      refine rl_q rfl rfl rfl (v_assign (v := (Value.int .i64 v)) rfl) ?_
      refine rl_end ?_
      refine wt_seq ?_
      refine wp_draw [0, 1, 2, 3, 4, 5, 6, 7, 8] st0 wd_wide (by kernel_rfl) (by kernel_rfl) ?_
      replace hS := hS.drew
      refine rp_q rfl rfl rfl (v_move (v := (Value.slice As1 ls1 cs1)) hE0) ?_
      refine rp_q rfl rfl rfl (v_move (v := (Value.int .i64 v)) rfl) ?_
      obtain ⟨hx, h⟩ := h
      refine rp_q rfl rfl rfl (v_iaddr rfl rfl Try.underlying26 info_3 (rd_ix (hS.rdr 0 rfl) hx)) ?_
      refine rp_q rfl rfl rfl (v_load (v := (Value.int .i64 (gi s1 v.toNat))) rfl Try.underlying3 rfl (rd_1 (hS.rdr 0 rfl) hx (fun q => gi_some q) rfl)) ?_
      refine rp_q rfl rfl rfl (v_move (v := (Value.slice As2 ls2 cs2)) hE1) ?_
      refine rp_q rfl rfl rfl (v_move (v := (Value.int .i64 v)) rfl) ?_
      obtain ⟨hx2, h⟩ := h
      refine rp_q rfl rfl rfl (v_iaddr rfl rfl Try.underlying26 info_3 (rd_ix (hS.rdr 1 rfl) hx2)) ?_
      refine rp_q rfl rfl rfl (v_load (v := (Value.int .i64 (gi s2 v.toNat))) rfl Try.underlying3 rfl (rd_1 (hS.rdr 1 rfl) hx2 (fun q => gi_some q) rfl)) ?_
      refine rp_q rfl rfl rfl (v_neq rfl rfl) ?_
      refine rp_end ?_
      by_cases hp3 : (gi s1 v.toNat) = (gi s2 v.toNat)
      · replace h := h.1 hp3
        refine wt_cond_f (congrArg Value.bool (congrArg Bool.not (decide_eq_true hp3))) ?_
        refine wt_skip ?_
        refine wt_inBlock ?_
        refine wl_region wd_wide ?_
        obtain ⟨hi, h⟩ := h
        refine rl_q rfl rfl rfl (v_add hE13 rfl hi) ?_
        refine rl_q rfl rfl rfl (v_move (v := (Value.int .i64 (v + 1))) rfl) ?_
        refine rl_end ?_
        obtain ⟨mq, hlt, h⟩ := h
        exact again mq _ _ _ ⟨_, h, rfl, hE0, hE1, hE12, rfl, (hS.sel [0, 1] (by decide))⟩ hlt
      · replace h := h.2 hp3
        refine wt_cond_t (congrArg Value.bool (congrArg Bool.not (decide_eq_false hp3))) ?_
        refine wt_seq ?_
        refine wl_region wd_wide ?_
        refine rl_q rfl rfl rfl (v_assign (v := (Value.bool (false))) rfl) ?_
        refine rl_end ?_
        exact wt_ret1 rfl rfl ⟨_, rfl, (hS.sel [] (by decide)), h⟩
    · replace h := h.2 hp2
      refine wt_cond_f (congrArg Value.bool (decide_eq_false hp2)) ?_
      refine wt_exit rfl ?_
      refine wt_seq ?_
      refine wl_region wd_wide ?_
      refine rl_q rfl rfl rfl (v_assign (v := (Value.bool (true))) rfl) ?_
      refine rl_end ?_
      exact wt_ret1 rfl rfl ⟨_, rfl, (hS.sel [] (by decide)), h⟩
  · replace h := h.2 hp
    refine wt_cond_t (congrArg Value.bool (congrArg Bool.not (decide_eq_false hp))) ?_
    refine wt_seq ?_
    refine wl_region wd_wide ?_
    refine rl_q rfl rfl rfl (v_assign (v := (Value.bool (false))) rfl) ?_
    refine rl_end ?_
    exact wt_ret1 rfl rfl ⟨_, rfl, (hS.sel [] (by decide)), h⟩

/-- slices.Equal[sandpile/api.Script,int]: what it computes. -/
def pf_slices_Equal_Script (s1 : List Int) (s2 : List Int) (R : Bool → Prop) : Prop :=
((((s1.length : Nat) : Int) = ((s2.length : Nat) : Int) →
(∃ I2 : Nat → Int → Prop, (∃ m0, I2 m0 0) ∧ ∀ (m2 : Nat) (v : Int), I2 m2 v → 
((v < ((s1.length : Nat) : Int) →
((0 ≤ v ∧ v < ((s1.length : Nat) : Int)) ∧
((0 ≤ v ∧ v < ((s2.length : Nat) : Int)) ∧
(((gi s1 v.toNat) = (gi s2 v.toNat) →
(In64 (v + 1) ∧
∃ m3, m3 < m2 ∧ I2 m3 (v + 1))) ∧
(¬ ((gi s1 v.toNat) = (gi s2 v.toNat)) →
R false))))) ∧
(¬ (v < ((s1.length : Nat) : Int)) →
R true)))) ∧
(¬ (((s1.length : Nat) : Int) = ((s2.length : Nat) : Int)) →
R false))
theorem pok_slices_Equal_Script {O : Nat → Prop} {w : World} {s1 : List Int} {s2 : List Int} {As1 : Option Addr} {ls1 : Nat} {cs1 : Nat} {As2 : Option Addr} {ls2 : Nat} {cs2 : Nat} {R : Bool → Prop} (h : pf_slices_Equal_Script s1 s2 R) (hO : ∀ k, O k → k < w.heap.size) (a0 : (FP.sl cI As1 ls1 cs1 s1).P O w) (a1 : (FP.sl cI As2 ls2 cs2 s2).P O w) :
    Calls Try.prog 20 #[(Value.slice As1 ls1 cs1), (Value.slice As2 ls2 cs2)] w fun e w' => ∃ r : Bool, e = .returned (Value.bool (r)) ∧ Sep w no O w' (rl []) ∧ R r := by
  unfold pf_slices_Equal_Script at h
  have hS : Sep w no O w (rl [Res.ro (FP.sl cI As1 ls1 cs1 s1), Res.ro (FP.sl cI As2 ls2 cs2 s2)]) := Sep.startl hO [(FP.sl cI As1 ls1 cs1 s1), (FP.sl cI As2 ls2 cs2 s2)] ⟨a0, a1, trivial⟩
  refine calls_sh (l := [(Value.slice As1 ls1 cs1), (Value.slice As2 ls2 cs2)]) Try.func20 rfl Try.ntmps20 (Nat.le_of_ble_eq_true rfl) ?_
  refine wt_seq ?_
  refine wl_region wd_wide ?_
  refine rl_q rfl rfl rfl (v_assign (v := (Value.bool (false))) rfl) ?_
  refine rl_end ?_
  refine wt_seq ?_
  refine wt_seq ?_
  refine wl_region wd_wide ?_
  refine rl_q rfl rfl rfl (v_move (v := (Value.slice As1 ls1 cs1)) rfl) ?_
  refine rl_q rfl rfl rfl (v_lenx (n := s1.length) rfl Try.underlying30 (rd_len (hS.rdr 0 rfl))) ?_
  refine rl_q rfl rfl rfl (v_move (v := (Value.slice As2 ls2 cs2)) rfl) ?_
  refine rl_q rfl rfl rfl (v_lenx (n := s2.length) rfl Try.underlying30 (rd_len (hS.rdr 1 rfl))) ?_
  refine rl_q rfl rfl rfl (v_neq rfl rfl) ?_
  refine rl_end ?_
  by_cases hp : ((s1.length : Nat) : Int) = ((s2.length : Nat) : Int)
  · replace h := h.1 hp
    refine wt_cond_f (congrArg Value.bool (congrArg Bool.not (decide_eq_true hp))) ?_
    refine wt_skip ?_
    refine wt_seq ?_
    refine wt_seq ?_
    refine wl_region wd_wide ?_
    refine rl_q rfl rfl rfl (v_move (v := (Value.slice As1 ls1 cs1)) rfl) ?_
    refine rl_q rfl rfl rfl (v_lenx (n := s1.length) rfl Try.underlying30 (rd_len (hS.rdr 0 rfl))) ?_
    refine rl_q rfl rfl rfl (v_move (v := (Value.int .i64 0)) rfl) ?_
    refine rl_end ?_
    refine wt_block ?_
    obtain ⟨I2, ⟨m0, h0⟩, hr⟩ := h
    refine wt_loop (fun m E ds w' => ∃ v : Int, I2 m v ∧ ds = [] ∧ E 0 = (Value.slice As1 ls1 cs1) ∧ E 1 = (Value.slice As2 ls2 cs2) ∧ E 12 = (Value.int .i64 ((s1.length : Nat) : Int)) ∧ E 13 = (Value.int .i64 v) ∧ Sep w no O w' (rl [Res.ro (FP.sl cI As1 ls1 cs1 s1), Res.ro (FP.sl cI As2 ls2 cs2 s2)])) m0 ⟨_, h0, rfl, rfl, rfl, rfl, rfl, (hS.sel [0, 1] (by decide))⟩ ?_
    clear h0 hS
    rintro m2 E ds w2 ⟨v, h, rfl, hE0, hE1, hE12, hE13, hS⟩ again
    replace h := hr m2 v h
    clear hr
    refine wt_seq ?_
    refine wl_region wd_wide ?_
    refine rl_q rfl rfl rfl (v_lss hE13 hE12) ?_
    refine rl_end ?_
    refine wt_seq ?_
    by_cases hp2 : v < ((s1.length : Nat) : Int)
    · replace h := h.1 hp2
      refine wt_cond_t (congrArg Value.bool (decide_eq_true hp2)) ?_
      refine wt_skip ?_
      refine wt_seq ?_
      refine wt_block ?_
      refine wt_seq ?_
      refine wl_region wd_wide ?_
      refine rl_q rfl rfl rfl (v_move (v := (Value.int .i64 v)) hE13) ?_
      refine rl_q rfl rfl rfl (v_assign (v := (Value.int .i64 v)) rfl) ?_
      refine rl_end ?_
      refine wt_seq ?_
      refine wp_draw [0, 1, 2, 3, 4, 5, 6, 7, 8] st0 wd_wide (by kernel_rfl) (by kernel_rfl) ?_
      replace hS := hS.drew
      refine rp_q rfl rfl rfl (v_move (v := (Value.slice As1 ls1 cs1)) hE0) ?_
      refine rp_q rfl rfl rfl (v_move (v := (Value.int .i64 v)) rfl) ?_
      obtain ⟨hx, h⟩ := h
      refine rp_q rfl rfl rfl (v_iaddr rfl rfl Try.underlying30 info_3 (rd_ix (hS.rdr 0 rfl) hx)) ?_
      refine rp_q rfl rfl rfl (v_load (v := (Value.int .i64 (gi s1 v.toNat))) rfl Try.underlying3 rfl (rd_1 (hS.rdr 0 rfl) hx (fun q => gi_some q) rfl)) ?_
      refine rp_q rfl rfl rfl (v_move (v := (Value.slice As2 ls2 cs2)) hE1) ?_
      refine rp_q rfl rfl rfl (v_move (v := (Value.int .i64 v)) rfl) ?_
      obtain ⟨hx2, h⟩ := h
      refine rp_q rfl rfl rfl (v_iaddr rfl rfl Try.underlying30 info_3 (rd_ix (hS.rdr 1 rfl) hx2)) ?_
      refine rp_q rfl rfl rfl (v_load (v := (Value.int .i64 (gi s2 v.toNat))) rfl Try.underlying3 rfl (rd_1 (hS.rdr 1 rfl) hx2 (fun q => gi_some q) rfl)) ?_
      refine rp_q rfl rfl rfl (v_neq rfl rfl) ?_
      refine rp_end ?_
      by_cases hp3 : (gi s1 v.toNat) = (gi s2 v.toNat)
      · replace h := h.1 hp3
        refine wt_cond_f (congrArg Value.bool (congrArg Bool.not (decide_eq_true hp3))) ?_
        refine wt_skip ?_
        refine wt_inBlock ?_
        refine wl_region wd_wide ?_
        obtain ⟨hi, h⟩ := h
        refine rl_q rfl rfl rfl (v_add hE13 rfl hi) ?_
        refine rl_q rfl rfl rfl (v_move (v := (Value.int .i64 (v + 1))) rfl) ?_
        refine rl_end ?_
        obtain ⟨mq, hlt, h⟩ := h
        exact again mq _ _ _ ⟨_, h, rfl, hE0, hE1, hE12, rfl, (hS.sel [0, 1] (by decide))⟩ hlt
      · replace h := h.2 hp3
        refine wt_cond_t (congrArg Value.bool (congrArg Bool.not (decide_eq_false hp3))) ?_
        refine wt_seq ?_
        refine wl_region wd_wide ?_
        refine rl_q rfl rfl rfl (v_assign (v := (Value.bool (false))) rfl) ?_
        refine rl_end ?_
        exact wt_ret1 rfl rfl ⟨_, rfl, (hS.sel [] (by decide)), h⟩
    · replace h := h.2 hp2
      refine wt_cond_f (congrArg Value.bool (decide_eq_false hp2)) ?_
      refine wt_exit rfl ?_
      refine wt_seq ?_
      refine wl_region wd_wide ?_
      refine rl_q rfl rfl rfl (v_assign (v := (Value.bool (true))) rfl) ?_
      refine rl_end ?_
      exact wt_ret1 rfl rfl ⟨_, rfl, (hS.sel [] (by decide)), h⟩
  · replace h := h.2 hp
    refine wt_cond_t (congrArg Value.bool (congrArg Bool.not (decide_eq_false hp))) ?_
    refine wt_seq ?_
    refine wl_region wd_wide ?_
    refine rl_q rfl rfl rfl (v_assign (v := (Value.bool (false))) rfl) ?_
    refine rl_end ?_
    exact wt_ret1 rfl rfl ⟨_, rfl, (hS.sel [] (by decide)), h⟩

/-- slices.Equal[[]int,int]: what it computes. -/
def pf_slices_Equal_intS (s1 : List Int) (s2 : List Int) (R : Bool → Prop) : Prop :=
((((s1.length : Nat) : Int) = ((s2.length : Nat) : Int) →
(∃ I2 : Nat → Int → Prop, (∃ m0, I2 m0 0) ∧ ∀ (m2 : Nat) (v : Int), I2 m2 v → 
((v < ((s1.length : Nat) : Int) →
((0 ≤ v ∧ v < ((s1.length : Nat) : Int)) ∧
((0 ≤ v ∧ v < ((s2.length : Nat) : Int)) ∧
(((gi s1 v.toNat) = (gi s2 v.toNat) →
(In64 (v + 1) ∧
∃ m3, m3 < m2 ∧ I2 m3 (v + 1))) ∧
(¬ ((gi s1 v.toNat) = (gi s2 v.toNat)) →
R false))))) ∧
(¬ (v < ((s1.length : Nat) : Int)) →
R true)))) ∧
(¬ (((s1.length : Nat) : Int) = ((s2.length : Nat) : Int)) →
R false))
theorem pok_slices_Equal_intS {O : Nat → Prop} {w : World} {s1 : List Int} {s2 : List Int} {As1 : Option Addr} {ls1 : Nat} {cs1 : Nat} {As2 : Option Addr} {ls2 : Nat} {cs2 : Nat} {R : Bool → Prop} (h : pf_slices_Equal_intS s1 s2 R) (hO : ∀ k, O k → k < w.heap.size) (a0 : (FP.sl cI As1 ls1 cs1 s1).P O w) (a1 : (FP.sl cI As2 ls2 cs2 s2).P O w) :
    Calls Try.prog 33 #[(Value.slice As1 ls1 cs1), (Value.slice As2 ls2 cs2)] w fun e w' => ∃ r : Bool, e = .returned (Value.bool (r)) ∧ Sep w no O w' (rl []) ∧ R r := by
  unfold pf_slices_Equal_intS at h
  have hS : Sep w no O w (rl [Res.ro (FP.sl cI As1 ls1 cs1 s1), Res.ro (FP.sl cI As2 ls2 cs2 s2)]) := Sep.startl hO [(FP.sl cI As1 ls1 cs1 s1), (FP.sl cI As2 ls2 cs2 s2)] ⟨a0, a1, trivial⟩
  refine calls_sh (l := [(Value.slice As1 ls1 cs1), (Value.slice As2 ls2 cs2)]) Try.func33 rfl Try.ntmps33 (Nat.le_of_ble_eq_true rfl) ?_
  refine wt_seq ?_
  refine wl_region wd_wide ?_
  refine rl_q rfl rfl rfl (v_assign (v := (Value.bool (false))) rfl) ?_
  refine rl_end ?_
  refine wt_seq ?_
  refine wt_seq ?_
  refine wl_region wd_wide ?_
  refine rl_q rfl rfl rfl (v_move (v := (Value.slice As1 ls1 cs1)) rfl) ?_
  refine rl_q rfl rfl rfl (v_lenx (n := s1.length) rfl Try.underlying25 (rd_len (hS.rdr 0 rfl))) ?_
  refine rl_q rfl rfl rfl (v_move (v := (Value.slice As2 ls2 cs2)) rfl) ?_
  refine rl_q rfl rfl rfl (v_lenx (n := s2.length) rfl Try.underlying25 (rd_len (hS.rdr 1 rfl))) ?_
  refine rl_q rfl rfl rfl (v_neq rfl rfl) ?_
  refine rl_end ?_
  by_cases hp : ((s1.length : Nat) : Int) = ((s2.length : Nat) : Int)
  · replace h := h.1 hp
    refine wt_cond_f (congrArg Value.bool (congrArg Bool.not (decide_eq_true hp))) ?_
    refine wt_skip ?_
    refine wt_seq ?_
    refine wt_seq ?_
    refine wl_region wd_wide ?_
    refine rl_q rfl rfl rfl (v_move (v := (Value.slice As1 ls1 cs1)) rfl) ?_
    refine rl_q rfl rfl rfl (v_lenx (n := s1.length) rfl Try.underlying25 (rd_len (hS.rdr 0 rfl))) ?_
    refine rl_q rfl rfl rfl (v_move (v := (Value.int .i64 0)) rfl) ?_
    refine rl_end ?_
    refine wt_block ?_
    obtain ⟨I2, ⟨m0, h0⟩, hr⟩ := h
    refine wt_loop (fun m E ds w' => ∃ v : Int, I2 m v ∧ ds = [] ∧ E 0 = (Value.slice As1 ls1 cs1) ∧ E 1 = (Value.slice As2 ls2 cs2) ∧ E 12 = (Value.int .i64 ((s1.length : Nat) : Int)) ∧ E 13 = (Value.int .i64 v) ∧ Sep w no O w' (rl [Res.ro (FP.sl cI As1 ls1 cs1 s1), Res.ro (FP.sl cI As2 ls2 cs2 s2)])) m0 ⟨_, h0, rfl, rfl, rfl, rfl, rfl, (hS.sel [0, 1] (by decide))⟩ ?_
    clear h0 hS
    rintro m2 E ds w2 ⟨v, h, rfl, hE0, hE1, hE12, hE13, hS⟩ again
    replace h := hr m2 v h
    clear hr
    refine wt_seq ?_
    refine wl_region wd_wide ?_
    refine rl_q rfl rfl rfl (v_lss hE13 hE12) ?_
    refine rl_end ?_
    refine wt_seq ?_
    by_cases hp2 : v < ((s1.length : Nat) : Int)
    · replace h := h.1 hp2
      refine wt_cond_t (congrArg Value.bool (decide_eq_true hp2)) ?_
      refine wt_skip ?_
      refine wt_seq ?_
      refine wt_block ?_
      refine wt_seq ?_
      refine wl_region wd_wide ?_
      refine rl_q rfl rfl rfl (v_move (v := (Value.int .i64 v)) hE13) ?_
      refine rl_q rfl rfl rfl (v_assign (v := (Value.int .i64 v)) rfl) ?_
      refine rl_end ?_
      refine wt_seq ?_
      refine wp_draw [0, 1, 2, 3, 4, 5, 6, 7, 8] st0 wd_wide (by kernel_rfl) (by kernel_rfl) ?_
      replace hS := hS.drew
      refine rp_q rfl rfl rfl (v_move (v := (Value.slice As1 ls1 cs1)) hE0) ?_
      refine rp_q rfl rfl rfl (v_move (v := (Value.int .i64 v)) rfl) ?_
      obtain ⟨hx, h⟩ := h
      refine rp_q rfl rfl rfl (v_iaddr rfl rfl Try.underlying25 info_3 (rd_ix (hS.rdr 0 rfl) hx)) ?_
      refine rp_q rfl rfl rfl (v_load (v := (Value.int .i64 (gi s1 v.toNat))) rfl Try.underlying3 rfl (rd_1 (hS.rdr 0 rfl) hx (fun q => gi_some q) rfl)) ?_
      refine rp_q rfl rfl rfl (v_move (v := (Value.slice As2 ls2 cs2)) hE1) ?_
      refine rp_q rfl rfl rfl (v_move (v := (Value.int .i64 v)) rfl) ?_
      obtain ⟨hx2, h⟩ := h
      refine rp_q rfl rfl rfl (v_iaddr rfl rfl Try.underlying25 info_3 (rd_ix (hS.rdr 1 rfl) hx2)) ?_
      refine rp_q rfl rfl rfl (v_load (v := (Value.int .i64 (gi s2 v.toNat))) rfl Try.underlying3 rfl (rd_1 (hS.rdr 1 rfl) hx2 (fun q => gi_some q) rfl)) ?_
      refine rp_q rfl rfl rfl (v_neq rfl rfl) ?_
      refine rp_end ?_
      by_cases hp3 : (gi s1 v.toNat) = (gi s2 v.toNat)
      · replace h := h.1 hp3
        refine wt_cond_f (congrArg Value.bool (congrArg Bool.not (decide_eq_true hp3))) ?_
        refine wt_skip ?_
        refine wt_inBlock ?_
        refine wl_region wd_wide ?_
        obtain ⟨hi, h⟩ := h
        refine rl_q rfl rfl rfl (v_add hE13 rfl hi) ?_
        refine rl_q rfl rfl rfl (v_move (v := (Value.int .i64 (v + 1))) rfl) ?_
        refine rl_end ?_
        obtain ⟨mq, hlt, h⟩ := h
        exact again mq _ _ _ ⟨_, h, rfl, hE0, hE1, hE12, rfl, (hS.sel [0, 1] (by decide))⟩ hlt
      · replace h := h.2 hp3
        refine wt_cond_t (congrArg Value.bool (congrArg Bool.not (decide_eq_false hp3))) ?_
        refine wt_seq ?_
        refine wl_region wd_wide ?_
        refine rl_q rfl rfl rfl (v_assign (v := (Value.bool (false))) rfl) ?_
        refine rl_end ?_
        exact wt_ret1 rfl rfl ⟨_, rfl, (hS.sel [] (by decide)), h⟩
    · replace h := h.2 hp2
      refine wt_cond_f (congrArg Value.bool (decide_eq_false hp2)) ?_
      refine wt_exit rfl ?_
      refine wt_seq ?_
      refine wl_region wd_wide ?_
      refine rl_q rfl rfl rfl (v_assign (v := (Value.bool (true))) rfl) ?_
      refine rl_end ?_
      exact wt_ret1 rfl rfl ⟨_, rfl, (hS.sel [] (by decide)), h⟩
  · replace h := h.2 hp
    refine wt_cond_t (congrArg Value.bool (congrArg Bool.not (decide_eq_false hp))) ?_
    refine wt_seq ?_
    refine wl_region wd_wide ?_
    refine rl_q rfl rfl rfl (v_assign (v := (Value.bool (false))) rfl) ?_
    refine rl_end ?_
    exact wt_ret1 rfl rfl ⟨_, rfl, (hS.sel [] (by decide)), h⟩

/-- slices.Clone[sandpile/api.Divisor,int]: what it computes. -/
def pf_slices_Clone_Divisor (s : List Int) (R : (List Int) → Prop) : Prop :=
(∀ nil : Bool, (nil = true → s = []) →
((nil = true →
R ([])) ∧
(¬ (nil = true) →
(0 + s.length ≤ 1000000000 ∧
R ([] ++ s)))))
theorem pok_slices_Clone_Divisor {O : Nat → Prop} {w : World} {s : List Int} {As : Option Addr} {ls : Nat} {cs : Nat} {R : (List Int) → Prop} (h : pf_slices_Clone_Divisor s R) (hO : ∀ k, O k → k < w.heap.size) (a0 : (FP.sl cI As ls cs s).P O w) :
    Calls Try.prog 22 #[(Value.slice As ls cs)] w fun e w' => ∃ r : List Int, ∃ Ar : Option Addr, ∃ lr : Nat, ∃ cr : Nat, e = .returned (Value.slice Ar lr cr) ∧ Sep w no O w' (rl [Res.own cI 3 Ar lr cr r]) ∧ R r := by
  unfold pf_slices_Clone_Divisor at h
  have hS : Sep w no O w (rl [Res.ro (FP.sl cI As ls cs s)]) := Sep.startl hO [(FP.sl cI As ls cs s)] ⟨a0, trivial⟩
  refine calls_sh (l := [(Value.slice As ls cs)]) Try.func22 rfl Try.ntmps22 (Nat.le_of_ble_eq_true rfl) ?_
  refine wt_seq ?_
  refine wl_region wd_wide ?_
  refine rl_q rfl rfl rfl (v_assign (v := (Value.slice none 0 0)) rfl) ?_
  refine rl_end ?_
  refine wt_seq ?_
  refine wt_seq ?_
  refine wl_region wd_wide ?_
  refine rl_q rfl rfl rfl (v_move (v := (Value.slice As ls cs)) rfl) ?_
  obtain ⟨nil, hn⟩ : ∃ b, Option.isNone As = b := ⟨_, rfl⟩
  replace h := h nil (by rw [← hn]; exact rd_nil (hS.rdr 0 rfl))
  refine rl_q rfl rfl rfl (v_seqlx rfl rfl Try.underlying26 hn) ?_
  refine rl_end ?_
  by_cases hp : nil = true
  · replace h := h.1 hp
    refine wt_cond_t (congrArg Value.bool hp) ?_
    refine wt_seq ?_
    refine wl_region wd_wide ?_
    refine rl_q rfl rfl rfl (v_assign (v := (Value.slice none 0 0)) rfl) ?_
    refine rl_end ?_
    replace hS := hS.nil 1 rfl cI 3
    exact wt_ret1 rfl rfl ⟨_, _, _, _, rfl, (hS.sel [1] (by decide)), h⟩
  · replace h := h.2 hp
    refine wt_cond_f (congrArg Value.bool (Bool.eq_false_iff.2 hp)) ?_
    refine wt_skip ?_
    refine wt_seq ?_
    refine wl_region wd_wide ?_
    refine rl_n rfl rfl rfl rfl (n_bslice (l := []) (cells := []) (bp0) Try.underlying26 info_3 rfl rfl ?_)
    intro g w2 hN
    replace hS := hS.litf (n := 0) 1 rfl (fI .i64) hN ([] : List Int) rfl (by decide) rfl
    clear hN
    refine ⟨Stb.none _, ?_⟩
    refine rl_q rfl rfl rfl (v_move (v := (Value.slice As ls cs)) rfl) ?_
    obtain ⟨hx, h⟩ := h
    refine rl_n rfl rfl rfl rfl (n_app (c := cI) rfl rfl Try.underlying26 Try.underlying26 info_3 rfl rfl (by decide) hS 1 rfl (hS.yr 0 rfl) hx ?_)
    clear hS
    intro A c w3 hS
    refine ⟨Stb.none _, ?_⟩
    refine rl_q rfl rfl rfl (v_assign (v := (Value.slice A (0 + ls) c)) rfl) ?_
    refine rl_end ?_
    exact wt_ret1 rfl rfl ⟨_, _, _, _, rfl, (hS.sel [1] (by decide)), h⟩
end Go.Proofs.Ytnhmeckhlajeaaa
