/- Texts laid together: Pb, Pt, Pd, PForms, Cnt, Det, Cram, SpA. -/
import Derived.Test.YtnhmeckhlajeaaaK4
/- Pure forms of functions, made by program (pf.py), each with the proof that the code does so. -/
namespace Go.Proofs.Ytnhmeckhlajeaaa
open Go Go.RowKit Go.Shelf
set_option linter.unusedVariables false
set_option maxRecDepth 100000
set_option maxHeartbeats 1000000
/-- slices.Equal[sandpile/api.Divisor,int]: what it computes. -/
def pf_slices_Equal_Divisor (s1 : List Int) (s2 : List Int) (R : Bool → Prop) : Prop :=
((((s1.length : Nat) : Int) = ((s2.length : Nat) : Int) →
(∃ I2 : Nat → Int → Prop, (∃ m0, I2 m0 0) ∧ ∀ (m2 : Nat) (v : Int), I2 m2 v → 
((v < ((s1.length : Nat) : Int) →
((0 ≤ v ∧ v < ((s1.length : Nat) : Int)) ∧
((0 ≤ v ∧ v < ((s2.length : Nat) : Int)) ∧
(((gi s1 v.toNat) = (gi s2 v.toNat) →
(In64 (v + 1) ∧
∃ m3, m3 < m2 ∧ I2 m3 (v + 1))) ∧
(¬ ((gi s1 v.toNat) = (gi s2 v.toNat)) →
R false))))) ∧
(¬ (v < ((s1.length : Nat) : Int)) →
R true)))) ∧
(¬ (((s1.length : Nat) : Int) = ((s2.length : Nat) : Int)) →
R false))
theorem pok_slices_Equal_Divisor {O : Nat → Prop} {w : World} {s1 : List Int} {s2 : List Int} {As1 : Option Addr} {ls1 : Nat} {cs1 : Nat} {As2 : Option Addr} {ls2 : Nat} {cs2 : Nat} {R : Bool → Prop} (h : pf_slices_Equal_Divisor s1 s2 R) (hO : ∀ k, O k → k < w.heap.size) (a0 : (FP.sl cI As1 ls1 cs1 s1).P O w) (a1 : (FP.sl cI As2 ls2 cs2 s2).P O w) :
    Calls Try.prog 19 #[(Value.slice As1 ls1 cs1), (Value.slice As2 ls2 cs2)] w fun e w' => ∃ r : Bool, e = .returned (Value.bool (r)) ∧ Sep w no O w' (rl []) ∧ R r := by
  unfold pf_slices_Equal_Divisor at h
  have hS : Sep w no O w (rl [Res.ro (FP.sl cI As1 ls1 cs1 s1), Res.ro (FP.sl cI As2 ls2 cs2 s2)]) := Sep.startl hO [(FP.sl cI As1 ls1 cs1 s1), (FP.sl cI As2 ls2 cs2 s2)] ⟨a0, a1, trivial⟩
  refine calls_sh (l := [(Value.slice As1 ls1 cs1), (Value.slice As2 ls2 cs2)]) Try.func19 rfl Try.ntmps19 (Nat.le_of_ble_eq_true rfl) ?_
  refine wt_seq ?_
  refine wl_region wd_wide ?_
  refine rl_q rfl rfl rfl (v_assign (v := (Value.bool (false))) rfl) ?_
  refine rl_end ?_
  refine wt_seq ?_
  refine wt_seq ?_
  refine wl_region wd_wide ?_
  refine rl_q rfl rfl rfl (v_move (v := (Value.slice As1 ls1 cs1)) rfl) ?_
  refine rl_q rfl rfl rfl (v_lenx (n := s1.length) rfl Try.underlying26 (rd_len (hS.rdr 0 rfl))) ?_
  refine rl_q rfl rfl rfl (v_move (v := (Value.slice As2 ls2 cs2)) rfl) ?_
  refine rl_q rfl rfl rfl (v_lenx (n := s2.length) rfl Try.underlying26 (rd_len (hS.rdr 1 rfl))) ?_
  refine rl_q rfl rfl rfl (v_neq rfl rfl) ?_
  refine rl_end ?_
  by_cases hp : ((s1.length : Nat) : Int) = ((s2.length : Nat) : Int)
  · replace h := h.1 hp
    refine wt_cond_f (congrArg Value.bool (congrArg Bool.not (decide_eq_true hp))) ?_
    refine wt_skip ?_
    refine wt_seq ?_
    refine wt_seq ?_
    refine wl_region wd_wide ?_
    refine rl_q rfl rfl rfl (v_move (v := (Value.slice As1 ls1 cs1)) rfl) ?_
    refine rl_q rfl rfl rfl (v_lenx (n := s1.length) rfl Try.underlying26 (rd_len (hS.rdr 0 rfl))) ?_
    refine rl_q rfl rfl rfl (v_move (v := (Value.int .i64 0)) rfl) ?_
    refine rl_end ?_
    refine wt_block ?_
    obtain ⟨I2, ⟨m0, h0⟩, hr⟩ := h
    refine wt_loop (fun m E ds w' => ∃ v : Int, I2 m v ∧ ds = [] ∧ E 0 = (Value.slice As1 ls1 cs1) ∧ E 1 = (Value.slice As2 ls2 cs2) ∧ E 12 = (Value.int .i64 ((s1.length : Nat) : Int)) ∧ E 13 = (Value.int .i64 v) ∧ Sep w no O w' (rl [Res.ro (FP.sl cI As1 ls1 cs1 s1), Res.ro (FP.sl cI As2 ls2 cs2 s2)])) m0 ⟨_, h0, rfl, rfl, rfl, rfl, rfl, (hS.sel [0, 1] (by decide))⟩ ?_
    clear h0 hS
    rintro m2 E ds w2 ⟨v, h, rfl, hE0, hE1, hE12, hE13, hS⟩ again
    replace h := hr m2 v h
    clear hr
    refine wt_seq ?_
    refine wl_region wd_wide ?_
    refine rl_q rfl rfl rfl (v_lss hE13 hE12) ?_
    refine rl_end ?_
    refine wt_seq ?_
    by_cases hp2 : v < ((s1.length : Nat) : Int)
    · replace h := h.1 hp2
      refine wt_cond_t (congrArg Value.bool (decide_eq_true hp2)) ?_
      refine wt_skip ?_
      refine wt_seq ?_
      refine wt_block ?_
      refine wt_seq ?_
      refine wl_region wd_wide ?_
      refine rl_q rfl rfl rfl (v_move (v := (Value.int .i64 v)) hE13) ?_
      refine rl_q rfl rfl rfl (v_assign (v := (Value.int .i64 v)) rfl) ?_
      refine rl_end ?_
      refine wt_seq ?_
      refine wp_draw [0, 1, 2, 3, 4, 5, 6, 7, 8] st0 wd_wide (by kernel_rfl) (by kernel_rfl) ?_
      replace hS := hS.drew
      refine rp_q rfl rfl rfl (v_move (v := (Value.slice As1 ls1 cs1)) hE0) ?_
      refine rp_q rfl rfl rfl (v_move (v := (Value.int .i64 v)) rfl) ?_
      obtain ⟨hx, h⟩ := h
      refine rp_q rfl rfl rfl (v_iaddr rfl rfl Try.underlying26 info_3 (rd_ix (hS.rdr 0 rfl) hx)) ?_
      refine rp_q rfl rfl rfl (v_load (v := (Value.int .i64 (gi s1 v.toNat))) rfl Try.underlying3 rfl (rd_1 (hS.rdr 0 rfl) hx (fun q => gi_some q) rfl)) ?_
      refine rp_q rfl rfl rfl (v_move (v := (Value.slice As2 ls2 cs2)) hE1) ?_
      refine rp_q rfl rfl rfl (v_move (v := (Value.int .i64 v)) rfl) ?_
      obtain ⟨hx2, h⟩ := h
      refine rp_q rfl rfl rfl (v_iaddr rfl rfl Try.underlying26 info_3 (rd_ix (hS.rdr 1 rfl) hx2)) ?_
      refine rp_q rfl rfl rfl (v_load (v := (Value.int .i64 (gi s2 v.toNat))) rfl Try.underlying3 rfl (rd_1 (hS.rdr 1 rfl) hx2 (fun q => gi_some q) rfl)) ?_
      refine rp_q rfl rfl rfl (v_neq rfl rfl) ?_
      refine rp_end ?_
      by_cases hp3 : (gi s1 v.toNat) = (gi s2 v.toNat)
      · replace h := h.1 hp3
        refine wt_cond_f (congrArg Value.bool (congrArg Bool.not (decide_eq_true hp3))) ?_
        refine wt_skip ?_
        refine wt_inBlock ?_
        refine wl_region wd_wide ?_
        obtain ⟨hi, h⟩ := h
        refine rl_q rfl rfl rfl (v_add hE13 rfl hi) ?_
        refine rl_q rfl rfl rfl (v_move (v := (Value.int .i64 (v + 1))) rfl) ?_
        refine rl_end ?_
        obtain ⟨mq, hlt, h⟩ := h
        exact again mq _ _ _ ⟨_, h, rfl, hE0, hE1, hE12, rfl, (hS.sel [0, 1] (by decide))⟩ hlt
      · replace h := h.2 hp3
        refine wt_cond_t (congrArg Value.bool (congrArg Bool.not (decide_eq_false hp3))) ?_
        refine wt_seq ?_
        refine wl_region wd_wide ?_
        refine rl_q rfl rfl rfl (v_assign (v := (Value.bool (false))) rfl) ?_
        refine rl_end ?_
        exact wt_ret1 rfl rfl ⟨_, rfl, (hS.sel [] (by decide)), h⟩
    · replace h := h.2 hp2
      refine wt_cond_f (congrArg Value.bool (decide_eq_false hp2)) ?_
      refine wt_exit rfl ?_
      refine wt_seq ?_
      refine wl_region wd_wide ?_
      refine rl_q rfl rfl rfl (v_assign (v := (Value.bool (true))) rfl) ?_
      refine rl_end ?_
      exact wt_ret1 rfl rfl ⟨_, rfl, (hS.sel [] (by decide)), h⟩
  · replace h := h.2 hp
    refine wt_cond_t (congrArg Value.bool (congrArg Bool.not (decide_eq_false hp))) ?_
    refine wt_seq ?_
    refine wl_region wd_wide ?_
    refine rl_q rfl rfl rfl (v_assign (v := (Value.bool (false))) rfl) ?_
    refine rl_end ?_
    exact wt_ret1 rfl rfl ⟨_, rfl, (hS.sel [] (by decide)), h⟩

/-- slices.Equal[sandpile/api.Script,int]: what it computes. -/
def pf_slices_Equal_Script (s1 : List Int) (s2 : List Int) (R : Bool → Prop) : Prop :=
((((s1.length : Nat) : Int) = ((s2.length : Nat) : Int) →
(∃ I2 : Nat → Int → Prop, (∃ m0, I2 m0 0) ∧ ∀ (m2 : Nat) (v : Int), I2 m2 v → 
((v < ((s1.length : Nat) : Int) →
((0 ≤ v ∧ v < ((s1.length : Nat) : Int)) ∧
((0 ≤ v ∧ v < ((s2.length : Nat) : Int)) ∧
(((gi s1 v.toNat) = (gi s2 v.toNat) →
(In64 (v + 1) ∧
∃ m3, m3 < m2 ∧ I2 m3 (v + 1))) ∧
(¬ ((gi s1 v.toNat) = (gi s2 v.toNat)) →
R false))))) ∧
(¬ (v < ((s1.length : Nat) : Int)) →
R true)))) ∧
(¬ (((s1.length : Nat) : Int) = ((s2.length : Nat) : Int)) →
R false))
theorem pok_slices_Equal_Script {O : Nat → Prop} {w : World} {s1 : List Int} {s2 : List Int} {As1 : Option Addr} {ls1 : Nat} {cs1 : Nat} {As2 : Option Addr} {ls2 : Nat} {cs2 : Nat} {R : Bool → Prop} (h : pf_slices_Equal_Script s1 s2 R) (hO : ∀ k, O k → k < w.heap.size) (a0 : (FP.sl cI As1 ls1 cs1 s1).P O w) (a1 : (FP.sl cI As2 ls2 cs2 s2).P O w) :
    Calls Try.prog 20 #[(Value.slice As1 ls1 cs1), (Value.slice As2 ls2 cs2)] w fun e w' => ∃ r : Bool, e = .returned (Value.bool (r)) ∧ Sep w no O w' (rl []) ∧ R r := by
  unfold pf_slices_Equal_Script at h
  have hS : Sep w no O w (rl [Res.ro (FP.sl cI As1 ls1 cs1 s1), Res.ro (FP.sl cI As2 ls2 cs2 s2)]) := Sep.startl hO [(FP.sl cI As1 ls1 cs1 s1), (FP.sl cI As2 ls2 cs2 s2)] ⟨a0, a1, trivial⟩
  refine calls_sh (l := [(Value.slice As1 ls1 cs1), (Value.slice As2 ls2 cs2)]) Try.func20 rfl Try.ntmps20 (Nat.le_of_ble_eq_true rfl) ?_
  refine wt_seq ?_
  refine wl_region wd_wide ?_
  refine rl_q rfl rfl rfl (v_assign (v := (Value.bool (false))) rfl) ?_
  refine rl_end ?_
  refine wt_seq ?_
  refine wt_seq ?_
  refine wl_region wd_wide ?_
  refine rl_q rfl rfl rfl (v_move (v := (Value.slice As1 ls1 cs1)) rfl) ?_
  refine rl_q rfl rfl rfl (v_lenx (n := s1.length) rfl Try.underlying30 (rd_len (hS.rdr 0 rfl))) ?_
  refine rl_q rfl rfl rfl (v_move (v := (Value.slice As2 ls2 cs2)) rfl) ?_
  refine rl_q rfl rfl rfl (v_lenx (n := s2.length) rfl Try.underlying30 (rd_len (hS.rdr 1 rfl))) ?_
  refine rl_q rfl rfl rfl (v_neq rfl rfl) ?_
  refine rl_end ?_
  by_cases hp : ((s1.length : Nat) : Int) = ((s2.length : Nat) : Int)
  · replace h := h.1 hp
    refine wt_cond_f (congrArg Value.bool (congrArg Bool.not (decide_eq_true hp))) ?_
    refine wt_skip ?_
    refine wt_seq ?_
    refine wt_seq ?_
    refine wl_region wd_wide ?_
    refine rl_q rfl rfl rfl (v_move (v := (Value.slice As1 ls1 cs1)) rfl) ?_
    refine rl_q rfl rfl rfl (v_lenx (n := s1.length) rfl Try.underlying30 (rd_len (hS.rdr 0 rfl))) ?_
    refine rl_q rfl rfl rfl (v_move (v := (Value.int .i64 0)) rfl) ?_
    refine rl_end ?_
    refine wt_block ?_
    obtain ⟨I2, ⟨m0, h0⟩, hr⟩ := h
    refine wt_loop (fun m E ds w' => ∃ v : Int, I2 m v ∧ ds = [] ∧ E 0 = (Value.slice As1 ls1 cs1) ∧ E 1 = (Value.slice As2 ls2 cs2) ∧ E 12 = (Value.int .i64 ((s1.length : Nat) : Int)) ∧ E 13 = (Value.int .i64 v) ∧ Sep w no O w' (rl [Res.ro (FP.sl cI As1 ls1 cs1 s1), Res.ro (FP.sl cI As2 ls2 cs2 s2)])) m0 ⟨_, h0, rfl, rfl, rfl, rfl, rfl, (hS.sel [0, 1] (by decide))⟩ ?_
    clear h0 hS
    rintro m2 E ds w2 ⟨v, h, rfl, hE0, hE1, hE12, hE13, hS⟩ again
    replace h := hr m2 v h
    clear hr
    refine wt_seq ?_
    refine wl_region wd_wide ?_
    refine rl_q rfl rfl rfl (v_lss hE13 hE12) ?_
    refine rl_end ?_
    refine wt_seq ?_
    by_cases hp2 : v < ((s1.length : Nat) : Int)
    · replace h := h.1 hp2
      refine wt_cond_t (congrArg Value.bool (decide_eq_true hp2)) ?_
      refine wt_skip ?_
      refine wt_seq ?_
      refine wt_block ?_
      refine wt_seq ?_
      refine wl_region wd_wide ?_
      refine rl_q rfl rfl rfl (v_move (v := (Value.int .i64 v)) hE13) ?_
      refine rl_q rfl rfl rfl (v_assign (v := (Value.int .i64 v)) rfl) ?_
      refine rl_end ?_
      refine wt_seq ?_
      refine wp_draw [0, 1, 2, 3, 4, 5, 6, 7, 8] st0 wd_wide (by kernel_rfl) (by kernel_rfl) ?_
      replace hS := hS.drew
      refine rp_q rfl rfl rfl (v_move (v := (Value.slice As1 ls1 cs1)) hE0) ?_
      refine rp_q rfl rfl rfl (v_move (v := (Value.int .i64 v)) rfl) ?_
      obtain ⟨hx, h⟩ := h
      refine rp_q rfl rfl rfl (v_iaddr rfl rfl Try.underlying30 info_3 (rd_ix (hS.rdr 0 rfl) hx)) ?_
      refine rp_q rfl rfl rfl (v_load (v := (Value.int .i64 (gi s1 v.toNat))) rfl Try.underlying3 rfl (rd_1 (hS.rdr 0 rfl) hx (fun q => gi_some q) rfl)) ?_
      refine rp_q rfl rfl rfl (v_move (v := (Value.slice As2 ls2 cs2)) hE1) ?_
      refine rp_q rfl rfl rfl (v_move (v := (Value.int .i64 v)) rfl) ?_
      obtain ⟨hx2, h⟩ := h
      refine rp_q rfl rfl rfl (v_iaddr rfl rfl Try.underlying30 info_3 (rd_ix (hS.rdr 1 rfl) hx2)) ?_
      refine rp_q rfl rfl rfl (v_load (v := (Value.int .i64 (gi s2 v.toNat))) rfl Try.underlying3 rfl (rd_1 (hS.rdr 1 rfl) hx2 (fun q => gi_some q) rfl)) ?_
      refine rp_q rfl rfl rfl (v_neq rfl rfl) ?_
      refine rp_end ?_
      by_cases hp3 : (gi s1 v.toNat) = (gi s2 v.toNat)
      · replace h := h.1 hp3
        refine wt_cond_f (congrArg Value.bool (congrArg Bool.not (decide_eq_true hp3))) ?_
        refine wt_skip ?_
        refine wt_inBlock ?_
        refine wl_region wd_wide ?_
        obtain ⟨hi, h⟩ := h
        refine rl_q rfl rfl rfl (v_add hE13 rfl hi) ?_
        refine rl_q rfl rfl rfl (v_move (v := (Value.int .i64 (v + 1))) rfl) ?_
        refine rl_end ?_
        obtain ⟨mq, hlt, h⟩ := h
        exact again mq _ _ _ ⟨_, h, rfl, hE0, hE1, hE12, rfl, (hS.sel [0, 1] (by decide))⟩ hlt
      · replace h := h.2 hp3
        refine wt_cond_t (congrArg Value.bool (congrArg Bool.not (decide_eq_false hp3))) ?_
        refine wt_seq ?_
        refine wl_region wd_wide ?_
        refine rl_q rfl rfl rfl (v_assign (v := (Value.bool (false))) rfl) ?_
        refine rl_end ?_
        exact wt_ret1 rfl rfl ⟨_, rfl, (hS.sel [] (by decide)), h⟩
    · replace h := h.2 hp2
      refine wt_cond_f (congrArg Value.bool (decide_eq_false hp2)) ?_
      refine wt_exit rfl ?_
      refine wt_seq ?_
      refine wl_region wd_wide ?_
      refine rl_q rfl rfl rfl (v_assign (v := (Value.bool (true))) rfl) ?_
      refine rl_end ?_
      exact wt_ret1 rfl rfl ⟨_, rfl, (hS.sel [] (by decide)), h⟩
  · replace h := h.2 hp
    refine wt_cond_t (congrArg Value.bool (congrArg Bool.not (decide_eq_false hp))) ?_
    refine wt_seq ?_
    refine wl_region wd_wide ?_
    refine rl_q rfl rfl rfl (v_assign (v := (Value.bool (false))) rfl) ?_
    refine rl_end ?_
    exact wt_ret1 rfl rfl ⟨_, rfl, (hS.sel [] (by decide)), h⟩

/-- slices.Equal[[]int,int]: what it computes. -/
def pf_slices_Equal_intS (s1 : List Int) (s2 : List Int) (R : Bool → Prop) : Prop :=
((((s1.length : Nat) : Int) = ((s2.length : Nat) : Int) →
(∃ I2 : Nat → Int → Prop, (∃ m0, I2 m0 0) ∧ ∀ (m2 : Nat) (v : Int), I2 m2 v → 
((v < ((s1.length : Nat) : Int) →
((0 ≤ v ∧ v < ((s1.length : Nat) : Int)) ∧
((0 ≤ v ∧ v < ((s2.length : Nat) : Int)) ∧
(((gi s1 v.toNat) = (gi s2 v.toNat) →
(In64 (v + 1) ∧
∃ m3, m3 < m2 ∧ I2 m3 (v + 1))) ∧
(¬ ((gi s1 v.toNat) = (gi s2 v.toNat)) →
R false))))) ∧
(¬ (v < ((s1.length : Nat) : Int)) →
R true)))) ∧
(¬ (((s1.length : Nat) : Int) = ((s2.length : Nat) : Int)) →
R false))
theorem pok_slices_Equal_intS {O : Nat → Prop} {w : World} {s1 : List Int} {s2 : List Int} {As1 : Option Addr} {ls1 : Nat} {cs1 : Nat} {As2 : Option Addr} {ls2 : Nat} {cs2 : Nat} {R : Bool → Prop} (h : pf_slices_Equal_intS s1 s2 R) (hO : ∀ k, O k → k < w.heap.size) (a0 : (FP.sl cI As1 ls1 cs1 s1).P O w) (a1 : (FP.sl cI As2 ls2 cs2 s2).P O w) :
    Calls Try.prog 33 #[(Value.slice As1 ls1 cs1), (Value.slice As2 ls2 cs2)] w fun e w' => ∃ r : Bool, e = .returned (Value.bool (r)) ∧ Sep w no O w' (rl []) ∧ R r := by
  unfold pf_slices_Equal_intS at h
  have hS : Sep w no O w (rl [Res.ro (FP.sl cI As1 ls1 cs1 s1), Res.ro (FP.sl cI As2 ls2 cs2 s2)]) := Sep.startl hO [(FP.sl cI As1 ls1 cs1 s1), (FP.sl cI As2 ls2 cs2 s2)] ⟨a0, a1, trivial⟩
  refine calls_sh (l := [(Value.slice As1 ls1 cs1), (Value.slice As2 ls2 cs2)]) Try.func33 rfl Try.ntmps33 (Nat.le_of_ble_eq_true rfl) ?_
  refine wt_seq ?_
  refine wl_region wd_wide ?_
  refine rl_q rfl rfl rfl (v_assign (v := (Value.bool (false))) rfl) ?_
  refine rl_end ?_
  refine wt_seq ?_
  refine wt_seq ?_
  refine wl_region wd_wide ?_
  refine rl_q rfl rfl rfl (v_move (v := (Value.slice As1 ls1 cs1)) rfl) ?_
  refine rl_q rfl rfl rfl (v_lenx (n := s1.length) rfl Try.underlying25 (rd_len (hS.rdr 0 rfl))) ?_
  refine rl_q rfl rfl rfl (v_move (v := (Value.slice As2 ls2 cs2)) rfl) ?_
  refine rl_q rfl rfl rfl (v_lenx (n := s2.length) rfl Try.underlying25 (rd_len (hS.rdr 1 rfl))) ?_
  refine rl_q rfl rfl rfl (v_neq rfl rfl) ?_
  refine rl_end ?_
  by_cases hp : ((s1.length : Nat) : Int) = ((s2.length : Nat) : Int)
  · replace h := h.1 hp
    refine wt_cond_f (congrArg Value.bool (congrArg Bool.not (decide_eq_true hp))) ?_
    refine wt_skip ?_
    refine wt_seq ?_
    refine wt_seq ?_
    refine wl_region wd_wide ?_
    refine rl_q rfl rfl rfl (v_move (v := (Value.slice As1 ls1 cs1)) rfl) ?_
    refine rl_q rfl rfl rfl (v_lenx (n := s1.length) rfl Try.underlying25 (rd_len (hS.rdr 0 rfl))) ?_
    refine rl_q rfl rfl rfl (v_move (v := (Value.int .i64 0)) rfl) ?_
    refine rl_end ?_
    refine wt_block ?_
    obtain ⟨I2, ⟨m0, h0⟩, hr⟩ := h
    refine wt_loop (fun m E ds w' => ∃ v : Int, I2 m v ∧ ds = [] ∧ E 0 = (Value.slice As1 ls1 cs1) ∧ E 1 = (Value.slice As2 ls2 cs2) ∧ E 12 = (Value.int .i64 ((s1.length : Nat) : Int)) ∧ E 13 = (Value.int .i64 v) ∧ Sep w no O w' (rl [Res.ro (FP.sl cI As1 ls1 cs1 s1), Res.ro (FP.sl cI As2 ls2 cs2 s2)])) m0 ⟨_, h0, rfl, rfl, rfl, rfl, rfl, (hS.sel [0, 1] (by decide))⟩ ?_
    clear h0 hS
    rintro m2 E ds w2 ⟨v, h, rfl, hE0, hE1, hE12, hE13, hS⟩ again
    replace h := hr m2 v h
    clear hr
    refine wt_seq ?_
    refine wl_region wd_wide ?_
    refine rl_q rfl rfl rfl (v_lss hE13 hE12) ?_
    refine rl_end ?_
    refine wt_seq ?_
    by_cases hp2 : v < ((s1.length : Nat) : Int)
    · replace h := h.1 hp2
      refine wt_cond_t (congrArg Value.bool (decide_eq_true hp2)) ?_
      refine wt_skip ?_
      refine wt_seq ?_
      refine wt_block ?_
      refine wt_seq ?_
      refine wl_region wd_wide ?_
      refine rl_q rfl rfl rfl (v_move (v := (Value.int .i64 v)) hE13) ?_
      refine rl_q rfl rfl rfl (v_assign (v := (Value.int .i64 v)) rfl) ?_
      refine rl_end ?_
      refine wt_seq ?_
      refine wp_draw [0, 1, 2, 3, 4, 5, 6, 7, 8] st0 wd_wide (by kernel_rfl) (by kernel_rfl) ?_
      replace hS := hS.drew
      refine rp_q rfl rfl rfl (v_move (v := (Value.slice As1 ls1 cs1)) hE0) ?_
      refine rp_q rfl rfl rfl (v_move (v := (Value.int .i64 v)) rfl) ?_
      obtain ⟨hx, h⟩ := h
      refine rp_q rfl rfl rfl (v_iaddr rfl rfl Try.underlying25 info_3 (rd_ix (hS.rdr 0 rfl) hx)) ?_
      refine rp_q rfl rfl rfl (v_load (v := (Value.int .i64 (gi s1 v.toNat))) rfl Try.underlying3 rfl (rd_1 (hS.rdr 0 rfl) hx (fun q => gi_some q) rfl)) ?_
      refine rp_q rfl rfl rfl (v_move (v := (Value.slice As2 ls2 cs2)) hE1) ?_
      refine rp_q rfl rfl rfl (v_move (v := (Value.int .i64 v)) rfl) ?_
      obtain ⟨hx2, h⟩ := h
      refine rp_q rfl rfl rfl (v_iaddr rfl rfl Try.underlying25 info_3 (rd_ix (hS.rdr 1 rfl) hx2)) ?_
      refine rp_q rfl rfl rfl (v_load (v := (Value.int .i64 (gi s2 v.toNat))) rfl Try.underlying3 rfl (rd_1 (hS.rdr 1 rfl) hx2 (fun q => gi_some q) rfl)) ?_
      refine rp_q rfl rfl rfl (v_neq rfl rfl) ?_
      refine rp_end ?_
      by_cases hp3 : (gi s1 v.toNat) = (gi s2 v.toNat)
      · replace h := h.1 hp3
        refine wt_cond_f (congrArg Value.bool (congrArg Bool.not (decide_eq_true hp3))) ?_
        refine wt_skip ?_
        refine wt_inBlock ?_
        refine wl_region wd_wide ?_
        obtain ⟨hi, h⟩ := h
        refine rl_q rfl rfl rfl (v_add hE13 rfl hi) ?_
        refine rl_q rfl rfl rfl (v_move (v := (Value.int .i64 (v + 1))) rfl) ?_
        refine rl_end ?_
        obtain ⟨mq, hlt, h⟩ := h
        exact again mq _ _ _ ⟨_, h, rfl, hE0, hE1, hE12, rfl, (hS.sel [0, 1] (by decide))⟩ hlt
      · replace h := h.2 hp3
        refine wt_cond_t (congrArg Value.bool (congrArg Bool.not (decide_eq_false hp3))) ?_
        refine wt_seq ?_
        refine wl_region wd_wide ?_
        refine rl_q rfl rfl rfl (v_assign (v := (Value.bool (false))) rfl) ?_
        refine rl_end ?_
        exact wt_ret1 rfl rfl ⟨_, rfl, (hS.sel [] (by decide)), h⟩
    · replace h := h.2 hp2
      refine wt_cond_f (congrArg Value.bool (decide_eq_false hp2)) ?_
      refine wt_exit rfl ?_
      refine wt_seq ?_
      refine wl_region wd_wide ?_
      refine rl_q rfl rfl rfl (v_assign (v := (Value.bool (true))) rfl) ?_
      refine rl_end ?_
      exact wt_ret1 rfl rfl ⟨_, rfl, (hS.sel [] (by decide)), h⟩
  · replace h := h.2 hp
    refine wt_cond_t (congrArg Value.bool (congrArg Bool.not (decide_eq_false hp))) ?_
    refine wt_seq ?_
    refine wl_region wd_wide ?_
    refine rl_q rfl rfl rfl (v_assign (v := (Value.bool (false))) rfl) ?_
    refine rl_end ?_
    exact wt_ret1 rfl rfl ⟨_, rfl, (hS.sel [] (by decide)), h⟩

/-- slices.Clone[sandpile/api.Divisor,int]: what it computes. -/
def pf_slices_Clone_Divisor (s : List Int) (R : (List Int) → Prop) : Prop :=
(∀ nil : Bool, (nil = true → s = []) →
((nil = true →
R ([])) ∧
(¬ (nil = true) →
(0 + s.length ≤ 1000000000 ∧
R ([] ++ s)))))
theorem pok_slices_Clone_Divisor {O : Nat → Prop} {w : World} {s : List Int} {As : Option Addr} {ls : Nat} {cs : Nat} {R : (List Int) → Prop} (h : pf_slices_Clone_Divisor s R) (hO : ∀ k, O k → k < w.heap.size) (a0 : (FP.sl cI As ls cs s).P O w) :
    Calls Try.prog 22 #[(Value.slice As ls cs)] w fun e w' => ∃ r : List Int, ∃ Ar : Option Addr, ∃ lr : Nat, ∃ cr : Nat, e = .returned (Value.slice Ar lr cr) ∧ Sep w no O w' (rl [Res.own cI 3 Ar lr cr r]) ∧ R r := by
  unfold pf_slices_Clone_Divisor at h
  have hS : Sep w no O w (rl [Res.ro (FP.sl cI As ls cs s)]) := Sep.startl hO [(FP.sl cI As ls cs s)] ⟨a0, trivial⟩
  refine calls_sh (l := [(Value.slice As ls cs)]) Try.func22 rfl Try.ntmps22 (Nat.le_of_ble_eq_true rfl) ?_
  refine wt_seq ?_
  refine wl_region wd_wide ?_
  refine rl_q rfl rfl rfl (v_assign (v := (Value.slice none 0 0)) rfl) ?_
  refine rl_end ?_
  refine wt_seq ?_
  refine wt_seq ?_
  refine wl_region wd_wide ?_
  refine rl_q rfl rfl rfl (v_move (v := (Value.slice As ls cs)) rfl) ?_
  obtain ⟨nil, hn⟩ : ∃ b, Option.isNone As = b := ⟨_, rfl⟩
  replace h := h nil (by rw [← hn]; exact rd_nil (hS.rdr 0 rfl))
  refine rl_q rfl rfl rfl (v_seqlx rfl rfl Try.underlying26 hn) ?_
  refine rl_end ?_
  by_cases hp : nil = true
  · replace h := h.1 hp
    refine wt_cond_t (congrArg Value.bool hp) ?_
    refine wt_seq ?_
    refine wl_region wd_wide ?_
    refine rl_q rfl rfl rfl (v_assign (v := (Value.slice none 0 0)) rfl) ?_
    refine rl_end ?_
    replace hS := hS.nil 1 rfl cI 3
    exact wt_ret1 rfl rfl ⟨_, _, _, _, rfl, (hS.sel [1] (by decide)), h⟩
  · replace h := h.2 hp
    refine wt_cond_f (congrArg Value.bool (Bool.eq_false_iff.2 hp)) ?_
    refine wt_skip ?_
    refine wt_seq ?_
    refine wl_region wd_wide ?_
    refine rl_n rfl rfl rfl rfl (n_bslice (l := []) (cells := []) (bp0) Try.underlying26 info_3 rfl rfl ?_)
    intro g w2 hN
    replace hS := hS.litf (n := 0) 1 rfl (fI .i64) hN ([] : List Int) rfl (by decide) rfl
    clear hN
    refine ⟨Stb.none _, ?_⟩
    refine rl_q rfl rfl rfl (v_move (v := (Value.slice As ls cs)) rfl) ?_
    obtain ⟨hx, h⟩ := h
    refine rl_n rfl rfl rfl rfl (n_app (c := cI) rfl rfl Try.underlying26 Try.underlying26 info_3 rfl rfl (by decide) hS 1 rfl (hS.yr 0 rfl) hx ?_)
    clear hS
    intro A c w3 hS
    refine ⟨Stb.none _, ?_⟩
    refine rl_q rfl rfl rfl (v_assign (v := (Value.slice A (0 + ls) c)) rfl) ?_
    refine rl_end ?_
    exact wt_ret1 rfl rfl ⟨_, _, _, _, rfl, (hS.sel [1] (by decide)), h⟩
end Go.Proofs.Ytnhmeckhlajeaaa

/- Pure forms of functions, made by program (pf.py), each with the proof that the code does so. -/
namespace Go.Proofs.Ytnhmeckhlajeaaa
open Go Go.RowKit Go.Shelf
set_option linter.unusedVariables false
set_option maxRecDepth 100000
set_option maxHeartbeats 1000000
/-- sandpile/sandpileref25.out: what it computes. -/
def pf_r25_out (g : Int) (g2 : List (Int × Int × Int)) (set2 : Int) (v : Int) (R : Int → Prop) : Prop :=
(∃ I2 : Nat → Int → Int → Prop, (∃ m0, I2 m0 0 0) ∧ ∀ (m2 : Nat) (n : Int) (u : Int), I2 m2 n u → 
((u < g →
(∃ J2 : Prop, (J2 → pf_r08_Between g g2 u v (fun (r : Int) =>
(In64 (n + r) ∧
(In64 (u + 1) ∧
∃ m3, m3 < m2 ∧ I2 m3 (n + r) (u + 1))))) ∧
((u = v →
(In64 (u + 1) ∧
∃ m4, m4 < m2 ∧ I2 m4 n (u + 1))) ∧
(¬ (u = v) →
((0 ≤ u ∧ u < 64) ∧
((0 ≤ (set2 / 2 ^ u.toNat) ∧ (set2 / 2 ^ u.toNat) < 9223372036854775808 ∧ 0 ≤ (1 : Int) ∧ (1 : Int) < 9223372036854775808) ∧
(((((set2 / 2 ^ u.toNat).toNat &&& (1 : Int).toNat : Nat) : Int) = 0 →
J2) ∧
(¬ ((((set2 / 2 ^ u.toNat).toNat &&& (1 : Int).toNat : Nat) : Int) = 0) →
(In64 (u + 1) ∧
∃ m5, m5 < m2 ∧ I2 m5 n (u + 1)))))))))) ∧
(¬ (u < g) →
R n)))
theorem pok_r25_out {O : Nat → Prop} {w : World} {g : Int} {g2 : List (Int × Int × Int)} {set2 : Int} {v : Int} {Ag : Option Addr} {lg : Nat} {cg : Nat} {R : Int → Prop} (h : pf_r25_out g g2 set2 v R) (hO : ∀ k, O k → k < w.heap.size) (a0 : (FP.sl c3 Ag lg cg g2).P O w) :
    Calls Try.prog 157 #[(Value.agg #[(Value.int .i64 g), (Value.slice Ag lg cg)]), (Value.int .i64 set2), (Value.int .i64 v)] w fun e w' => ∃ r2 : Int, e = .returned (Value.int .i64 r2) ∧ Sep w no O w' (rl []) ∧ R r2 := by
  unfold pf_r25_out at h
  have hS : Sep w no O w (rl [Res.ro (FP.sl c3 Ag lg cg g2)]) := Sep.startl hO [(FP.sl c3 Ag lg cg g2)] ⟨a0, trivial⟩
  refine calls_sh (l := [(Value.agg #[(Value.int .i64 g), (Value.slice Ag lg cg)]), (Value.int .i64 set2), (Value.int .i64 v)]) Try.func157 rfl Try.ntmps157 (Nat.le_of_ble_eq_true rfl) ?_
  refine wt_seq ?_
  refine wl_region wd_wide ?_
  refine rl_n rfl rfl rfl rfl (n_box (v := (Value.agg #[(Value.int .i64 g), (Value.slice Ag lg cg)])) rfl ?_)
  intro g3 w2 hN
  replace hS : Sep w no O w2 (stl _ 1 (Res.box 24 g3 [(Value.int .i64 g), (Value.slice Ag lg cg)])) := hS.new 1 rfl hN
  clear hN
  refine ⟨Stb.none _, ?_⟩
  refine rl_q rfl rfl rfl (v_assign (v := (Value.int .i64 0)) rfl) ?_
  refine rl_end ?_
  refine wt_seq ?_
  refine wl_region wd_wide ?_
  refine rl_q rfl rfl rfl (v_assign (v := (Value.int .i64 0)) rfl) ?_
  refine rl_end ?_
  refine wt_seq ?_
  refine wt_seq ?_
  refine wl_region wd_wide ?_
  refine rl_q rfl rfl rfl (v_assign (v := (Value.int .i64 0)) rfl) ?_
  refine rl_end ?_
  refine wt_block ?_
  obtain ⟨I2, ⟨m0, h0⟩, hr⟩ := h
  refine wt_loop (fun m E ds w' => ∃ n : Int, ∃ u : Int, I2 m n u ∧ ds = [] ∧ E 1 = (Value.int .i64 set2) ∧ E 2 = (Value.int .i64 v) ∧ E 3 = (Value.pointer (some (⟨g3, 0, none⟩ : Addr))) ∧ E 7 = (Value.int .i64 n) ∧ E 8 = (Value.int .i64 u) ∧ Sep w no O w' (rl [Res.box 24 g3 [(Value.int .i64 g), (Value.slice Ag lg cg)], Res.ro (FP.sl c3 Ag lg cg g2)])) m0 ⟨_, _, h0, rfl, rfl, rfl, rfl, rfl, rfl, (hS.sel [1, 0] (by decide))⟩ ?_
  clear h0 hS
  rintro m2 E ds w3 ⟨n, u, h, rfl, hE1, hE2, hE3, hE7, hE8, hS⟩ again
  replace h := hr m2 n u h
  clear hr
  refine wt_seq ?_
  refine wt_seq ?_
  refine wl_region wd_wide ?_
  refine rl_q rfl rfl rfl (v_move (v := (Value.int .i64 u)) hE8) ?_
  refine rl_q rfl rfl rfl (v_faddr hE3 Try.underlying24 rfl info_3) ?_
  refine rl_q rfl rfl rfl (v_load rfl Try.underlying3 rfl (Row.cell (hS.bx 0 rfl) (i := 0) rfl)) ?_
  refine rl_q rfl rfl rfl (v_lss rfl rfl) ?_
  refine rl_end ?_
  by_cases hp : u < g
  · replace h := h.1 hp
    refine wt_cond_t (congrArg Value.bool (decide_eq_true hp)) ?_
    refine wt_skip ?_
    refine wt_seq ?_
    refine wt_block ?_
    refine wt_seq ?_
    obtain ⟨J2, hJ, h⟩ := h
    refine wt_cutA1 (fun E ds w' => J2 ∧ ds = [] ∧ E 1 = (Value.int .i64 set2) ∧ E 2 = (Value.int .i64 v) ∧ E 3 = (Value.pointer (some (⟨g3, 0, none⟩ : Addr))) ∧ E 7 = (Value.int .i64 n) ∧ E 8 = (Value.int .i64 u) ∧ Sep w no O w' (rl [Res.box 24 g3 [(Value.int .i64 g), (Value.slice Ag lg cg)], Res.ro (FP.sl c3 Ag lg cg g2)])) ?_ ?_
    · clear h hS
      rintro E ds w4 ⟨h, rfl, hE1, hE2, hE3, hE7, hE8, hS⟩
      replace h := hJ h
      refine wl_region wd_wide ?_
      refine rl_q rfl rfl rfl (v_move (v := (Value.int .i64 n)) hE7) ?_
      refine rl_q rfl rfl rfl (v_loadn (vs := [(Value.int .i64 g), (Value.slice Ag lg cg)]) hE3 Try.underlying24 rfl info_24 ⟨Row.cell (hS.bx 0 rfl) (i := 0) rfl, Row.cell (hS.bx 0 rfl) (i := 1) rfl, trivial⟩) ?_
      refine rl_q rfl rfl rfl (v_move (v := (Value.int .i64 u)) hE8) ?_
      refine rl_q rfl rfl rfl (v_move (v := (Value.int .i64 v)) hE2) ?_
      refine rl_n rfl rfl rfl rfl (n_call0 rfl (am3 rfl rfl rfl) enter_136 ((pok_r08_Between h (no_lt _) (hS.rdr 1 rfl)).mono ?_))
      rintro _ w5 ⟨r, rfl, hC, h⟩
      replace hS := hS.pur hC.pure
      clear hC
      refine ⟨_, rfl, ?_⟩
      refine ⟨Stb.none _, ?_⟩
      obtain ⟨hi, h⟩ := h
      refine rl_q rfl rfl rfl (v_add rfl rfl hi) ?_
      refine rl_q rfl rfl rfl (v_assign (v := (Value.int .i64 (n + r))) rfl) ?_
      refine rl_end ?_
      refine wt_inBlock ?_
      refine wl_region wd_wide ?_
      refine rl_q rfl rfl rfl (v_move (v := (Value.int .i64 u)) hE8) ?_
      obtain ⟨hi2, h⟩ := h
      refine rl_q rfl rfl rfl (v_add rfl rfl hi2) ?_
      refine rl_q rfl rfl rfl (v_assign (v := (Value.int .i64 (u + 1))) rfl) ?_
      refine rl_end ?_
      obtain ⟨mq, hlt, h⟩ := h
      exact again mq _ _ _ ⟨_, _, h, rfl, hE1, hE2, hE3, rfl, rfl, (hS.sel [0, 1] (by decide))⟩ hlt
    clear hJ
    intro j
    refine wl_region wd_wide ?_
    refine rl_q rfl rfl rfl (v_move (v := (Value.int .i64 u)) hE8) ?_
    refine rl_q rfl rfl rfl (v_move (v := (Value.int .i64 v)) hE2) ?_
    refine rl_q rfl rfl rfl (v_neq rfl rfl) ?_
    refine rl_q rfl rfl rfl (v_move (v := (Value.bool (!(decide (u = v))))) rfl) ?_
    by_cases hp2 : u = v
    · replace h := h.1 hp2
      refine rl_p (wanted_n rfl (yE_of rfl (congrArg Value.bool (congrArg Bool.not (decide_eq_true hp2)))) rfl) rfl ?_
      refine rl_p (wanted_n rfl (yE_of rfl (congrArg Value.bool (congrArg Bool.not (decide_eq_true hp2)))) rfl) rfl ?_
      refine rl_p (wanted_n rfl (yE_of rfl (congrArg Value.bool (congrArg Bool.not (decide_eq_true hp2)))) rfl) rfl ?_
      refine rl_p (wanted_n rfl (yE_of rfl (congrArg Value.bool (congrArg Bool.not (decide_eq_true hp2)))) rfl) rfl ?_
      refine rl_p (wanted_n rfl (yE_of rfl (congrArg Value.bool (congrArg Bool.not (decide_eq_true hp2)))) rfl) rfl ?_
      refine rl_q rfl rfl rfl (v_pick_f (v := (Value.bool (false))) (congrArg Value.bool (congrArg Bool.not (decide_eq_true hp2))) rfl) ?_
      refine rl_end ?_
      refine wt_cond_f rfl ?_
      refine wt_skip ?_
      refine wt_inBlock ?_
      refine wl_region wd_wide ?_
      refine rl_q rfl rfl rfl (v_move (v := (Value.int .i64 u)) hE8) ?_
      obtain ⟨hi3, h⟩ := h
      refine rl_q rfl rfl rfl (v_add rfl rfl hi3) ?_
      refine rl_q rfl rfl rfl (v_assign (v := (Value.int .i64 (u + 1))) rfl) ?_
      refine rl_end ?_
      obtain ⟨mq, hlt, h⟩ := h
      exact again mq _ _ _ ⟨_, _, h, rfl, hE1, hE2, hE3, hE7, rfl, (hS.sel [0, 1] (by decide))⟩ hlt
    · replace h := h.2 hp2
      refine rl_q (wanted_g rfl (yE_of rfl (congrArg Value.bool (congrArg Bool.not (decide_eq_false hp2))))) rfl rfl (v_move (v := (Value.int .i64 set2)) hE1) ?_
      refine rl_q (wanted_g rfl (yE_of rfl (congrArg Value.bool (congrArg Bool.not (decide_eq_false hp2))))) rfl rfl (v_move (v := (Value.int .i64 u)) hE8) ?_
      obtain ⟨hz, h⟩ := h
      refine rl_q (wanted_g rfl (yE_of rfl (congrArg Value.bool (congrArg Bool.not (decide_eq_false hp2))))) rfl rfl (v_shr rfl rfl hz) ?_
      obtain ⟨hz2, h⟩ := h
      refine rl_q (wanted_g rfl (yE_of rfl (congrArg Value.bool (congrArg Bool.not (decide_eq_false hp2))))) rfl rfl (v_andb rfl rfl hz2) ?_
      refine rl_q (wanted_g rfl (yE_of rfl (congrArg Value.bool (congrArg Bool.not (decide_eq_false hp2))))) rfl rfl (v_eql rfl rfl) ?_
      refine rl_q rfl rfl rfl (v_pick_t (v := (Value.bool (decide ((((set2 / 2 ^ u.toNat).toNat &&& (1 : Int).toNat : Nat) : Int) = 0)))) (congrArg Value.bool (congrArg Bool.not (decide_eq_false hp2))) rfl) ?_
      refine rl_end ?_
      by_cases hp3 : (((set2 / 2 ^ u.toNat).toNat &&& (1 : Int).toNat : Nat) : Int) = 0
      · replace h := h.1 hp3
        refine wt_cond_t (congrArg Value.bool (decide_eq_true hp3)) ?_
        exact j _ _ _ ⟨h, rfl, hE1, hE2, hE3, hE7, hE8, (hS.sel [0, 1] (by decide))⟩
      · replace h := h.2 hp3
        refine wt_cond_f (congrArg Value.bool (decide_eq_false hp3)) ?_
        refine wt_skip ?_
        refine wt_inBlock ?_
        refine wl_region wd_wide ?_
        refine rl_q rfl rfl rfl (v_move (v := (Value.int .i64 u)) hE8) ?_
        obtain ⟨hi4, h⟩ := h
        refine rl_q rfl rfl rfl (v_add rfl rfl hi4) ?_
        refine rl_q rfl rfl rfl (v_assign (v := (Value.int .i64 (u + 1))) rfl) ?_
        refine rl_end ?_
        obtain ⟨mq, hlt, h⟩ := h
        exact again mq _ _ _ ⟨_, _, h, rfl, hE1, hE2, hE3, hE7, rfl, (hS.sel [0, 1] (by decide))⟩ hlt
  · replace h := h.2 hp
    refine wt_cond_f (congrArg Value.bool (decide_eq_false hp)) ?_
    refine wt_exit rfl ?_
    refine wt_seq ?_
    refine wl_region wd_wide ?_
    refine rl_q rfl rfl rfl (v_move (v := (Value.int .i64 n)) hE7) ?_
    refine rl_q rfl rfl rfl (v_assign (v := (Value.int .i64 n)) rfl) ?_
    refine rl_end ?_
    exact wt_ret1 rfl rfl ⟨_, rfl, (hS.sel [] (by decide)), h⟩

/-- sandpile/sandpileref25.May: what it computes. -/
def pf_r25_May (g : Int) (g2 : List (Int × Int × Int)) (d : List Int) (set2 : Int) (R : Bool → Prop) : Prop :=
(∃ I2 : Nat → Int → Prop, (∃ m0, I2 m0 0) ∧ ∀ (m2 : Nat) (v : Int), I2 m2 v → 
((v < g →
((0 ≤ v ∧ v < 64) ∧
((0 ≤ (set2 / 2 ^ v.toNat) ∧ (set2 / 2 ^ v.toNat) < 9223372036854775808 ∧ 0 ≤ (1 : Int) ∧ (1 : Int) < 9223372036854775808) ∧
(((((set2 / 2 ^ v.toNat).toNat &&& (1 : Int).toNat : Nat) : Int) = 1 →
((0 ≤ v ∧ v < ((d.length : Nat) : Int)) ∧
pf_r25_out g g2 set2 v (fun (r : Int) =>
(((gi d v.toNat) < r →
R false) ∧
(¬ ((gi d v.toNat) < r) →
(In64 (v + 1) ∧
∃ m3, m3 < m2 ∧ I2 m3 (v + 1))))))) ∧
(¬ ((((set2 / 2 ^ v.toNat).toNat &&& (1 : Int).toNat : Nat) : Int) = 1) →
(In64 (v + 1) ∧
∃ m4, m4 < m2 ∧ I2 m4 (v + 1))))))) ∧
(¬ (v < g) →
R true)))
theorem pok_r25_May {O : Nat → Prop} {w : World} {g : Int} {g2 : List (Int × Int × Int)} {d : List Int} {set2 : Int} {Ag : Option Addr} {lg : Nat} {cg : Nat} {Ad : Option Addr} {ld : Nat} {cd : Nat} {R : Bool → Prop} (h : pf_r25_May g g2 d set2 R) (hO : ∀ k, O k → k < w.heap.size) (a0 : (FP.sl c3 Ag lg cg g2).P O w) (a1 : (FP.sl cI Ad ld cd d).P O w) :
    Calls Try.prog 125 #[(Value.agg #[(Value.int .i64 g), (Value.slice Ag lg cg)]), (Value.slice Ad ld cd), (Value.int .i64 set2)] w fun e w' => ∃ r2 : Bool, e = .returned (Value.bool (r2)) ∧ Sep w no O w' (rl []) ∧ R r2 := by
  unfold pf_r25_May at h
  have hS : Sep w no O w (rl [Res.ro (FP.sl c3 Ag lg cg g2), Res.ro (FP.sl cI Ad ld cd d)]) := Sep.startl hO [(FP.sl c3 Ag lg cg g2), (FP.sl cI Ad ld cd d)] ⟨a0, a1, trivial⟩
  refine calls_sh (l := [(Value.agg #[(Value.int .i64 g), (Value.slice Ag lg cg)]), (Value.slice Ad ld cd), (Value.int .i64 set2)]) Try.func125 rfl Try.ntmps125 (Nat.le_of_ble_eq_true rfl) ?_
  refine wt_seq ?_
  refine wl_region wd_wide ?_
  refine rl_n rfl rfl rfl rfl (n_box (v := (Value.agg #[(Value.int .i64 g), (Value.slice Ag lg cg)])) rfl ?_)
  intro g3 w2 hN
  replace hS : Sep w no O w2 (stl _ 2 (Res.box 24 g3 [(Value.int .i64 g), (Value.slice Ag lg cg)])) := hS.new 2 rfl hN
  clear hN
  refine ⟨Stb.none _, ?_⟩
  refine rl_q rfl rfl rfl (v_assign (v := (Value.bool (false))) rfl) ?_
  refine rl_end ?_
  refine wt_seq ?_
  refine wt_seq ?_
  refine wl_region wd_wide ?_
  refine rl_q rfl rfl rfl (v_assign (v := (Value.int .i64 0)) rfl) ?_
  refine rl_end ?_
  refine wt_block ?_
  obtain ⟨I2, ⟨m0, h0⟩, hr⟩ := h
  refine wt_loop (fun m E ds w' => ∃ v : Int, I2 m v ∧ ds = [] ∧ E 1 = (Value.slice Ad ld cd) ∧ E 2 = (Value.int .i64 set2) ∧ E 3 = (Value.pointer (some (⟨g3, 0, none⟩ : Addr))) ∧ E 7 = (Value.int .i64 v) ∧ Sep w no O w' (rl [Res.ro (FP.sl cI Ad ld cd d), Res.box 24 g3 [(Value.int .i64 g), (Value.slice Ag lg cg)], Res.ro (FP.sl c3 Ag lg cg g2)])) m0 ⟨_, h0, rfl, rfl, rfl, rfl, rfl, (hS.sel [1, 2, 0] (by decide))⟩ ?_
  clear h0 hS
  rintro m2 E ds w3 ⟨v, h, rfl, hE1, hE2, hE3, hE7, hS⟩ again
  replace h := hr m2 v h
  clear hr
  refine wt_seq ?_
  refine wt_seq ?_
  refine wl_region wd_wide ?_
  refine rl_q rfl rfl rfl (v_move (v := (Value.int .i64 v)) hE7) ?_
  refine rl_q rfl rfl rfl (v_faddr hE3 Try.underlying24 rfl info_3) ?_
  refine rl_q rfl rfl rfl (v_load rfl Try.underlying3 rfl (Row.cell (hS.bx 1 rfl) (i := 0) rfl)) ?_
  refine rl_q rfl rfl rfl (v_lss rfl rfl) ?_
  refine rl_end ?_
  by_cases hp : v < g
  · replace h := h.1 hp
    refine wt_cond_t (congrArg Value.bool (decide_eq_true hp)) ?_
    refine wt_skip ?_
    refine wt_seq ?_
    refine wt_block ?_
    refine wt_seq ?_
    refine wp_draw [0, 1, 2, 3, 4, 5, 6, 7, 8, 9, 10, 11, 12, 13, 14, 15] (fun i => match i with | 13 => [6, 7, 8, 9] | _ => []) wd_wide (by kernel_rfl) (by kernel_rfl) ?_
    replace hS := hS.drew
    refine rp_q rfl rfl rfl (v_move (v := (Value.int .i64 set2)) hE2) ?_
    refine rp_q rfl rfl rfl (v_move (v := (Value.int .i64 v)) hE7) ?_
    obtain ⟨hz, h⟩ := h
    refine rp_q rfl rfl rfl (v_shr rfl rfl hz) ?_
    obtain ⟨hz2, h⟩ := h
    refine rp_q rfl rfl rfl (v_andb rfl rfl hz2) ?_
    refine rp_q rfl rfl rfl (v_eql rfl rfl) ?_
    refine rp_q rfl rfl rfl (v_move (v := (Value.bool (decide ((((set2 / 2 ^ v.toNat).toNat &&& (1 : Int).toNat : Nat) : Int) = 1)))) rfl) ?_
    by_cases hp2 : (((set2 / 2 ^ v.toNat).toNat &&& (1 : Int).toNat : Nat) : Int) = 1
    · replace h := h.1 hp2
      refine rp_q (wanted_g rfl (yE_of rfl (congrArg Value.bool (decide_eq_true hp2)))) rfl rfl (v_move (v := (Value.slice Ad ld cd)) hE1) ?_
      refine rp_q (wanted_g rfl (yE_of rfl (congrArg Value.bool (decide_eq_true hp2)))) rfl rfl (v_move (v := (Value.int .i64 v)) hE7) ?_
      obtain ⟨hx, h⟩ := h
      refine rp_q (wanted_g rfl (yE_of rfl (congrArg Value.bool (decide_eq_true hp2)))) rfl rfl (v_iaddr rfl rfl Try.underlying25 info_3 (rd_ix (hS.rdr 0 rfl) hx)) ?_
      refine rp_q (wanted_g rfl (yE_of rfl (congrArg Value.bool (decide_eq_true hp2)))) rfl rfl (v_load (v := (Value.int .i64 (gi d v.toNat))) rfl Try.underlying3 rfl (rd_1 (hS.rdr 0 rfl) hx (fun q => gi_some q) rfl)) ?_
      refine rp_q (wanted_g rfl (yE_of rfl (congrArg Value.bool (decide_eq_true hp2)))) rfl rfl (v_loadn (vs := [(Value.int .i64 g), (Value.slice Ag lg cg)]) hE3 Try.underlying24 rfl info_24 ⟨Row.cell (hS.bx 1 rfl) (i := 0) rfl, Row.cell (hS.bx 1 rfl) (i := 1) rfl, trivial⟩) ?_
      refine rp_q (wanted_g rfl (yE_of rfl (congrArg Value.bool (decide_eq_true hp2)))) rfl rfl (v_move (v := (Value.int .i64 set2)) hE2) ?_
      refine rp_q (wanted_g rfl (yE_of rfl (congrArg Value.bool (decide_eq_true hp2)))) rfl rfl (v_move (v := (Value.int .i64 v)) hE7) ?_
      refine rp_n (wanted_g rfl (yE_of rfl (congrArg Value.bool (decide_eq_true hp2)))) rfl rfl rfl (n_call0 rfl (am3 rfl rfl rfl) enter_157 ((pok_r25_out h (no_lt _) (hS.rdr 2 rfl)).mono ?_))
      rintro _ w4 ⟨r, rfl, hC, h⟩
      replace hS := hS.pur hC.pure
      clear hC
      refine ⟨_, rfl, ?_⟩
      refine ⟨⟨fun hh => Bool.noConfusion (show false = true from hh), ⟨fun hh => Bool.noConfusion (show false = true from hh), ⟨fun hh => Bool.noConfusion (show false = true from hh), ⟨fun _ => (v_load (v := (Value.int .i64 (gi d v.toNat))) rfl Try.underlying3 rfl (rd_1 (hS.rdr 0 rfl) hx (fun q => gi_some q) rfl)), ⟨fun _ => (v_iaddr rfl rfl Try.underlying25 info_3 (rd_ix (hS.rdr 0 rfl) hx)), ⟨fun _ => (v_move (v := (Value.int .i64 v)) hE7), ⟨fun _ => (v_move (v := (Value.slice Ad ld cd)) hE1), ⟨fun hh => Bool.noConfusion (show false = true from hh), ⟨fun hh => Bool.noConfusion (show false = true from hh), ⟨fun hh => Bool.noConfusion (show false = true from hh), ⟨fun hh => Bool.noConfusion (show false = true from hh), ⟨fun hh => Bool.noConfusion (show false = true from hh), ⟨fun hh => Bool.noConfusion (show false = true from hh), trivial⟩⟩⟩⟩⟩⟩⟩⟩⟩⟩⟩⟩⟩, ?_⟩
      refine rp_q (wanted_g rfl (yE_of rfl (congrArg Value.bool (decide_eq_true hp2)))) rfl rfl (v_lss rfl rfl) ?_
      refine rp_q rfl rfl rfl (v_pick_t (v := (Value.bool (decide ((gi d v.toNat) < r)))) (congrArg Value.bool (decide_eq_true hp2)) rfl) ?_
      refine rp_end ?_
      by_cases hp3 : (gi d v.toNat) < r
      · replace h := h.1 hp3
        refine wt_cond_t (congrArg Value.bool (decide_eq_true hp3)) ?_
        refine wt_seq ?_
        refine wl_region wd_wide ?_
        refine rl_q rfl rfl rfl (v_assign (v := (Value.bool (false))) rfl) ?_
        refine rl_end ?_
        exact wt_ret1 rfl rfl ⟨_, rfl, (hS.sel [] (by decide)), h⟩
      · replace h := h.2 hp3
        refine wt_cond_f (congrArg Value.bool (decide_eq_false hp3)) ?_
        refine wt_skip ?_
        refine wt_inBlock ?_
        refine wl_region wd_wide ?_
        refine rl_q rfl rfl rfl (v_move (v := (Value.int .i64 v)) hE7) ?_
        obtain ⟨hi, h⟩ := h
        refine rl_q rfl rfl rfl (v_add rfl rfl hi) ?_
        refine rl_q rfl rfl rfl (v_assign (v := (Value.int .i64 (v + 1))) rfl) ?_
        refine rl_end ?_
        obtain ⟨mq, hlt, h⟩ := h
        exact again mq _ _ _ ⟨_, h, rfl, hE1, hE2, hE3, rfl, (hS.sel [0, 1, 2] (by decide))⟩ hlt
    · replace h := h.2 hp2
      refine rp_p (wanted_n rfl (yE_of rfl (congrArg Value.bool (decide_eq_false hp2))) rfl) rfl ?_
      refine rp_p (wanted_n rfl (yE_of rfl (congrArg Value.bool (decide_eq_false hp2))) rfl) rfl ?_
      refine rp_p (wanted_n rfl (yE_of rfl (congrArg Value.bool (decide_eq_false hp2))) rfl) rfl ?_
      refine rp_p (wanted_n rfl (yE_of rfl (congrArg Value.bool (decide_eq_false hp2))) rfl) rfl ?_
      refine rp_p (wanted_n rfl (yE_of rfl (congrArg Value.bool (decide_eq_false hp2))) rfl) rfl ?_
      refine rp_p (wanted_n rfl (yE_of rfl (congrArg Value.bool (decide_eq_false hp2))) rfl) rfl ?_
      refine rp_p (wanted_n rfl (yE_of rfl (congrArg Value.bool (decide_eq_false hp2))) rfl) rfl ?_
      refine rp_p (wanted_n rfl (yE_of rfl (congrArg Value.bool (decide_eq_false hp2))) rfl) rfl ?_
      refine rp_p (wanted_n rfl (yE_of rfl (congrArg Value.bool (decide_eq_false hp2))) rfl) rfl ?_
      refine rp_q rfl rfl rfl (v_pick_f (v := (Value.bool (false))) (congrArg Value.bool (decide_eq_false hp2)) rfl) ?_
      refine rp_end ?_
      refine wt_cond_f rfl ?_
      refine wt_skip ?_
      refine wt_inBlock ?_
      refine wl_region wd_wide ?_
      refine rl_q rfl rfl rfl (v_move (v := (Value.int .i64 v)) hE7) ?_
      obtain ⟨hi2, h⟩ := h
      refine rl_q rfl rfl rfl (v_add rfl rfl hi2) ?_
      refine rl_q rfl rfl rfl (v_assign (v := (Value.int .i64 (v + 1))) rfl) ?_
      refine rl_end ?_
      obtain ⟨mq, hlt, h⟩ := h
      exact again mq _ _ _ ⟨_, h, rfl, hE1, hE2, hE3, rfl, (hS.sel [0, 1, 2] (by decide))⟩ hlt
  · replace h := h.2 hp
    refine wt_cond_f (congrArg Value.bool (decide_eq_false hp)) ?_
    refine wt_exit rfl ?_
    refine wt_seq ?_
    refine wl_region wd_wide ?_
    refine rl_q rfl rfl rfl (v_assign (v := (Value.bool (true))) rfl) ?_
    refine rl_end ?_
    exact wt_ret1 rfl rfl ⟨_, rfl, (hS.sel [] (by decide)), h⟩

/-- sandpile/sandpileref25.Tight: what it computes. -/
def pf_r25_Tight (g : Int) (g2 : List (Int × Int × Int)) (q : Int) (d : List Int) (R : Bool → Prop) : Prop :=
(∃ I2 : Nat → Int → Prop, (∃ m0, I2 m0 1) ∧ ∀ (m2 : Nat) (set2 : Int), I2 m2 set2 → 
((0 ≤ g ∧ g < 64) ∧
In64 (1 * 2 ^ g.toNat) ∧
((set2 < (1 * 2 ^ g.toNat) →
((0 ≤ q ∧ q < 64) ∧
((0 ≤ (set2 / 2 ^ q.toNat) ∧ (set2 / 2 ^ q.toNat) < 9223372036854775808 ∧ 0 ≤ (1 : Int) ∧ (1 : Int) < 9223372036854775808) ∧
(((((set2 / 2 ^ q.toNat).toNat &&& (1 : Int).toNat : Nat) : Int) = 0 →
pf_r25_May g g2 d set2 (fun (r : Bool) =>
((r = true →
R false) ∧
(¬ (r = true) →
(In64 (set2 + 1) ∧
∃ m3, m3 < m2 ∧ I2 m3 (set2 + 1)))))) ∧
(¬ ((((set2 / 2 ^ q.toNat).toNat &&& (1 : Int).toNat : Nat) : Int) = 0) →
(In64 (set2 + 1) ∧
∃ m4, m4 < m2 ∧ I2 m4 (set2 + 1))))))) ∧
(¬ (set2 < (1 * 2 ^ g.toNat)) →
R true))))
theorem pok_r25_Tight {O : Nat → Prop} {w : World} {g : Int} {g2 : List (Int × Int × Int)} {q : Int} {d : List Int} {Ag : Option Addr} {lg : Nat} {cg : Nat} {Ad : Option Addr} {ld : Nat} {cd : Nat} {R : Bool → Prop} (h : pf_r25_Tight g g2 q d R) (hO : ∀ k, O k → k < w.heap.size) (a0 : (FP.sl c3 Ag lg cg g2).P O w) (a1 : (FP.sl cI Ad ld cd d).P O w) :
    Calls Try.prog 124 #[(Value.agg #[(Value.int .i64 g), (Value.slice Ag lg cg)]), (Value.int .i64 q), (Value.slice Ad ld cd)] w fun e w' => ∃ r2 : Bool, e = .returned (Value.bool (r2)) ∧ Sep w no O w' (rl []) ∧ R r2 := by
  unfold pf_r25_Tight at h
  have hS : Sep w no O w (rl [Res.ro (FP.sl c3 Ag lg cg g2), Res.ro (FP.sl cI Ad ld cd d)]) := Sep.startl hO [(FP.sl c3 Ag lg cg g2), (FP.sl cI Ad ld cd d)] ⟨a0, a1, trivial⟩
  refine calls_sh (l := [(Value.agg #[(Value.int .i64 g), (Value.slice Ag lg cg)]), (Value.int .i64 q), (Value.slice Ad ld cd)]) Try.func124 rfl Try.ntmps124 (Nat.le_of_ble_eq_true rfl) ?_
  refine wt_seq ?_
  refine wl_region wd_wide ?_
  refine rl_n rfl rfl rfl rfl (n_box (v := (Value.agg #[(Value.int .i64 g), (Value.slice Ag lg cg)])) rfl ?_)
  intro g3 w2 hN
  replace hS : Sep w no O w2 (stl _ 2 (Res.box 24 g3 [(Value.int .i64 g), (Value.slice Ag lg cg)])) := hS.new 2 rfl hN
  clear hN
  refine ⟨Stb.none _, ?_⟩
  refine rl_q rfl rfl rfl (v_assign (v := (Value.bool (false))) rfl) ?_
  refine rl_end ?_
  refine wt_seq ?_
  refine wt_seq ?_
  refine wl_region wd_wide ?_
  refine rl_q rfl rfl rfl (v_assign (v := (Value.int .i64 1)) rfl) ?_
  refine rl_end ?_
  refine wt_block ?_
  obtain ⟨I2, ⟨m0, h0⟩, hr⟩ := h
  refine wt_loop (fun m E ds w' => ∃ set2 : Int, I2 m set2 ∧ ds = [] ∧ E 1 = (Value.int .i64 q) ∧ E 2 = (Value.slice Ad ld cd) ∧ E 3 = (Value.pointer (some (⟨g3, 0, none⟩ : Addr))) ∧ E 7 = (Value.int .i64 set2) ∧ Sep w no O w' (rl [Res.ro (FP.sl cI Ad ld cd d), Res.box 24 g3 [(Value.int .i64 g), (Value.slice Ag lg cg)], Res.ro (FP.sl c3 Ag lg cg g2)])) m0 ⟨_, h0, rfl, rfl, rfl, rfl, rfl, (hS.sel [1, 2, 0] (by decide))⟩ ?_
  clear h0 hS
  rintro m2 E ds w3 ⟨set2, h, rfl, hE1, hE2, hE3, hE7, hS⟩ again
  replace h := hr m2 set2 h
  clear hr
  refine wt_seq ?_
  refine wt_seq ?_
  refine wl_region wd_wide ?_
  refine rl_q rfl rfl rfl (v_move (v := (Value.int .i64 set2)) hE7) ?_
  refine rl_q rfl rfl rfl (v_faddr hE3 Try.underlying24 rfl info_3) ?_
  refine rl_q rfl rfl rfl (v_load rfl Try.underlying3 rfl (Row.cell (hS.bx 1 rfl) (i := 0) rfl)) ?_
  obtain ⟨hz, h⟩ := h
  obtain ⟨hi, h⟩ := h
  refine rl_q rfl rfl rfl (v_shl rfl rfl hz hi) ?_
  refine rl_q rfl rfl rfl (v_lss rfl rfl) ?_
  refine rl_end ?_
  by_cases hp : set2 < (1 * 2 ^ g.toNat)
  · replace h := h.1 hp
    refine wt_cond_t (congrArg Value.bool (decide_eq_true hp)) ?_
    refine wt_skip ?_
    refine wt_seq ?_
    refine wt_block ?_
    refine wt_seq ?_
    refine wl_region wd_wide ?_
    refine rl_q rfl rfl rfl (v_move (v := (Value.int .i64 set2)) hE7) ?_
    refine rl_q rfl rfl rfl (v_move (v := (Value.int .i64 q)) hE1) ?_
    obtain ⟨hz2, h⟩ := h
    refine rl_q rfl rfl rfl (v_shr rfl rfl hz2) ?_
    obtain ⟨hz3, h⟩ := h
    refine rl_q rfl rfl rfl (v_andb rfl rfl hz3) ?_
    refine rl_q rfl rfl rfl (v_eql rfl rfl) ?_
    refine rl_q rfl rfl rfl (v_move (v := (Value.bool (decide ((((set2 / 2 ^ q.toNat).toNat &&& (1 : Int).toNat : Nat) : Int) = 0)))) rfl) ?_
    by_cases hp2 : (((set2 / 2 ^ q.toNat).toNat &&& (1 : Int).toNat : Nat) : Int) = 0
    · replace h := h.1 hp2
      refine rl_q (wanted_g rfl (yE_of rfl (congrArg Value.bool (decide_eq_true hp2)))) rfl rfl (v_loadn (vs := [(Value.int .i64 g), (Value.slice Ag lg cg)]) hE3 Try.underlying24 rfl info_24 ⟨Row.cell (hS.bx 1 rfl) (i := 0) rfl, Row.cell (hS.bx 1 rfl) (i := 1) rfl, trivial⟩) ?_
      refine rl_q (wanted_g rfl (yE_of rfl (congrArg Value.bool (decide_eq_true hp2)))) rfl rfl (v_move (v := (Value.slice Ad ld cd)) hE2) ?_
      refine rl_q (wanted_g rfl (yE_of rfl (congrArg Value.bool (decide_eq_true hp2)))) rfl rfl (v_move (v := (Value.int .i64 set2)) hE7) ?_
      refine rl_n (wanted_g rfl (yE_of rfl (congrArg Value.bool (decide_eq_true hp2)))) rfl rfl rfl (n_call0 rfl (am3 rfl rfl rfl) enter_125 ((pok_r25_May h (no_lt _) (hS.rdr 2 rfl) (hS.rdr 0 rfl)).mono ?_))
      rintro _ w4 ⟨r, rfl, hC, h⟩
      replace hS := hS.pur hC.pure
      clear hC
      refine ⟨_, rfl, ?_⟩
      refine ⟨Stb.none _, ?_⟩
      refine rl_q rfl rfl rfl (v_pick_t (v := (Value.bool (r))) (congrArg Value.bool (decide_eq_true hp2)) rfl) ?_
      refine rl_end ?_
      by_cases hp3 : r = true
      · replace h := h.1 hp3
        refine wt_cond_t (congrArg Value.bool hp3) ?_
        refine wt_seq ?_
        refine wl_region wd_wide ?_
        refine rl_q rfl rfl rfl (v_assign (v := (Value.bool (false))) rfl) ?_
        refine rl_end ?_
        exact wt_ret1 rfl rfl ⟨_, rfl, (hS.sel [] (by decide)), h⟩
      · replace h := h.2 hp3
        refine wt_cond_f (congrArg Value.bool (Bool.eq_false_iff.2 hp3)) ?_
        refine wt_skip ?_
        refine wt_inBlock ?_
        refine wl_region wd_wide ?_
        refine rl_q rfl rfl rfl (v_move (v := (Value.int .i64 set2)) hE7) ?_
        obtain ⟨hi2, h⟩ := h
        refine rl_q rfl rfl rfl (v_add rfl rfl hi2) ?_
        refine rl_q rfl rfl rfl (v_assign (v := (Value.int .i64 (set2 + 1))) rfl) ?_
        refine rl_end ?_
        obtain ⟨mq, hlt, h⟩ := h
        exact again mq _ _ _ ⟨_, h, rfl, hE1, hE2, hE3, rfl, (hS.sel [0, 1, 2] (by decide))⟩ hlt
    · replace h := h.2 hp2
      refine rl_p (wanted_n rfl (yE_of rfl (congrArg Value.bool (decide_eq_false hp2))) rfl) rfl ?_
      refine rl_p (wanted_n rfl (yE_of rfl (congrArg Value.bool (decide_eq_false hp2))) rfl) rfl ?_
      refine rl_p (wanted_n rfl (yE_of rfl (congrArg Value.bool (decide_eq_false hp2))) rfl) rfl ?_
      refine rl_p (wanted_n rfl (yE_of rfl (congrArg Value.bool (decide_eq_false hp2))) rfl) rfl ?_
      refine rl_q rfl rfl rfl (v_pick_f (v := (Value.bool (false))) (congrArg Value.bool (decide_eq_false hp2)) rfl) ?_
      refine rl_end ?_
      refine wt_cond_f rfl ?_
      refine wt_skip ?_
      refine wt_inBlock ?_
      refine wl_region wd_wide ?_
      refine rl_q rfl rfl rfl (v_move (v := (Value.int .i64 set2)) hE7) ?_
      obtain ⟨hi3, h⟩ := h
      refine rl_q rfl rfl rfl (v_add rfl rfl hi3) ?_
      refine rl_q rfl rfl rfl (v_assign (v := (Value.int .i64 (set2 + 1))) rfl) ?_
      refine rl_end ?_
      obtain ⟨mq, hlt, h⟩ := h
      exact again mq _ _ _ ⟨_, h, rfl, hE1, hE2, hE3, rfl, (hS.sel [0, 1, 2] (by decide))⟩ hlt
  · replace h := h.2 hp
    refine wt_cond_f (congrArg Value.bool (decide_eq_false hp)) ?_
    refine wt_exit rfl ?_
    refine wt_seq ?_
    refine wl_region wd_wide ?_
    refine rl_q rfl rfl rfl (v_assign (v := (Value.bool (true))) rfl) ?_
    refine rl_end ?_
    exact wt_ret1 rfl rfl ⟨_, rfl, (hS.sel [] (by decide)), h⟩

/-- sandpile/sandpileref34.Is: what it computes. -/
def pf_r34_Is (g : Int) (g2 : List (Int × Int × Int)) (q : Int) (d : List Int) (R : Bool → Prop) : Prop :=
pf_r34_Debt d q (fun (r : Bool) =>
((r = true →
R false) ∧
(¬ (r = true) →
pf_r25_Tight g g2 q d (fun (r2 : Bool) =>
R r2))))
theorem pok_r34_Is {O : Nat → Prop} {w : World} {g : Int} {g2 : List (Int × Int × Int)} {q : Int} {d : List Int} {Ag : Option Addr} {lg : Nat} {cg : Nat} {Ad : Option Addr} {ld : Nat} {cd : Nat} {R : Bool → Prop} (h : pf_r34_Is g g2 q d R) (hO : ∀ k, O k → k < w.heap.size) (a0 : (FP.sl c3 Ag lg cg g2).P O w) (a1 : (FP.sl cI Ad ld cd d).P O w) :
    Calls Try.prog 77 #[(Value.agg #[(Value.int .i64 g), (Value.slice Ag lg cg)]), (Value.int .i64 q), (Value.slice Ad ld cd)] w fun e w' => ∃ r3 : Bool, e = .returned (Value.bool (r3)) ∧ Sep w no O w' (rl []) ∧ R r3 := by
  unfold pf_r34_Is at h
  have hS : Sep w no O w (rl [Res.ro (FP.sl c3 Ag lg cg g2), Res.ro (FP.sl cI Ad ld cd d)]) := Sep.startl hO [(FP.sl c3 Ag lg cg g2), (FP.sl cI Ad ld cd d)] ⟨a0, a1, trivial⟩
  refine calls_sh (l := [(Value.agg #[(Value.int .i64 g), (Value.slice Ag lg cg)]), (Value.int .i64 q), (Value.slice Ad ld cd)]) Try.func77 rfl Try.ntmps77 (Nat.le_of_ble_eq_true rfl) ?_
  refine wt_seq ?_
  refine wl_region wd_wide ?_
  refine rl_n rfl rfl rfl rfl (n_box (v := (Value.agg #[(Value.int .i64 g), (Value.slice Ag lg cg)])) rfl ?_)
  intro g3 w2 hN
  replace hS : Sep w no O w2 (stl _ 2 (Res.box 24 g3 [(Value.int .i64 g), (Value.slice Ag lg cg)])) := hS.new 2 rfl hN
  clear hN
  refine ⟨Stb.none _, ?_⟩
  refine rl_q rfl rfl rfl (v_assign (v := (Value.bool (false))) rfl) ?_
  refine rl_end ?_
  refine wt_seq ?_
  refine wl_region wd_wide ?_
  refine rl_q rfl rfl rfl (v_move (v := (Value.slice Ad ld cd)) rfl) ?_
  refine rl_q rfl rfl rfl (v_move (v := (Value.int .i64 q)) rfl) ?_
  refine rl_n rfl rfl rfl rfl (n_call0 rfl (am2 rfl rfl) enter_28 ((pok_r34_Debt h (no_lt _) (hS.rdr 1 rfl)).mono ?_))
  rintro _ w3 ⟨r, rfl, hC, h⟩
  replace hS := hS.pur hC.pure
  clear hC
  refine ⟨_, rfl, ?_⟩
  refine ⟨Stb.none _, ?_⟩
  refine rl_q rfl rfl rfl (v_not rfl) ?_
  refine rl_q rfl rfl rfl (v_move (v := (Value.bool (!(r)))) rfl) ?_
  by_cases hp : r = true
  · replace h := h.1 hp
    refine rl_p (wanted_n rfl (yE_of rfl (congrArg Value.bool (congrArg Bool.not hp))) rfl) rfl ?_
    refine rl_p (wanted_n rfl (yE_of rfl (congrArg Value.bool (congrArg Bool.not hp))) rfl) rfl ?_
    refine rl_p (wanted_n rfl (yE_of rfl (congrArg Value.bool (congrArg Bool.not hp))) rfl) rfl ?_
    refine rl_p (wanted_n rfl (yE_of rfl (congrArg Value.bool (congrArg Bool.not hp))) rfl) rfl ?_
    refine rl_q rfl rfl rfl (v_pick_f (v := (Value.bool (false))) (congrArg Value.bool (congrArg Bool.not hp)) rfl) ?_
    refine rl_q rfl rfl rfl (v_assign (v := (Value.bool (false))) rfl) ?_
    refine rl_end ?_
    exact wt_ret1 rfl rfl ⟨_, rfl, (hS.sel [] (by decide)), h⟩
  · replace h := h.2 hp
    refine rl_q (wanted_g rfl (yE_of rfl (congrArg Value.bool (congrArg Bool.not (Bool.eq_false_iff.2 hp))))) rfl rfl (v_loadn (vs := [(Value.int .i64 g), (Value.slice Ag lg cg)]) rfl Try.underlying24 rfl info_24 ⟨Row.cell (hS.bx 2 rfl) (i := 0) rfl, Row.cell (hS.bx 2 rfl) (i := 1) rfl, trivial⟩) ?_
    refine rl_q (wanted_g rfl (yE_of rfl (congrArg Value.bool (congrArg Bool.not (Bool.eq_false_iff.2 hp))))) rfl rfl (v_move (v := (Value.int .i64 q)) rfl) ?_
    refine rl_q (wanted_g rfl (yE_of rfl (congrArg Value.bool (congrArg Bool.not (Bool.eq_false_iff.2 hp))))) rfl rfl (v_move (v := (Value.slice Ad ld cd)) rfl) ?_
    refine rl_n (wanted_g rfl (yE_of rfl (congrArg Value.bool (congrArg Bool.not (Bool.eq_false_iff.2 hp))))) rfl rfl rfl (n_call0 rfl (am3 rfl rfl rfl) enter_124 ((pok_r25_Tight h (no_lt _) (hS.rdr 0 rfl) (hS.rdr 1 rfl)).mono ?_))
    rintro _ w4 ⟨r2, rfl, hC, h⟩
    replace hS := hS.pur hC.pure
    clear hC
    refine ⟨_, rfl, ?_⟩
    refine ⟨Stb.none _, ?_⟩
    refine rl_q rfl rfl rfl (v_pick_t (v := (Value.bool (r2))) (congrArg Value.bool (congrArg Bool.not (Bool.eq_false_iff.2 hp))) rfl) ?_
    refine rl_q rfl rfl rfl (v_assign (v := (Value.bool (r2))) rfl) ?_
    refine rl_end ?_
    exact wt_ret1 rfl rfl ⟨_, rfl, (hS.sel [] (by decide)), h⟩

/-- sandpile/sandpileref34.IsReduced: what it computes. -/
def pf_r34_IsReduced (g : Int) (g2 : List (Int × Int × Int)) (q : Int) (d : List Int) (R : Bool → Int → Prop) : Prop :=
pf_r34_Given g g2 q d (fun (r : Int) =>
((r = 0 →
pf_r34_Is g g2 q d (fun (r2 : Bool) =>
R r2 0)) ∧
(¬ (r = 0) →
R false r)))
theorem pok_r34_IsReduced {O : Nat → Prop} {w : World} {g : Int} {g2 : List (Int × Int × Int)} {q : Int} {d : List Int} {Ag : Option Addr} {lg : Nat} {cg : Nat} {Ad : Option Addr} {ld : Nat} {cd : Nat} {R : Bool → Int → Prop} (h : pf_r34_IsReduced g g2 q d R) (hO : ∀ k, O k → k < w.heap.size) (a0 : (FP.sl c3 Ag lg cg g2).P O w) (a1 : (FP.sl cI Ad ld cd d).P O w) :
    Calls Try.prog 30 #[(Value.agg #[(Value.int .i64 g), (Value.slice Ag lg cg)]), (Value.int .i64 q), (Value.slice Ad ld cd)] w fun e w' => ∃ r3 : Bool, ∃ r4 : Int, e = .returned (Value.tuple #[(Value.bool (r3)), (Value.int .i64 r4)]) ∧ Sep w no O w' (rl []) ∧ R r3 r4 := by
  unfold pf_r34_IsReduced at h
  have hS : Sep w no O w (rl [Res.ro (FP.sl c3 Ag lg cg g2), Res.ro (FP.sl cI Ad ld cd d)]) := Sep.startl hO [(FP.sl c3 Ag lg cg g2), (FP.sl cI Ad ld cd d)] ⟨a0, a1, trivial⟩
  refine calls_sh (l := [(Value.agg #[(Value.int .i64 g), (Value.slice Ag lg cg)]), (Value.int .i64 q), (Value.slice Ad ld cd)]) Try.func30 rfl Try.ntmps30 (Nat.le_of_ble_eq_true rfl) ?_
  refine wt_seq ?_
  refine wl_region wd_wide ?_
  refine rl_n rfl rfl rfl rfl (n_box (v := (Value.agg #[(Value.int .i64 g), (Value.slice Ag lg cg)])) rfl ?_)
  intro g3 w2 hN
  replace hS : Sep w no O w2 (stl _ 2 (Res.box 24 g3 [(Value.int .i64 g), (Value.slice Ag lg cg)])) := hS.new 2 rfl hN
  clear hN
  refine ⟨Stb.none _, ?_⟩
  refine rl_q rfl rfl rfl (v_assign (v := (Value.bool (false))) rfl) ?_
  refine rl_q rfl rfl rfl (v_assign (v := (Value.int .i64 0)) rfl) ?_
  refine rl_end ?_
  refine wt_seq ?_
  refine wt_seq ?_
  refine wl_region wd_wide ?_
  refine rl_q rfl rfl rfl (v_loadn (vs := [(Value.int .i64 g), (Value.slice Ag lg cg)]) rfl Try.underlying24 rfl info_24 ⟨Row.cell (hS.bx 2 rfl) (i := 0) rfl, Row.cell (hS.bx 2 rfl) (i := 1) rfl, trivial⟩) ?_
  refine rl_q rfl rfl rfl (v_move (v := (Value.int .i64 q)) rfl) ?_
  refine rl_q rfl rfl rfl (v_move (v := (Value.slice Ad ld cd)) rfl) ?_
  refine rl_n rfl rfl rfl rfl (n_call0 rfl (am3 rfl rfl rfl) enter_24 ((pok_r34_Given h (no_lt _) (hS.rdr 0 rfl) (hS.rdr 1 rfl)).mono ?_))
  rintro _ w3 ⟨r, rfl, hC, h⟩
  replace hS := hS.pur hC.pure
  clear hC
  refine ⟨_, rfl, ?_⟩
  refine ⟨Stb.none _, ?_⟩
  refine rl_q rfl rfl rfl (v_assign (v := (Value.int .i64 r)) rfl) ?_
  refine rl_end ?_
  refine wt_seq ?_
  refine wl_region wd_wide ?_
  refine rl_q rfl rfl rfl (v_move (v := (Value.int .i64 r)) rfl) ?_
  refine rl_q rfl rfl rfl (v_neq rfl rfl) ?_
  refine rl_end ?_
  by_cases hp : r = 0
  · replace h := h.1 hp
    refine wt_cond_f (congrArg Value.bool (congrArg Bool.not (decide_eq_true hp))) ?_
    refine wt_skip ?_
    refine wt_seq ?_
    refine wl_region wd_wide ?_
    refine rl_q rfl rfl rfl (v_loadn (vs := [(Value.int .i64 g), (Value.slice Ag lg cg)]) rfl Try.underlying24 rfl info_24 ⟨Row.cell (hS.bx 2 rfl) (i := 0) rfl, Row.cell (hS.bx 2 rfl) (i := 1) rfl, trivial⟩) ?_
    refine rl_q rfl rfl rfl (v_move (v := (Value.int .i64 q)) rfl) ?_
    refine rl_q rfl rfl rfl (v_move (v := (Value.slice Ad ld cd)) rfl) ?_
    refine rl_n rfl rfl rfl rfl (n_call0 rfl (am3 rfl rfl rfl) enter_77 ((pok_r34_Is h (no_lt _) (hS.rdr 0 rfl) (hS.rdr 1 rfl)).mono ?_))
    rintro _ w4 ⟨r2, rfl, hC, h⟩
    replace hS := hS.pur hC.pure
    clear hC
    refine ⟨_, rfl, ?_⟩
    refine ⟨Stb.none _, ?_⟩
    refine rl_q rfl rfl rfl (v_assign (v := (Value.bool (r2))) rfl) ?_
    refine rl_q rfl rfl rfl (v_assign (v := (Value.int .i64 0)) rfl) ?_
    refine rl_end ?_
    exact wt_ret2 rfl rfl rfl ⟨_, _, rfl, (hS.sel [] (by decide)), h⟩
  · replace h := h.2 hp
    refine wt_cond_t (congrArg Value.bool (congrArg Bool.not (decide_eq_false hp))) ?_
    refine wt_seq ?_
    refine wl_region wd_wide ?_
    refine rl_q rfl rfl rfl (v_move (v := (Value.int .i64 r)) rfl) ?_
    refine rl_q rfl rfl rfl (v_assign (v := (Value.bool (false))) rfl) ?_
    refine rl_q rfl rfl rfl (v_assign (v := (Value.int .i64 r)) rfl) ?_
    refine rl_end ?_
    exact wt_ret2 rfl rfl rfl ⟨_, _, rfl, (hS.sel [] (by decide)), h⟩

/-- sandpile/sandpileref34.Left: what it computes. -/
def pf_r34_Left (g : Int) (g2 : List (Int × Int × Int)) (q : Int) (d : List Int) (R : (List Int) → Prop) : Prop :=
(∃ I2 : Nat → Int → Int → Prop, (∃ m0, I2 m0 0 0) ∧ ∀ (m2 : Nat) (all2 : Int) (set2 : Int), I2 m2 all2 set2 → 
((0 ≤ g ∧ g < 64) ∧
In64 (1 * 2 ^ g.toNat) ∧
((set2 < (1 * 2 ^ g.toNat) →
((0 ≤ q ∧ q < 64) ∧
((0 ≤ (set2 / 2 ^ q.toNat) ∧ (set2 / 2 ^ q.toNat) < 9223372036854775808 ∧ 0 ≤ (1 : Int) ∧ (1 : Int) < 9223372036854775808) ∧
(((((set2 / 2 ^ q.toNat).toNat &&& (1 : Int).toNat : Nat) : Int) = 0 →
pf_r25_May g g2 d set2 (fun (r : Bool) =>
((r = true →
((0 ≤ all2 ∧ all2 < 9223372036854775808 ∧ 0 ≤ set2 ∧ set2 < 9223372036854775808) ∧
(In64 (set2 + 1) ∧
∃ m3, m3 < m2 ∧ I2 m3 ((all2.toNat ||| set2.toNat : Nat) : Int) (set2 + 1)))) ∧
(¬ (r = true) →
(In64 (set2 + 1) ∧
∃ m4, m4 < m2 ∧ I2 m4 all2 (set2 + 1)))))) ∧
(¬ ((((set2 / 2 ^ q.toNat).toNat &&& (1 : Int).toNat : Nat) : Int) = 0) →
(In64 (set2 + 1) ∧
∃ m5, m5 < m2 ∧ I2 m5 all2 (set2 + 1))))))) ∧
(¬ (set2 < (1 * 2 ^ g.toNat)) →
(∃ I3 : Nat → (List Int) → Int → Prop, (∃ m0, I3 m0 ([]) 0) ∧ ∀ (m6 : Nat) (out : List Int) (v : Int), I3 m6 out v → 
((v < g →
((0 ≤ v ∧ v < 64) ∧
((0 ≤ (all2 / 2 ^ v.toNat) ∧ (all2 / 2 ^ v.toNat) < 9223372036854775808 ∧ 0 ≤ (1 : Int) ∧ (1 : Int) < 9223372036854775808) ∧
(((((all2 / 2 ^ v.toNat).toNat &&& (1 : Int).toNat : Nat) : Int) = 1 →
(out.length + 1 ≤ 1000000000 ∧
(In64 (v + 1) ∧
∃ m7, m7 < m6 ∧ I3 m7 (out ++ [v]) (v + 1)))) ∧
(¬ ((((all2 / 2 ^ v.toNat).toNat &&& (1 : Int).toNat : Nat) : Int) = 1) →
(In64 (v + 1) ∧
∃ m8, m8 < m6 ∧ I3 m8 out (v + 1))))))) ∧
(¬ (v < g) →
R out)))))))
theorem pok_r34_Left {O : Nat → Prop} {w : World} {g : Int} {g2 : List (Int × Int × Int)} {q : Int} {d : List Int} {Ag : Option Addr} {lg : Nat} {cg : Nat} {Ad : Option Addr} {ld : Nat} {cd : Nat} {R : (List Int) → Prop} (h : pf_r34_Left g g2 q d R) (hO : ∀ k, O k → k < w.heap.size) (a0 : (FP.sl c3 Ag lg cg g2).P O w) (a1 : (FP.sl cI Ad ld cd d).P O w) :
    Calls Try.prog 78 #[(Value.agg #[(Value.int .i64 g), (Value.slice Ag lg cg)]), (Value.int .i64 q), (Value.slice Ad ld cd)] w fun e w' => ∃ r2 : List Int, ∃ Ar : Option Addr, ∃ lr : Nat, ∃ cr : Nat, e = .returned (Value.slice Ar lr cr) ∧ Sep w no O w' (rl [Res.own cI 3 Ar lr cr r2]) ∧ R r2 := by
  unfold pf_r34_Left at h
  have hS : Sep w no O w (rl [Res.ro (FP.sl c3 Ag lg cg g2), Res.ro (FP.sl cI Ad ld cd d)]) := Sep.startl hO [(FP.sl c3 Ag lg cg g2), (FP.sl cI Ad ld cd d)] ⟨a0, a1, trivial⟩
  refine calls_sh (l := [(Value.agg #[(Value.int .i64 g), (Value.slice Ag lg cg)]), (Value.int .i64 q), (Value.slice Ad ld cd)]) Try.func78 rfl Try.ntmps78 (Nat.le_of_ble_eq_true rfl) ?_
  refine wt_seq ?_
  refine wl_region wd_wide ?_
  refine rl_n rfl rfl rfl rfl (n_box (v := (Value.agg #[(Value.int .i64 g), (Value.slice Ag lg cg)])) rfl ?_)
  intro g3 w2 hN
  replace hS : Sep w no O w2 (stl _ 2 (Res.box 24 g3 [(Value.int .i64 g), (Value.slice Ag lg cg)])) := hS.new 2 rfl hN
  clear hN
  refine ⟨Stb.none _, ?_⟩
  refine rl_q rfl rfl rfl (v_assign (v := (Value.slice none 0 0)) rfl) ?_
  refine rl_end ?_
  refine wt_seq ?_
  refine wl_region wd_wide ?_
  refine rl_q rfl rfl rfl (v_assign (v := (Value.int .i64 0)) rfl) ?_
  refine rl_end ?_
  refine wt_seq ?_
  refine wt_seq ?_
  refine wl_region wd_wide ?_
  refine rl_q rfl rfl rfl (v_assign (v := (Value.int .i64 0)) rfl) ?_
  refine rl_end ?_
  refine wt_block ?_
  obtain ⟨I2, ⟨m0, h0⟩, hr⟩ := h
  refine wt_loop (fun m E ds w' => ∃ all2 : Int, ∃ set2 : Int, I2 m all2 set2 ∧ ds = [] ∧ E 1 = (Value.int .i64 q) ∧ E 2 = (Value.slice Ad ld cd) ∧ E 3 = (Value.pointer (some (⟨g3, 0, none⟩ : Addr))) ∧ E 7 = (Value.int .i64 all2) ∧ E 8 = (Value.int .i64 set2) ∧ Sep w no O w' (rl [Res.ro (FP.sl cI Ad ld cd d), Res.box 24 g3 [(Value.int .i64 g), (Value.slice Ag lg cg)], Res.ro (FP.sl c3 Ag lg cg g2)])) m0 ⟨_, _, h0, rfl, rfl, rfl, rfl, rfl, rfl, (hS.sel [1, 2, 0] (by decide))⟩ ?_
  clear h0 hS
  rintro m2 E ds w3 ⟨all2, set2, h, rfl, hE1, hE2, hE3, hE7, hE8, hS⟩ again
  replace h := hr m2 all2 set2 h
  clear hr
  refine wt_seq ?_
  refine wt_seq ?_
  refine wl_region wd_wide ?_
  refine rl_q rfl rfl rfl (v_move (v := (Value.int .i64 set2)) hE8) ?_
  refine rl_q rfl rfl rfl (v_faddr hE3 Try.underlying24 rfl info_3) ?_
  refine rl_q rfl rfl rfl (v_load rfl Try.underlying3 rfl (Row.cell (hS.bx 1 rfl) (i := 0) rfl)) ?_
  obtain ⟨hz, h⟩ := h
  obtain ⟨hi, h⟩ := h
  refine rl_q rfl rfl rfl (v_shl rfl rfl hz hi) ?_
  refine rl_q rfl rfl rfl (v_lss rfl rfl) ?_
  refine rl_end ?_
  by_cases hp : set2 < (1 * 2 ^ g.toNat)
  · replace h := h.1 hp
    refine wt_cond_t (congrArg Value.bool (decide_eq_true hp)) ?_
    refine wt_skip ?_
    refine wt_seq ?_
    refine wt_block ?_
    refine wt_seq ?_
    refine wl_region wd_wide ?_
    refine rl_q rfl rfl rfl (v_move (v := (Value.int .i64 set2)) hE8) ?_
    refine rl_q rfl rfl rfl (v_move (v := (Value.int .i64 q)) hE1) ?_
    obtain ⟨hz2, h⟩ := h
    refine rl_q rfl rfl rfl (v_shr rfl rfl hz2) ?_
    obtain ⟨hz3, h⟩ := h
    refine rl_q rfl rfl rfl (v_andb rfl rfl hz3) ?_
    refine rl_q rfl rfl rfl (v_eql rfl rfl) ?_
    refine rl_q rfl rfl rfl (v_move (v := (Value.bool (decide ((((set2 / 2 ^ q.toNat).toNat &&& (1 : Int).toNat : Nat) : Int) = 0)))) rfl) ?_
    by_cases hp2 : (((set2 / 2 ^ q.toNat).toNat &&& (1 : Int).toNat : Nat) : Int) = 0
    · replace h := h.1 hp2
      refine rl_q (wanted_g rfl (yE_of rfl (congrArg Value.bool (decide_eq_true hp2)))) rfl rfl (v_loadn (vs := [(Value.int .i64 g), (Value.slice Ag lg cg)]) hE3 Try.underlying24 rfl info_24 ⟨Row.cell (hS.bx 1 rfl) (i := 0) rfl, Row.cell (hS.bx 1 rfl) (i := 1) rfl, trivial⟩) ?_
      refine rl_q (wanted_g rfl (yE_of rfl (congrArg Value.bool (decide_eq_true hp2)))) rfl rfl (v_move (v := (Value.slice Ad ld cd)) hE2) ?_
      refine rl_q (wanted_g rfl (yE_of rfl (congrArg Value.bool (decide_eq_true hp2)))) rfl rfl (v_move (v := (Value.int .i64 set2)) hE8) ?_
      refine rl_n (wanted_g rfl (yE_of rfl (congrArg Value.bool (decide_eq_true hp2)))) rfl rfl rfl (n_call0 rfl (am3 rfl rfl rfl) enter_125 ((pok_r25_May h (no_lt _) (hS.rdr 2 rfl) (hS.rdr 0 rfl)).mono ?_))
      rintro _ w4 ⟨r, rfl, hC, h⟩
      replace hS := hS.pur hC.pure
      clear hC
      refine ⟨_, rfl, ?_⟩
      refine ⟨Stb.none _, ?_⟩
      refine rl_q rfl rfl rfl (v_pick_t (v := (Value.bool (r))) (congrArg Value.bool (decide_eq_true hp2)) rfl) ?_
      refine rl_end ?_
      by_cases hp3 : r = true
      · replace h := h.1 hp3
        refine wt_cond_t (congrArg Value.bool hp3) ?_
        refine wl_region wd_wide ?_
        refine rl_q rfl rfl rfl (v_move (v := (Value.int .i64 all2)) hE7) ?_
        refine rl_q rfl rfl rfl (v_move (v := (Value.int .i64 set2)) hE8) ?_
        obtain ⟨hz4, h⟩ := h
        refine rl_q rfl rfl rfl (v_orb rfl rfl hz4) ?_
        refine rl_q rfl rfl rfl (v_assign (v := (Value.int .i64 ((all2.toNat ||| set2.toNat : Nat) : Int))) rfl) ?_
        refine rl_end ?_
        refine wt_inBlock ?_
        refine wl_region wd_wide ?_
        refine rl_q rfl rfl rfl (v_move (v := (Value.int .i64 set2)) hE8) ?_
        obtain ⟨hi2, h⟩ := h
        refine rl_q rfl rfl rfl (v_add rfl rfl hi2) ?_
        refine rl_q rfl rfl rfl (v_assign (v := (Value.int .i64 (set2 + 1))) rfl) ?_
        refine rl_end ?_
        obtain ⟨mq, hlt, h⟩ := h
        exact again mq _ _ _ ⟨_, _, h, rfl, hE1, hE2, hE3, rfl, rfl, (hS.sel [0, 1, 2] (by decide))⟩ hlt
      · replace h := h.2 hp3
        refine wt_cond_f (congrArg Value.bool (Bool.eq_false_iff.2 hp3)) ?_
        refine wt_skip ?_
        refine wt_inBlock ?_
        refine wl_region wd_wide ?_
        refine rl_q rfl rfl rfl (v_move (v := (Value.int .i64 set2)) hE8) ?_
        obtain ⟨hi3, h⟩ := h
        refine rl_q rfl rfl rfl (v_add rfl rfl hi3) ?_
        refine rl_q rfl rfl rfl (v_assign (v := (Value.int .i64 (set2 + 1))) rfl) ?_
        refine rl_end ?_
        obtain ⟨mq, hlt, h⟩ := h
        exact again mq _ _ _ ⟨_, _, h, rfl, hE1, hE2, hE3, hE7, rfl, (hS.sel [0, 1, 2] (by decide))⟩ hlt
    · replace h := h.2 hp2
      refine rl_p (wanted_n rfl (yE_of rfl (congrArg Value.bool (decide_eq_false hp2))) rfl) rfl ?_
      refine rl_p (wanted_n rfl (yE_of rfl (congrArg Value.bool (decide_eq_false hp2))) rfl) rfl ?_
      refine rl_p (wanted_n rfl (yE_of rfl (congrArg Value.bool (decide_eq_false hp2))) rfl) rfl ?_
      refine rl_p (wanted_n rfl (yE_of rfl (congrArg Value.bool (decide_eq_false hp2))) rfl) rfl ?_
      refine rl_q rfl rfl rfl (v_pick_f (v := (Value.bool (false))) (congrArg Value.bool (decide_eq_false hp2)) rfl) ?_
      refine rl_end ?_
      refine wt_cond_f rfl ?_
      refine wt_skip ?_
      refine wt_inBlock ?_
      refine wl_region wd_wide ?_
      refine rl_q rfl rfl rfl (v_move (v := (Value.int .i64 set2)) hE8) ?_
      obtain ⟨hi4, h⟩ := h
      refine rl_q rfl rfl rfl (v_add rfl rfl hi4) ?_
      refine rl_q rfl rfl rfl (v_assign (v := (Value.int .i64 (set2 + 1))) rfl) ?_
      refine rl_end ?_
      obtain ⟨mq, hlt, h⟩ := h
      exact again mq _ _ _ ⟨_, _, h, rfl, hE1, hE2, hE3, hE7, rfl, (hS.sel [0, 1, 2] (by decide))⟩ hlt
  · replace h := h.2 hp
    refine wt_cond_f (congrArg Value.bool (decide_eq_false hp)) ?_
    refine wt_exit rfl ?_
    refine wt_seq ?_
    refine wl_region wd_wide ?_
    refine rl_q rfl rfl rfl (v_assign (v := (Value.slice none 0 0)) rfl) ?_
    refine rl_end ?_
    refine wt_seq ?_
    refine wt_seq ?_
    refine wl_region wd_wide ?_
    refine rl_q rfl rfl rfl (v_assign (v := (Value.int .i64 0)) rfl) ?_
    refine rl_end ?_
    refine wt_block ?_
    replace hS := hS.nil 3 rfl cI 3
    obtain ⟨I3, ⟨m0, h0⟩, hr⟩ := h
    refine wt_loop (fun m E ds w' => ∃ out : List Int, ∃ v : Int, ∃ Aout : Option Addr, ∃ lout : Nat, ∃ cout : Nat, I3 m out v ∧ ds = [] ∧ E 3 = (Value.pointer (some (⟨g3, 0, none⟩ : Addr))) ∧ E 7 = (Value.int .i64 all2) ∧ E 9 = (Value.slice Aout lout cout) ∧ E 10 = (Value.int .i64 v) ∧ Sep w no O w' (rl [Res.own cI 3 Aout lout cout out, Res.box 24 g3 [(Value.int .i64 g), (Value.slice Ag lg cg)], Res.ro (FP.sl c3 Ag lg cg g2)])) m0 ⟨_, _, _, _, _, h0, rfl, hE3, hE7, rfl, rfl, (hS.sel [3, 1, 2] (by decide))⟩ ?_
    clear h0 hS
    rintro m6 E ds w5 ⟨out, v, Aout, lout, cout, h, rfl, hE3, hE7, hE9, hE10, hS⟩ again2
    replace h := hr m6 out v h
    clear hr
    refine wt_seq ?_
    refine wt_seq ?_
    refine wl_region wd_wide ?_
    refine rl_q rfl rfl rfl (v_move (v := (Value.int .i64 v)) hE10) ?_
    refine rl_q rfl rfl rfl (v_faddr hE3 Try.underlying24 rfl info_3) ?_
    refine rl_q rfl rfl rfl (v_load rfl Try.underlying3 rfl (Row.cell (hS.bx 1 rfl) (i := 0) rfl)) ?_
    refine rl_q rfl rfl rfl (v_lss rfl rfl) ?_
    refine rl_end ?_
    by_cases hp4 : v < g
    · replace h := h.1 hp4
      refine wt_cond_t (congrArg Value.bool (decide_eq_true hp4)) ?_
      refine wt_skip ?_
      refine wt_seq ?_
      refine wt_block ?_
      refine wt_seq ?_
      refine wl_region wd_wide ?_
      refine rl_q rfl rfl rfl (v_move (v := (Value.int .i64 all2)) hE7) ?_
      refine rl_q rfl rfl rfl (v_move (v := (Value.int .i64 v)) hE10) ?_
      obtain ⟨hz5, h⟩ := h
      refine rl_q rfl rfl rfl (v_shr rfl rfl hz5) ?_
      obtain ⟨hz6, h⟩ := h
      refine rl_q rfl rfl rfl (v_andb rfl rfl hz6) ?_
      refine rl_q rfl rfl rfl (v_eql rfl rfl) ?_
      refine rl_end ?_
      by_cases hp5 : (((all2 / 2 ^ v.toNat).toNat &&& (1 : Int).toNat : Nat) : Int) = 1
      · replace h := h.1 hp5
        refine wt_cond_t (congrArg Value.bool (decide_eq_true hp5)) ?_
        refine wl_region wd_wide ?_
        refine rl_q rfl rfl rfl (v_move (v := (Value.slice Aout lout cout)) hE9) ?_
        refine rl_q rfl rfl rfl (v_move (v := (Value.int .i64 v)) hE10) ?_
        refine rl_n rfl rfl rfl rfl (n_bslice (l := [(0, (Value.int .i64 v))]) (cells := [(Value.int .i64 v)]) (bp1 rfl) Try.underlying25 info_3 rfl rfl ?_)
        intro g4 w6 hN
        replace hS := hS.litf (n := 1) 3 rfl (fI .i64) hN ([v] : List Int) rfl (by decide) rfl
        clear hN
        refine ⟨Stb.none _, ?_⟩
        obtain ⟨hx, h⟩ := h
        refine rl_n rfl rfl rfl rfl (n_app (c := cI) rfl rfl Try.underlying25 Try.underlying25 info_3 rfl rfl (by decide) hS 0 rfl (hS.yo 3 rfl) hx ?_)
        clear hS
        intro A c w7 hS
        refine ⟨Stb.none _, ?_⟩
        refine rl_q rfl rfl rfl (v_assign (v := (Value.slice A (lout + 1) c)) rfl) ?_
        refine rl_end ?_
        refine wt_inBlock ?_
        refine wl_region wd_wide ?_
        refine rl_q rfl rfl rfl (v_move (v := (Value.int .i64 v)) hE10) ?_
        obtain ⟨hi5, h⟩ := h
        refine rl_q rfl rfl rfl (v_add rfl rfl hi5) ?_
        refine rl_q rfl rfl rfl (v_assign (v := (Value.int .i64 (v + 1))) rfl) ?_
        refine rl_end ?_
        obtain ⟨mq, hlt, h⟩ := h
        exact again2 mq _ _ _ ⟨_, _, _, _, _, h, rfl, hE3, hE7, rfl, rfl, (hS.sel [0, 1, 2] (by decide))⟩ hlt
      · replace h := h.2 hp5
        refine wt_cond_f (congrArg Value.bool (decide_eq_false hp5)) ?_
        refine wt_skip ?_
        refine wt_inBlock ?_
        refine wl_region wd_wide ?_
        refine rl_q rfl rfl rfl (v_move (v := (Value.int .i64 v)) hE10) ?_
        obtain ⟨hi6, h⟩ := h
        refine rl_q rfl rfl rfl (v_add rfl rfl hi6) ?_
        refine rl_q rfl rfl rfl (v_assign (v := (Value.int .i64 (v + 1))) rfl) ?_
        refine rl_end ?_
        obtain ⟨mq, hlt, h⟩ := h
        exact again2 mq _ _ _ ⟨_, _, _, _, _, h, rfl, hE3, hE7, hE9, rfl, (hS.sel [0, 1, 2] (by decide))⟩ hlt
    · replace h := h.2 hp4
      refine wt_cond_f (congrArg Value.bool (decide_eq_false hp4)) ?_
      refine wt_exit rfl ?_
      refine wt_seq ?_
      refine wl_region wd_wide ?_
      refine rl_q rfl rfl rfl (v_move (v := (Value.slice Aout lout cout)) hE9) ?_
      refine rl_q rfl rfl rfl (v_assign (v := (Value.slice Aout lout cout)) rfl) ?_
      refine rl_end ?_
      exact wt_ret1 rfl rfl ⟨_, _, _, _, rfl, (hS.sel [0] (by decide)), h⟩

/-- sandpile/sandpileref34.Unburnt: what it computes. -/
def pf_r34_Unburnt (g : Int) (g2 : List (Int × Int × Int)) (q : Int) (d : List Int) (R : (List Int) → Int → Prop) : Prop :=
pf_r34_Given g g2 q d (fun (r : Int) =>
((r = 0 →
pf_r34_Debt d q (fun (r2 : Bool) =>
((r2 = true →
R ([]) 15) ∧
(¬ (r2 = true) →
pf_r34_Left g g2 q d (fun (r3 : List Int) =>
R r3 0))))) ∧
(¬ (r = 0) →
R ([]) r)))
theorem pok_r34_Unburnt {O : Nat → Prop} {w : World} {g : Int} {g2 : List (Int × Int × Int)} {q : Int} {d : List Int} {Ag : Option Addr} {lg : Nat} {cg : Nat} {Ad : Option Addr} {ld : Nat} {cd : Nat} {R : (List Int) → Int → Prop} (h : pf_r34_Unburnt g g2 q d R) (hO : ∀ k, O k → k < w.heap.size) (a0 : (FP.sl c3 Ag lg cg g2).P O w) (a1 : (FP.sl cI Ad ld cd d).P O w) :
    Calls Try.prog 32 #[(Value.agg #[(Value.int .i64 g), (Value.slice Ag lg cg)]), (Value.int .i64 q), (Value.slice Ad ld cd)] w fun e w' => ∃ r4 : List Int, ∃ r5 : Int, ∃ Ar2 : Option Addr, ∃ lr2 : Nat, ∃ cr2 : Nat, e = .returned (Value.tuple #[(Value.slice Ar2 lr2 cr2), (Value.int .i64 r5)]) ∧ Sep w no O w' (rl [Res.own cI 3 Ar2 lr2 cr2 r4]) ∧ R r4 r5 := by
  unfold pf_r34_Unburnt at h
  have hS : Sep w no O w (rl [Res.ro (FP.sl c3 Ag lg cg g2), Res.ro (FP.sl cI Ad ld cd d)]) := Sep.startl hO [(FP.sl c3 Ag lg cg g2), (FP.sl cI Ad ld cd d)] ⟨a0, a1, trivial⟩
  refine calls_sh (l := [(Value.agg #[(Value.int .i64 g), (Value.slice Ag lg cg)]), (Value.int .i64 q), (Value.slice Ad ld cd)]) Try.func32 rfl Try.ntmps32 (Nat.le_of_ble_eq_true rfl) ?_
  refine wt_seq ?_
  refine wl_region wd_wide ?_
  refine rl_n rfl rfl rfl rfl (n_box (v := (Value.agg #[(Value.int .i64 g), (Value.slice Ag lg cg)])) rfl ?_)
  intro g3 w2 hN
  replace hS : Sep w no O w2 (stl _ 2 (Res.box 24 g3 [(Value.int .i64 g), (Value.slice Ag lg cg)])) := hS.new 2 rfl hN
  clear hN
  refine ⟨Stb.none _, ?_⟩
  refine rl_q rfl rfl rfl (v_assign (v := (Value.slice none 0 0)) rfl) ?_
  refine rl_q rfl rfl rfl (v_assign (v := (Value.int .i64 0)) rfl) ?_
  refine rl_end ?_
  refine wt_seq ?_
  refine wt_seq ?_
  refine wl_region wd_wide ?_
  refine rl_q rfl rfl rfl (v_loadn (vs := [(Value.int .i64 g), (Value.slice Ag lg cg)]) rfl Try.underlying24 rfl info_24 ⟨Row.cell (hS.bx 2 rfl) (i := 0) rfl, Row.cell (hS.bx 2 rfl) (i := 1) rfl, trivial⟩) ?_
  refine rl_q rfl rfl rfl (v_move (v := (Value.int .i64 q)) rfl) ?_
  refine rl_q rfl rfl rfl (v_move (v := (Value.slice Ad ld cd)) rfl) ?_
  refine rl_n rfl rfl rfl rfl (n_call0 rfl (am3 rfl rfl rfl) enter_24 ((pok_r34_Given h (no_lt _) (hS.rdr 0 rfl) (hS.rdr 1 rfl)).mono ?_))
  rintro _ w3 ⟨r, rfl, hC, h⟩
  replace hS := hS.pur hC.pure
  clear hC
  refine ⟨_, rfl, ?_⟩
  refine ⟨Stb.none _, ?_⟩
  refine rl_q rfl rfl rfl (v_assign (v := (Value.int .i64 r)) rfl) ?_
  refine rl_end ?_
  refine wt_seq ?_
  refine wl_region wd_wide ?_
  refine rl_q rfl rfl rfl (v_move (v := (Value.int .i64 r)) rfl) ?_
  refine rl_q rfl rfl rfl (v_neq rfl rfl) ?_
  refine rl_end ?_
  by_cases hp : r = 0
  · replace h := h.1 hp
    refine wt_cond_f (congrArg Value.bool (congrArg Bool.not (decide_eq_true hp))) ?_
    refine wt_skip ?_
    refine wt_seq ?_
    refine wt_seq ?_
    refine wl_region wd_wide ?_
    refine rl_q rfl rfl rfl (v_move (v := (Value.slice Ad ld cd)) rfl) ?_
    refine rl_q rfl rfl rfl (v_move (v := (Value.int .i64 q)) rfl) ?_
    refine rl_n rfl rfl rfl rfl (n_call0 rfl (am2 rfl rfl) enter_28 ((pok_r34_Debt h (no_lt _) (hS.rdr 1 rfl)).mono ?_))
    rintro _ w4 ⟨r2, rfl, hC, h⟩
    replace hS := hS.pur hC.pure
    clear hC
    refine ⟨_, rfl, ?_⟩
    refine ⟨Stb.none _, ?_⟩
    refine rl_end ?_
    by_cases hp2 : r2 = true
    · replace h := h.1 hp2
      refine wt_cond_t (congrArg Value.bool hp2) ?_
      refine wt_seq ?_
      refine wl_region wd_wide ?_
      refine rl_q rfl rfl rfl (v_assign (v := (Value.slice none 0 0)) rfl) ?_
      refine rl_q rfl rfl rfl (v_assign (v := (Value.int .i64 15)) rfl) ?_
      refine rl_end ?_
      replace hS := hS.nil 3 rfl cI 3
      exact wt_ret2 rfl rfl rfl ⟨_, _, _, _, _, rfl, (hS.sel [3] (by decide)), h⟩
    · replace h := h.2 hp2
      refine wt_cond_f (congrArg Value.bool (Bool.eq_false_iff.2 hp2)) ?_
      refine wt_skip ?_
      refine wt_seq ?_
      refine wl_region wd_wide ?_
      refine rl_q rfl rfl rfl (v_loadn (vs := [(Value.int .i64 g), (Value.slice Ag lg cg)]) rfl Try.underlying24 rfl info_24 ⟨Row.cell (hS.bx 2 rfl) (i := 0) rfl, Row.cell (hS.bx 2 rfl) (i := 1) rfl, trivial⟩) ?_
      refine rl_q rfl rfl rfl (v_move (v := (Value.int .i64 q)) rfl) ?_
      refine rl_q rfl rfl rfl (v_move (v := (Value.slice Ad ld cd)) rfl) ?_
      refine rl_n rfl rfl rfl rfl (n_call0 rfl (am3 rfl rfl rfl) enter_78 ((pok_r34_Left h (no_lt _) (hS.rdr 0 rfl) (hS.rdr 1 rfl)).mono ?_))
      rintro _ w5 ⟨r3, Ar, lr, cr, rfl, hC, h⟩
      replace hS := hS.call1 (hC.widen (flatS (flat_own (fI .i64) _ _ _ _ _) flat0) hS.blt) 3 0 rfl
      clear hC
      refine ⟨_, rfl, ?_⟩
      refine ⟨Stb.none _, ?_⟩
      refine rl_q rfl rfl rfl (v_assign (v := (Value.slice Ar lr cr)) rfl) ?_
      refine rl_q rfl rfl rfl (v_assign (v := (Value.int .i64 0)) rfl) ?_
      refine rl_end ?_
      exact wt_ret2 rfl rfl rfl ⟨_, _, _, _, _, rfl, (hS.sel [3] (by decide)), h⟩
  · replace h := h.2 hp
    refine wt_cond_t (congrArg Value.bool (congrArg Bool.not (decide_eq_false hp))) ?_
    refine wt_seq ?_
    refine wl_region wd_wide ?_
    refine rl_q rfl rfl rfl (v_move (v := (Value.int .i64 r)) rfl) ?_
    refine rl_q rfl rfl rfl (v_assign (v := (Value.slice none 0 0)) rfl) ?_
    refine rl_q rfl rfl rfl (v_assign (v := (Value.int .i64 r)) rfl) ?_
    refine rl_end ?_
    replace hS := hS.nil 3 rfl cI 3
    exact wt_ret2 rfl rfl rfl ⟨_, _, _, _, _, rfl, (hS.sel [3] (by decide)), h⟩
end Go.Proofs.Ytnhmeckhlajeaaa

/- Pure forms of functions, made by program (pf.py), each with the proof that the code does so. -/
namespace Go.Proofs.Ytnhmeckhlajeaaa
open Go Go.RowKit Go.Shelf
set_option linter.unusedVariables false
set_option maxRecDepth 100000
set_option maxHeartbeats 1000000
/-- sandpile/sandpileref25.Flat: what it computes. -/
def pf_r25_Flat (d : List Int) (q : Int) (R : (List Int) → Prop) : Prop :=
(0 + d.length ≤ 1000000000 ∧
((0 ≤ q ∧ q < ((([] ++ d).length : Nat) : Int)) ∧
pf_r17_Total d (fun (r : Int) =>
(In64 ((gi ([] ++ d) q.toNat) - r) ∧
R (([] ++ d).set q.toNat ((gi ([] ++ d) q.toNat) - r))))))
theorem pok_r25_Flat {O : Nat → Prop} {w : World} {d : List Int} {q : Int} {Ad : Option Addr} {ld : Nat} {cd : Nat} {R : (List Int) → Prop} (h : pf_r25_Flat d q R) (hO : ∀ k, O k → k < w.heap.size) (a0 : (FP.sl cI Ad ld cd d).P O w) :
    Calls Try.prog 151 #[(Value.slice Ad ld cd), (Value.int .i64 q)] w fun e w' => ∃ r2 : List Int, ∃ Ar : Option Addr, ∃ lr : Nat, ∃ cr : Nat, e = .returned (Value.slice Ar lr cr) ∧ Sep w no O w' (rl [Res.own cI 3 Ar lr cr r2]) ∧ R r2 := by
  unfold pf_r25_Flat at h
  have hS : Sep w no O w (rl [Res.ro (FP.sl cI Ad ld cd d)]) := Sep.startl hO [(FP.sl cI Ad ld cd d)] ⟨a0, trivial⟩
  refine calls_sh (l := [(Value.slice Ad ld cd), (Value.int .i64 q)]) Try.func151 rfl Try.ntmps151 (Nat.le_of_ble_eq_true rfl) ?_
  refine wt_seq ?_
  refine wl_region wd_wide ?_
  refine rl_q rfl rfl rfl (v_assign (v := (Value.slice none 0 0)) rfl) ?_
  refine rl_end ?_
  refine wt_seq ?_
  refine wl_region wd_wide ?_
  refine rl_n rfl rfl rfl rfl (n_bslice (l := []) (cells := []) (bp0) Try.underlying25 info_3 rfl rfl ?_)
  intro g w2 hN
  replace hS := hS.litf (n := 0) 1 rfl (fI .i64) hN ([] : List Int) rfl (by decide) rfl
  clear hN
  refine ⟨Stb.none _, ?_⟩
  refine rl_q rfl rfl rfl (v_move (v := (Value.slice Ad ld cd)) rfl) ?_
  obtain ⟨hx, h⟩ := h
  refine rl_n rfl rfl rfl rfl (n_app (c := cI) rfl rfl Try.underlying25 Try.underlying25 info_3 rfl rfl (by decide) hS 1 rfl (hS.yr 0 rfl) hx ?_)
  clear hS
  intro A c w3 hS
  refine ⟨Stb.none _, ?_⟩
  refine rl_q rfl rfl rfl (v_assign (v := (Value.slice A (0 + ld) c)) rfl) ?_
  refine rl_end ?_
  refine wt_seq ?_
  refine wp_draw [0, 1, 2, 3, 4, 5, 6, 7, 8] (fun i => match i with | 5 => [0, 1, 2, 3] | _ => []) wd_wide (by kernel_rfl) (by kernel_rfl) ?_
  replace hS := hS.drew
  refine rp_q rfl rfl rfl (v_move (v := (Value.slice A (0 + ld) c)) rfl) ?_
  refine rp_q rfl rfl rfl (v_move (v := (Value.int .i64 q)) rfl) ?_
  obtain ⟨hx2, h⟩ := h
  refine rp_q rfl rfl rfl (v_iaddr rfl rfl Try.underlying25 info_3 (rd_ix (hS.rdo 1 rfl) hx2)) ?_
  refine rp_q rfl rfl rfl (v_load (v := (Value.int .i64 (gi ([] ++ d) q.toNat))) rfl Try.underlying3 rfl (rd_1 (hS.rdo 1 rfl) hx2 (fun q => gi_some q) rfl)) ?_
  refine rp_q rfl rfl rfl (v_move (v := (Value.slice Ad ld cd)) rfl) ?_
  refine rp_n rfl rfl rfl rfl (n_call0 rfl (am1 rfl) enter_38 ((pok_r17_Total h (no_lt _) (hS.rdr 0 rfl)).mono ?_))
  rintro _ w4 ⟨r, rfl, hC, h⟩
  replace hS := hS.pur hC.pure
  clear hC
  refine ⟨_, rfl, ?_⟩
  refine ⟨⟨fun hh => Bool.noConfusion (show false = true from hh), ⟨fun _ => (v_load (v := (Value.int .i64 (gi ([] ++ d) q.toNat))) rfl Try.underlying3 rfl (rd_1 (hS.rdo 1 rfl) hx2 (fun q => gi_some q) rfl)), ⟨fun _ => (v_iaddr rfl rfl Try.underlying25 info_3 (rd_ix (hS.rdo 1 rfl) hx2)), ⟨fun _ => (v_move (v := (Value.int .i64 q)) rfl), ⟨fun _ => (v_move (v := (Value.slice A (0 + ld) c)) rfl), trivial⟩⟩⟩⟩⟩, ?_⟩
  obtain ⟨hi, h⟩ := h
  refine rp_q rfl rfl rfl (v_sub rfl rfl hi) ?_
  refine rp_q rfl rfl rfl (v_iaddr rfl rfl Try.underlying25 info_3 (rd_ix (hS.rdo 1 rfl) hx2)) ?_
  refine rp_n0 rfl rfl rfl (n_store (v := (Value.int .i64 ((gi ([] ++ d) q.toNat) - r))) rfl rfl rfl info_3 (hS.wr 1 rfl rfl hx2) ?_)
  intro w5 e1
  replace hS := hS.st 1 rfl rfl hx2 (x := (gi ([] ++ d) q.toNat) - r) rfl e1
  clear e1
  refine ⟨Stb.none _, ?_⟩
  refine rp_end ?_
  refine wt_seq ?_
  refine wl_region wd_wide ?_
  refine rl_q rfl rfl rfl (v_move (v := (Value.slice A (0 + ld) c)) rfl) ?_
  refine rl_q rfl rfl rfl (v_assign (v := (Value.slice A (0 + ld) c)) rfl) ?_
  refine rl_end ?_
  exact wt_ret1 rfl rfl ⟨_, _, _, _, rfl, (hS.sel [1] (by decide)), h⟩

/-- sandpile/sandpileref25.table: what it computes. -/
def pf_r25_table (d : Int) (d2 : List (Int × Int × Int)) (i : Int) (a : Int) (a2 : List Int) (R : (List (List Int)) → Prop) : Prop :=
(∃ I2 : Nat → (List (List Int)) → Int → Prop, (∃ m0, I2 m0 ([]) 0) ∧ ∀ (m2 : Nat) (v : List (List Int)) (v2 : Int), I2 m2 v v2 → 
((v2 < d →
((v2 = i →
(In64 (v2 + 1) ∧
∃ m3, m3 < m2 ∧ I2 m3 v (v2 + 1))) ∧
(¬ (v2 = i) →
(∃ I3 : Nat → (List Int) → Int → Prop, (∃ m0, I3 m0 ([]) 0) ∧ ∀ (m4 : Nat) (v3 : List Int) (v4 : Int), I3 m4 v3 v4 → 
((v4 < d →
((v4 = i →
(In64 (v4 + 1) ∧
∃ m5, m5 < m4 ∧ I3 m5 v3 (v4 + 1))) ∧
(¬ (v4 = i) →
((v4 = a →
((0 ≤ v2 ∧ v2 < ((a2.length : Nat) : Int)) ∧
(v3.length + 1 ≤ 1000000000 ∧
(In64 (v4 + 1) ∧
∃ m6, m6 < m4 ∧ I3 m6 (v3 ++ [gi a2 v2.toNat]) (v4 + 1))))) ∧
(¬ (v4 = a) →
((v4 = v2 →
pf_r08_Valence d d2 v2 (fun (r : Int) =>
(v3.length + 1 ≤ 1000000000 ∧
(In64 (v4 + 1) ∧
∃ m7, m7 < m4 ∧ I3 m7 (v3 ++ [r]) (v4 + 1))))) ∧
(¬ (v4 = v2) →
pf_r08_Between d d2 v2 v4 (fun (r2 : Int) =>
(In64 (-r2) ∧
(v3.length + 1 ≤ 1000000000 ∧
(In64 (v4 + 1) ∧
∃ m8, m8 < m4 ∧ I3 m8 (v3 ++ [-r2]) (v4 + 1)))))))))))) ∧
(¬ (v4 < d) →
(v.length + 1 ≤ 1000000000 ∧
(In64 (v2 + 1) ∧
∃ m9, m9 < m2 ∧ I2 m9 (v ++ [v3]) (v2 + 1))))))))) ∧
(¬ (v2 < d) →
R v)))
theorem pok_r25_table {O : Nat → Prop} {w : World} {d : Int} {d2 : List (Int × Int × Int)} {i : Int} {a : Int} {a2 : List Int} {Ad : Option Addr} {ld : Nat} {cd : Nat} {Aa : Option Addr} {la : Nat} {ca : Nat} {R : (List (List Int)) → Prop} (h : pf_r25_table d d2 i a a2 R) (hO : ∀ k, O k → k < w.heap.size) (a0 : (FP.sl c3 Ad ld cd d2).P O w) (a1 : (FP.sl cI Aa la ca a2).P O w) :
    Calls Try.prog 153 #[(Value.agg #[(Value.int .i64 d), (Value.slice Ad ld cd)]), (Value.int .i64 i), (Value.int .i64 a), (Value.slice Aa la ca)] w fun e w' => ∃ r3 : List (List Int), ∃ Ar : Option Addr, ∃ lr : Nat, ∃ cr : Nat, e = .returned (Value.slice Ar lr cr) ∧ Sep w no O w' (rl [Res.own (cL cI) 25 Ar lr cr r3]) ∧ R r3 := by
  unfold pf_r25_table at h
  have hS : Sep w no O w (rl [Res.ro (FP.sl c3 Ad ld cd d2), Res.ro (FP.sl cI Aa la ca a2)]) := Sep.startl hO [(FP.sl c3 Ad ld cd d2), (FP.sl cI Aa la ca a2)] ⟨a0, a1, trivial⟩
  refine calls_sh (l := [(Value.agg #[(Value.int .i64 d), (Value.slice Ad ld cd)]), (Value.int .i64 i), (Value.int .i64 a), (Value.slice Aa la ca)]) Try.func153 rfl Try.ntmps153 (Nat.le_of_ble_eq_true rfl) ?_
  refine wt_seq ?_
  refine wl_region wd_wide ?_
  refine rl_n rfl rfl rfl rfl (n_box (v := (Value.agg #[(Value.int .i64 d), (Value.slice Ad ld cd)])) rfl ?_)
  intro g w2 hN
  replace hS : Sep w no O w2 (stl _ 2 (Res.box 24 g [(Value.int .i64 d), (Value.slice Ad ld cd)])) := hS.new 2 rfl hN
  clear hN
  refine ⟨Stb.none _, ?_⟩
  refine rl_q rfl rfl rfl (v_assign (v := (Value.slice none 0 0)) rfl) ?_
  refine rl_end ?_
  refine wt_seq ?_
  refine wl_region wd_wide ?_
  refine rl_q rfl rfl rfl (v_assign (v := (Value.slice none 0 0)) rfl) ?_
  refine rl_end ?_
  refine wt_seq ?_
  refine wt_seq ?_
  refine wl_region wd_wide ?_
  refine rl_q rfl rfl rfl (v_assign (v := (Value.int .i64 0)) rfl) ?_
  refine rl_end ?_
  refine wt_block ?_
  replace hS := hS.nil 3 rfl (cL cI) 25
  obtain ⟨I2, ⟨m0, h0⟩, hr⟩ := h
  refine wt_loop (fun m E ds w' => ∃ v : List (List Int), ∃ v2 : Int, ∃ Av : Option Addr, ∃ lv : Nat, ∃ cv : Nat, I2 m v v2 ∧ ds = [] ∧ E 1 = (Value.int .i64 i) ∧ E 2 = (Value.int .i64 a) ∧ E 3 = (Value.slice Aa la ca) ∧ E 4 = (Value.pointer (some (⟨g, 0, none⟩ : Addr))) ∧ E 9 = (Value.slice Av lv cv) ∧ E 10 = (Value.int .i64 v2) ∧ Sep w no O w' (rl [Res.own (cL cI) 25 Av lv cv v, Res.ro (FP.sl cI Aa la ca a2), Res.box 24 g [(Value.int .i64 d), (Value.slice Ad ld cd)], Res.ro (FP.sl c3 Ad ld cd d2)])) m0 ⟨_, _, _, _, _, h0, rfl, rfl, rfl, rfl, rfl, rfl, rfl, (hS.sel [3, 1, 2, 0] (by decide))⟩ ?_
  clear h0 hS
  rintro m2 E ds w3 ⟨v, v2, Av, lv, cv, h, rfl, hE1, hE2, hE3, hE4, hE9, hE10, hS⟩ again
  replace h := hr m2 v v2 h
  clear hr
  refine wt_seq ?_
  refine wt_seq ?_
  refine wl_region wd_wide ?_
  refine rl_q rfl rfl rfl (v_move (v := (Value.int .i64 v2)) hE10) ?_
  refine rl_q rfl rfl rfl (v_faddr hE4 Try.underlying24 rfl info_3) ?_
  refine rl_q rfl rfl rfl (v_load rfl Try.underlying3 rfl (Row.cell (hS.bx 2 rfl) (i := 0) rfl)) ?_
  refine rl_q rfl rfl rfl (v_lss rfl rfl) ?_
  refine rl_end ?_
  by_cases hp : v2 < d
  · replace h := h.1 hp
    refine wt_cond_t (congrArg Value.bool (decide_eq_true hp)) ?_
    refine wt_skip ?_
    refine wt_seq ?_
    refine wt_block ?_
    refine wt_seq ?_
    refine wt_seq ?_
    refine wl_region wd_wide ?_
    refine rl_q rfl rfl rfl (v_move (v := (Value.int .i64 v2)) hE10) ?_
    refine rl_q rfl rfl rfl (v_move (v := (Value.int .i64 i)) hE1) ?_
    refine rl_q rfl rfl rfl (v_eql rfl rfl) ?_
    refine rl_end ?_
    by_cases hp2 : v2 = i
    · replace h := h.1 hp2
      refine wt_cond_t (congrArg Value.bool (decide_eq_true hp2)) ?_
      refine wt_exit rfl ?_
      refine wl_region wd_wide ?_
      refine rl_q rfl rfl rfl (v_move (v := (Value.int .i64 v2)) hE10) ?_
      obtain ⟨hi, h⟩ := h
      refine rl_q rfl rfl rfl (v_add rfl rfl hi) ?_
      refine rl_q rfl rfl rfl (v_assign (v := (Value.int .i64 (v2 + 1))) rfl) ?_
      refine rl_end ?_
      obtain ⟨mq, hlt, h⟩ := h
      exact again mq _ _ _ ⟨_, _, _, _, _, h, rfl, hE1, hE2, hE3, hE4, hE9, rfl, (hS.sel [0, 1, 2, 3] (by decide))⟩ hlt
    · replace h := h.2 hp2
      refine wt_cond_f (congrArg Value.bool (decide_eq_false hp2)) ?_
      refine wt_skip ?_
      refine wt_seq ?_
      refine wl_region wd_wide ?_
      refine rl_q rfl rfl rfl (v_assign (v := (Value.slice none 0 0)) rfl) ?_
      refine rl_end ?_
      refine wt_seq ?_
      refine wt_seq ?_
      refine wl_region wd_wide ?_
      refine rl_q rfl rfl rfl (v_assign (v := (Value.int .i64 0)) rfl) ?_
      refine rl_end ?_
      refine wt_block ?_
      replace hS := hS.nil 4 rfl cI 3
      obtain ⟨I3, ⟨m0, h0⟩, hr⟩ := h
      refine wt_loop (fun m E ds w' => ∃ v3 : List Int, ∃ v4 : Int, ∃ Av2 : Option Addr, ∃ lv2 : Nat, ∃ cv2 : Nat, I3 m v3 v4 ∧ ds = [] ∧ E 1 = (Value.int .i64 i) ∧ E 2 = (Value.int .i64 a) ∧ E 3 = (Value.slice Aa la ca) ∧ E 4 = (Value.pointer (some (⟨g, 0, none⟩ : Addr))) ∧ E 9 = (Value.slice Av lv cv) ∧ E 10 = (Value.int .i64 v2) ∧ E 11 = (Value.slice Av2 lv2 cv2) ∧ E 12 = (Value.int .i64 v4) ∧ Sep w no O w' (rl [Res.own cI 3 Av2 lv2 cv2 v3, Res.ro (FP.sl cI Aa la ca a2), Res.box 24 g [(Value.int .i64 d), (Value.slice Ad ld cd)], Res.ro (FP.sl c3 Ad ld cd d2), Res.own (cL cI) 25 Av lv cv v])) m0 ⟨_, _, _, _, _, h0, rfl, hE1, hE2, hE3, hE4, hE9, hE10, rfl, rfl, (hS.sel [4, 1, 2, 3, 0] (by decide))⟩ ?_
      clear h0 hS
      rintro m4 E ds w4 ⟨v3, v4, Av2, lv2, cv2, h, rfl, hE1, hE2, hE3, hE4, hE9, hE10, hE11, hE12, hS⟩ again2
      replace h := hr m4 v3 v4 h
      clear hr
      refine wt_seq ?_
      refine wt_seq ?_
      refine wl_region wd_wide ?_
      refine rl_q rfl rfl rfl (v_move (v := (Value.int .i64 v4)) hE12) ?_
      refine rl_q rfl rfl rfl (v_faddr hE4 Try.underlying24 rfl info_3) ?_
      refine rl_q rfl rfl rfl (v_load rfl Try.underlying3 rfl (Row.cell (hS.bx 2 rfl) (i := 0) rfl)) ?_
      refine rl_q rfl rfl rfl (v_lss rfl rfl) ?_
      refine rl_end ?_
      by_cases hp3 : v4 < d
      · replace h := h.1 hp3
        refine wt_cond_t (congrArg Value.bool (decide_eq_true hp3)) ?_
        refine wt_skip ?_
        refine wt_seq ?_
        refine wt_block ?_
        refine wt_seq ?_
        refine wt_seq ?_
        refine wl_region wd_wide ?_
        refine rl_q rfl rfl rfl (v_move (v := (Value.int .i64 v4)) hE12) ?_
        refine rl_q rfl rfl rfl (v_move (v := (Value.int .i64 i)) hE1) ?_
        refine rl_q rfl rfl rfl (v_eql rfl rfl) ?_
        refine rl_end ?_
        by_cases hp4 : v4 = i
        · replace h := h.1 hp4
          refine wt_cond_t (congrArg Value.bool (decide_eq_true hp4)) ?_
          refine wt_exit rfl ?_
          refine wl_region wd_wide ?_
          refine rl_q rfl rfl rfl (v_move (v := (Value.int .i64 v4)) hE12) ?_
          obtain ⟨hi2, h⟩ := h
          refine rl_q rfl rfl rfl (v_add rfl rfl hi2) ?_
          refine rl_q rfl rfl rfl (v_assign (v := (Value.int .i64 (v4 + 1))) rfl) ?_
          refine rl_end ?_
          obtain ⟨mq, hlt, h⟩ := h
          exact again2 mq _ _ _ ⟨_, _, _, _, _, h, rfl, hE1, hE2, hE3, hE4, hE9, hE10, hE11, rfl, (hS.sel [0, 1, 2, 3, 4] (by decide))⟩ hlt
        · replace h := h.2 hp4
          refine wt_cond_f (congrArg Value.bool (decide_eq_false hp4)) ?_
          refine wt_skip ?_
          refine wt_block ?_
          refine wt_seq ?_
          refine wl_region wd_wide ?_
          refine rl_q rfl rfl rfl (v_move (v := (Value.int .i64 v4)) hE12) ?_
          refine rl_q rfl rfl rfl (v_move (v := (Value.int .i64 a)) hE2) ?_
          refine rl_q rfl rfl rfl (v_eql rfl rfl) ?_
          refine rl_q rfl rfl rfl (v_assign (v := (Value.bool (decide (v4 = a)))) rfl) ?_
          refine rl_end ?_
          by_cases hp5 : v4 = a
          · replace h := h.1 hp5
            refine wt_cond_t (congrArg Value.bool (decide_eq_true hp5)) ?_
            refine wl_region wd_wide ?_
            refine rl_q rfl rfl rfl (v_move (v := (Value.slice Av2 lv2 cv2)) hE11) ?_
            refine rl_q rfl rfl rfl (v_move (v := (Value.slice Aa la ca)) hE3) ?_
            refine rl_q rfl rfl rfl (v_move (v := (Value.int .i64 v2)) hE10) ?_
            obtain ⟨hx, h⟩ := h
            refine rl_q rfl rfl rfl (v_iaddr rfl rfl Try.underlying25 info_3 (rd_ix (hS.rdr 1 rfl) hx)) ?_
            refine rl_q rfl rfl rfl (v_load (v := (Value.int .i64 (gi a2 v2.toNat))) rfl Try.underlying3 rfl (rd_1 (hS.rdr 1 rfl) hx (fun q => gi_some q) rfl)) ?_
            refine rl_n rfl rfl rfl rfl (n_bslice (l := [(0, (Value.int .i64 (gi a2 v2.toNat)))]) (cells := [(Value.int .i64 (gi a2 v2.toNat))]) (bp1 rfl) Try.underlying25 info_3 rfl rfl ?_)
            intro g2 w5 hN
            replace hS := hS.litf (n := 1) 5 rfl (fI .i64) hN ([gi a2 v2.toNat] : List Int) rfl (by decide) rfl
            clear hN
            refine ⟨Stb.none _, ?_⟩
            obtain ⟨hx2, h⟩ := h
            refine rl_n rfl rfl rfl rfl (n_app (c := cI) rfl rfl Try.underlying25 Try.underlying25 info_3 rfl rfl (by decide) hS 0 rfl (hS.yo 5 rfl) hx2 ?_)
            clear hS
            intro A c w6 hS
            refine ⟨Stb.none _, ?_⟩
            refine rl_q rfl rfl rfl (v_assign (v := (Value.slice A (lv2 + 1) c)) rfl) ?_
            refine rl_end ?_
            refine wt_inBlock ?_
            refine wt_inBlock ?_
            refine wl_region wd_wide ?_
            refine rl_q rfl rfl rfl (v_move (v := (Value.int .i64 v4)) hE12) ?_
            obtain ⟨hi3, h⟩ := h
            refine rl_q rfl rfl rfl (v_add rfl rfl hi3) ?_
            refine rl_q rfl rfl rfl (v_assign (v := (Value.int .i64 (v4 + 1))) rfl) ?_
            refine rl_end ?_
            obtain ⟨mq, hlt, h⟩ := h
            exact again2 mq _ _ _ ⟨_, _, _, _, _, h, rfl, hE1, hE2, hE3, hE4, hE9, hE10, rfl, rfl, (hS.sel [0, 1, 2, 3, 4] (by decide))⟩ hlt
          · replace h := h.2 hp5
            refine wt_cond_f (congrArg Value.bool (decide_eq_false hp5)) ?_
            refine wt_seq ?_
            refine wl_region wd_wide ?_
            refine rl_q rfl rfl rfl (v_move (v := (Value.int .i64 v4)) hE12) ?_
            refine rl_q rfl rfl rfl (v_move (v := (Value.int .i64 v2)) hE10) ?_
            refine rl_q rfl rfl rfl (v_eql rfl rfl) ?_
            refine rl_q rfl rfl rfl (v_assign (v := (Value.bool (decide (v4 = v2)))) rfl) ?_
            refine rl_end ?_
            by_cases hp6 : v4 = v2
            · replace h := h.1 hp6
              refine wt_cond_t (congrArg Value.bool (decide_eq_true hp6)) ?_
              refine wl_region wd_wide ?_
              refine rl_q rfl rfl rfl (v_move (v := (Value.slice Av2 lv2 cv2)) hE11) ?_
              refine rl_q rfl rfl rfl (v_loadn (vs := [(Value.int .i64 d), (Value.slice Ad ld cd)]) hE4 Try.underlying24 rfl info_24 ⟨Row.cell (hS.bx 2 rfl) (i := 0) rfl, Row.cell (hS.bx 2 rfl) (i := 1) rfl, trivial⟩) ?_
              refine rl_q rfl rfl rfl (v_move (v := (Value.int .i64 v2)) hE10) ?_
              refine rl_n rfl rfl rfl rfl (n_call0 rfl (am2 rfl rfl) enter_168 ((pok_r08_Valence h (no_lt _) (hS.rdr 3 rfl)).mono ?_))
              rintro _ w7 ⟨r, rfl, hC, h⟩
              replace hS := hS.pur hC.pure
              clear hC
              refine ⟨_, rfl, ?_⟩
              refine ⟨Stb.none _, ?_⟩
              refine rl_n rfl rfl rfl rfl (n_bslice (l := [(0, (Value.int .i64 r))]) (cells := [(Value.int .i64 r)]) (bp1 rfl) Try.underlying25 info_3 rfl rfl ?_)
              intro g3 w8 hN
              replace hS := hS.litf (n := 1) 5 rfl (fI .i64) hN ([r] : List Int) rfl (by decide) rfl
              clear hN
              refine ⟨Stb.none _, ?_⟩
              obtain ⟨hx3, h⟩ := h
              refine rl_n rfl rfl rfl rfl (n_app (c := cI) rfl rfl Try.underlying25 Try.underlying25 info_3 rfl rfl (by decide) hS 0 rfl (hS.yo 5 rfl) hx3 ?_)
              clear hS
              intro A2 c2 w9 hS
              refine ⟨Stb.none _, ?_⟩
              refine rl_q rfl rfl rfl (v_assign (v := (Value.slice A2 (lv2 + 1) c2)) rfl) ?_
              refine rl_end ?_
              refine wt_inBlock ?_
              refine wt_inBlock ?_
              refine wl_region wd_wide ?_
              refine rl_q rfl rfl rfl (v_move (v := (Value.int .i64 v4)) hE12) ?_
              obtain ⟨hi4, h⟩ := h
              refine rl_q rfl rfl rfl (v_add rfl rfl hi4) ?_
              refine rl_q rfl rfl rfl (v_assign (v := (Value.int .i64 (v4 + 1))) rfl) ?_
              refine rl_end ?_
              obtain ⟨mq, hlt, h⟩ := h
              exact again2 mq _ _ _ ⟨_, _, _, _, _, h, rfl, hE1, hE2, hE3, hE4, hE9, hE10, rfl, rfl, (hS.sel [0, 1, 2, 3, 4] (by decide))⟩ hlt
            · replace h := h.2 hp6
              refine wt_cond_f (congrArg Value.bool (decide_eq_false hp6)) ?_
              refine wl_region wd_wide ?_
              refine rl_q rfl rfl rfl (v_move (v := (Value.slice Av2 lv2 cv2)) hE11) ?_
              refine rl_q rfl rfl rfl (v_loadn (vs := [(Value.int .i64 d), (Value.slice Ad ld cd)]) hE4 Try.underlying24 rfl info_24 ⟨Row.cell (hS.bx 2 rfl) (i := 0) rfl, Row.cell (hS.bx 2 rfl) (i := 1) rfl, trivial⟩) ?_
              refine rl_q rfl rfl rfl (v_move (v := (Value.int .i64 v2)) hE10) ?_
              refine rl_q rfl rfl rfl (v_move (v := (Value.int .i64 v4)) hE12) ?_
              refine rl_n rfl rfl rfl rfl (n_call0 rfl (am3 rfl rfl rfl) enter_136 ((pok_r08_Between h (no_lt _) (hS.rdr 3 rfl)).mono ?_))
              rintro _ w10 ⟨r2, rfl, hC, h⟩
              replace hS := hS.pur hC.pure
              clear hC
              refine ⟨_, rfl, ?_⟩
              refine ⟨Stb.none _, ?_⟩
              obtain ⟨hi5, h⟩ := h
              refine rl_q rfl rfl rfl (v_neg rfl hi5) ?_
              refine rl_n rfl rfl rfl rfl (n_bslice (l := [(0, (Value.int .i64 (-r2)))]) (cells := [(Value.int .i64 (-r2))]) (bp1 rfl) Try.underlying25 info_3 rfl rfl ?_)
              intro g4 w11 hN
              replace hS := hS.litf (n := 1) 5 rfl (fI .i64) hN ([-r2] : List Int) rfl (by decide) rfl
              clear hN
              refine ⟨Stb.none _, ?_⟩
              obtain ⟨hx4, h⟩ := h
              refine rl_n rfl rfl rfl rfl (n_app (c := cI) rfl rfl Try.underlying25 Try.underlying25 info_3 rfl rfl (by decide) hS 0 rfl (hS.yo 5 rfl) hx4 ?_)
              clear hS
              intro A3 c3 w12 hS
              refine ⟨Stb.none _, ?_⟩
              refine rl_q rfl rfl rfl (v_assign (v := (Value.slice A3 (lv2 + 1) c3)) rfl) ?_
              refine rl_end ?_
              refine wt_inBlock ?_
              refine wt_inBlock ?_
              refine wl_region wd_wide ?_
              refine rl_q rfl rfl rfl (v_move (v := (Value.int .i64 v4)) hE12) ?_
              obtain ⟨hi6, h⟩ := h
              refine rl_q rfl rfl rfl (v_add rfl rfl hi6) ?_
              refine rl_q rfl rfl rfl (v_assign (v := (Value.int .i64 (v4 + 1))) rfl) ?_
              refine rl_end ?_
              obtain ⟨mq, hlt, h⟩ := h
              exact again2 mq _ _ _ ⟨_, _, _, _, _, h, rfl, hE1, hE2, hE3, hE4, hE9, hE10, rfl, rfl, (hS.sel [0, 1, 2, 3, 4] (by decide))⟩ hlt
      · replace h := h.2 hp3
        refine wt_cond_f (congrArg Value.bool (decide_eq_false hp3)) ?_
        refine wt_exit rfl ?_
        refine wl_region wd_wide ?_
        refine rl_q rfl rfl rfl (v_move (v := (Value.slice Av lv cv)) hE9) ?_
        refine rl_q rfl rfl rfl (v_move (v := (Value.slice Av2 lv2 cv2)) hE11) ?_
        replace hS := hS.frz 0 rfl
        refine rl_n rfl rfl rfl rfl (n_bslice (l := [(0, (Value.slice Av2 lv2 cv2))]) (cells := [(Value.slice Av2 lv2 cv2)]) (bp1 rfl) Try.underlying161 info_25 rfl rfl ?_)
        intro g5 w13 hN
        replace hS := hS.lit (n := 1) (c := (cL cI)) 5 rfl hN ([v3] : List (List Int)) rfl (by decide) ⟨[(Value.slice Av2 lv2 cv2)], _, rfl, (ro_R (hS.ro 0 rfl)), rfl⟩
        clear hN
        refine ⟨Stb.none _, ?_⟩
        obtain ⟨hx5, h⟩ := h
        refine rl_n rfl rfl rfl rfl (n_app (c := (cL cI)) rfl rfl Try.underlying161 Try.underlying161 info_25 rfl rfl (by decide) hS 4 rfl (hS.yo 5 rfl) hx5 ?_)
        clear hS
        intro A4 c4 w14 hS
        refine ⟨Stb.none _, ?_⟩
        refine rl_q rfl rfl rfl (v_assign (v := (Value.slice A4 (lv + 1) c4)) rfl) ?_
        refine rl_end ?_
        refine wt_inBlock ?_
        refine wl_region wd_wide ?_
        refine rl_q rfl rfl rfl (v_move (v := (Value.int .i64 v2)) hE10) ?_
        obtain ⟨hi7, h⟩ := h
        refine rl_q rfl rfl rfl (v_add rfl rfl hi7) ?_
        refine rl_q rfl rfl rfl (v_assign (v := (Value.int .i64 (v2 + 1))) rfl) ?_
        refine rl_end ?_
        obtain ⟨mq, hlt, h⟩ := h
        exact again mq _ _ _ ⟨_, _, _, _, _, h, rfl, hE1, hE2, hE3, hE4, rfl, rfl, (hS.sel [4, 1, 2, 3] (by decide))⟩ hlt
  · replace h := h.2 hp
    refine wt_cond_f (congrArg Value.bool (decide_eq_false hp)) ?_
    refine wt_exit rfl ?_
    refine wt_seq ?_
    refine wl_region wd_wide ?_
    refine rl_q rfl rfl rfl (v_move (v := (Value.slice Av lv cv)) hE9) ?_
    refine rl_q rfl rfl rfl (v_assign (v := (Value.slice Av lv cv)) rfl) ?_
    refine rl_end ?_
    exact wt_ret1 rfl rfl ⟨_, _, _, _, rfl, (hS.sel [0] (by decide)), h⟩

/-- sandpile/sandpileref25.det: what it computes. -/
def pfr_r25_det (Rec : (List (List Int)) → (Int → Prop) → Prop) (d : List (List Int)) (R : Int → Prop) : Prop :=
((((d.length : Nat) : Int) = 0 →
R 1) ∧
(¬ (((d.length : Nat) : Int) = 0) →
(∃ I2 : Nat → Int → Int → Int → Prop, (∃ m0, I2 m0 0 1 0) ∧ ∀ (m2 : Nat) (v : Int) (v2 : Int) (v3 : Int), I2 m2 v v2 v3 → 
((v3 < ((d.length : Nat) : Int) →
(∃ I3 : Nat → (List (List Int)) → Int → Prop, (∃ m0, I3 m0 ([]) 1) ∧ ∀ (m3 : Nat) (v4 : List (List Int)) (v5 : Int), I3 m3 v4 v5 → 
((v5 < ((d.length : Nat) : Int) →
(∃ I4 : Nat → (List Int) → Int → Prop, (∃ m0, I4 m0 ([]) 0) ∧ ∀ (m4 : Nat) (v6 : List Int) (v7 : Int), I4 m4 v6 v7 → 
((v7 < ((d.length : Nat) : Int) →
((v7 = v3 →
(In64 (v7 + 1) ∧
∃ m5, m5 < m4 ∧ I4 m5 v6 (v7 + 1))) ∧
(¬ (v7 = v3) →
((0 ≤ v5 ∧ v5 < ((d.length : Nat) : Int)) ∧
((0 ≤ v7 ∧ v7 < (((gx d v5.toNat).length : Nat) : Int)) ∧
(v6.length + 1 ≤ 1000000000 ∧
(In64 (v7 + 1) ∧
∃ m6, m6 < m4 ∧ I4 m6 (v6 ++ [gi (gx d v5.toNat) v7.toNat]) (v7 + 1)))))))) ∧
(¬ (v7 < ((d.length : Nat) : Int)) →
(v4.length + 1 ≤ 1000000000 ∧
(In64 (v5 + 1) ∧
∃ m7, m7 < m3 ∧ I3 m7 (v4 ++ [v6]) (v5 + 1))))))) ∧
(¬ (v5 < ((d.length : Nat) : Int)) →
((0 ≤ (0 : Int) ∧ (0 : Int) < ((d.length : Nat) : Int)) ∧
((0 ≤ v3 ∧ v3 < (((gx d (0 : Int).toNat).length : Nat) : Int)) ∧
(((gi (gx d (0 : Int).toNat) v3.toNat) = 0 →
(In64 (-v2) ∧
(In64 (v3 + 1) ∧
∃ m8, m8 < m2 ∧ I2 m8 v (-v2) (v3 + 1)))) ∧
(¬ ((gi (gx d (0 : Int).toNat) v3.toNat) = 0) →
(In64 (v2 * (gi (gx d (0 : Int).toNat) v3.toNat)) ∧
Rec v4 (fun (r : Int) =>
(In64 ((v2 * (gi (gx d (0 : Int).toNat) v3.toNat)) * r) ∧
(In64 (v + ((v2 * (gi (gx d (0 : Int).toNat) v3.toNat)) * r)) ∧
(In64 (-v2) ∧
(In64 (v3 + 1) ∧
∃ m9, m9 < m2 ∧ I2 m9 (v + ((v2 * (gi (gx d (0 : Int).toNat) v3.toNat)) * r)) (-v2) (v3 + 1))))))))))))))) ∧
(¬ (v3 < ((d.length : Nat) : Int)) →
R v)))))
def pf_r25_det : Nat → (List (List Int)) → (Int → Prop) → Prop
  | 0 => fun _ _ => False
  | n + 1 => fun d R => pfr_r25_det (pf_r25_det n) d R
theorem pokr_r25_det {Rec : (List (List Int)) → (Int → Prop) → Prop} (hrec : ∀ {O : Nat → Prop} {w : World} {d : List (List Int)} {Ad : Option Addr} {ld : Nat} {cd : Nat} {R : Int → Prop} (h : Rec d R) (hO : ∀ k, O k → k < w.heap.size) (a0 : (FP.sl (cL cI) Ad ld cd d).P O w), Calls Try.prog 152 #[(Value.slice Ad ld cd)] w fun e w' => ∃ r2 : Int, e = .returned (Value.int .i64 r2) ∧ Sep w no O w' (rl []) ∧ R r2) {O : Nat → Prop} {w : World} {d : List (List Int)} {Ad : Option Addr} {ld : Nat} {cd : Nat} {R : Int → Prop} (h : pfr_r25_det Rec d R) (hO : ∀ k, O k → k < w.heap.size) (a0 : (FP.sl (cL cI) Ad ld cd d).P O w) :
    Calls Try.prog 152 #[(Value.slice Ad ld cd)] w fun e w' => ∃ r2 : Int, e = .returned (Value.int .i64 r2) ∧ Sep w no O w' (rl []) ∧ R r2 := by
  unfold pfr_r25_det at h
  have hS : Sep w no O w (rl [Res.ro (FP.sl (cL cI) Ad ld cd d)]) := Sep.startl hO [(FP.sl (cL cI) Ad ld cd d)] ⟨a0, trivial⟩
  refine calls_sh (l := [(Value.slice Ad ld cd)]) Try.func152 rfl Try.ntmps152 (Nat.le_of_ble_eq_true rfl) ?_
  refine wt_seq ?_
  refine wl_region wd_wide ?_
  refine rl_q rfl rfl rfl (v_assign (v := (Value.int .i64 0)) rfl) ?_
  refine rl_end ?_
  refine wt_seq ?_
  refine wt_seq ?_
  refine wl_region wd_wide ?_
  refine rl_q rfl rfl rfl (v_move (v := (Value.slice Ad ld cd)) rfl) ?_
  refine rl_q rfl rfl rfl (v_lenx (n := d.length) rfl Try.underlying161 (rd_len (hS.rdr 0 rfl))) ?_
  refine rl_q rfl rfl rfl (v_eql rfl rfl) ?_
  refine rl_end ?_
  by_cases hp : ((d.length : Nat) : Int) = 0
  · replace h := h.1 hp
    refine wt_cond_t (congrArg Value.bool (decide_eq_true hp)) ?_
    refine wt_seq ?_
    refine wl_region wd_wide ?_
    refine rl_q rfl rfl rfl (v_assign (v := (Value.int .i64 1)) rfl) ?_
    refine rl_end ?_
    exact wt_ret1 rfl rfl ⟨_, rfl, (hS.sel [] (by decide)), h⟩
  · replace h := h.2 hp
    refine wt_cond_f (congrArg Value.bool (decide_eq_false hp)) ?_
    refine wt_skip ?_
    refine wt_seq ?_
    refine wl_region wd_wide ?_
    refine rl_q rfl rfl rfl (v_assign (v := (Value.int .i64 0)) rfl) ?_
    refine rl_q rfl rfl rfl (v_assign (v := (Value.int .i64 1)) rfl) ?_
    refine rl_end ?_
    refine wt_seq ?_
    refine wt_seq ?_
    refine wl_region wd_wide ?_
    refine rl_q rfl rfl rfl (v_assign (v := (Value.int .i64 0)) rfl) ?_
    refine rl_end ?_
    refine wt_block ?_
    obtain ⟨I2, ⟨m0, h0⟩, hr⟩ := h
    refine wt_loop (fun m E ds w' => ∃ v : Int, ∃ v2 : Int, ∃ v3 : Int, I2 m v v2 v3 ∧ ds = [] ∧ E 0 = (Value.slice Ad ld cd) ∧ E 3 = (Value.int .i64 v) ∧ E 4 = (Value.int .i64 v2) ∧ E 5 = (Value.int .i64 v3) ∧ Sep w no O w' (rl [Res.ro (FP.sl (cL cI) Ad ld cd d)])) m0 ⟨_, _, _, h0, rfl, rfl, rfl, rfl, rfl, (hS.sel [0] (by decide))⟩ ?_
    clear h0 hS
    rintro m2 E ds w2 ⟨v, v2, v3, h, rfl, hE0, hE3, hE4, hE5, hS⟩ again
    replace h := hr m2 v v2 v3 h
    clear hr
    refine wt_seq ?_
    refine wt_seq ?_
    refine wl_region wd_wide ?_
    refine rl_q rfl rfl rfl (v_move (v := (Value.int .i64 v3)) hE5) ?_
    refine rl_q rfl rfl rfl (v_move (v := (Value.slice Ad ld cd)) hE0) ?_
    refine rl_q rfl rfl rfl (v_lenx (n := d.length) rfl Try.underlying161 (rd_len (hS.rdr 0 rfl))) ?_
    refine rl_q rfl rfl rfl (v_lss rfl rfl) ?_
    refine rl_end ?_
    by_cases hp2 : v3 < ((d.length : Nat) : Int)
    · replace h := h.1 hp2
      refine wt_cond_t (congrArg Value.bool (decide_eq_true hp2)) ?_
      refine wt_skip ?_
      refine wt_seq ?_
      refine wt_block ?_
      refine wt_seq ?_
      refine wl_region wd_wide ?_
      refine rl_q rfl rfl rfl (v_assign (v := (Value.slice none 0 0)) rfl) ?_
      refine rl_end ?_
      refine wt_seq ?_
      refine wt_seq ?_
      refine wl_region wd_wide ?_
      refine rl_q rfl rfl rfl (v_assign (v := (Value.int .i64 1)) rfl) ?_
      refine rl_end ?_
      refine wt_block ?_
      replace hS := hS.nil 1 rfl (cL cI) 25
      obtain ⟨I3, ⟨m0, h0⟩, hr⟩ := h
      refine wt_loop (fun m E ds w' => ∃ v4 : List (List Int), ∃ v5 : Int, ∃ Av : Option Addr, ∃ lv : Nat, ∃ cv : Nat, I3 m v4 v5 ∧ ds = [] ∧ E 0 = (Value.slice Ad ld cd) ∧ E 3 = (Value.int .i64 v) ∧ E 4 = (Value.int .i64 v2) ∧ E 5 = (Value.int .i64 v3) ∧ E 6 = (Value.slice Av lv cv) ∧ E 7 = (Value.int .i64 v5) ∧ Sep w no O w' (rl [Res.own (cL cI) 25 Av lv cv v4, Res.ro (FP.sl (cL cI) Ad ld cd d)])) m0 ⟨_, _, _, _, _, h0, rfl, hE0, hE3, hE4, hE5, rfl, rfl, (hS.sel [1, 0] (by decide))⟩ ?_
      clear h0 hS
      rintro m3 E ds w3 ⟨v4, v5, Av, lv, cv, h, rfl, hE0, hE3, hE4, hE5, hE6, hE7, hS⟩ again2
      replace h := hr m3 v4 v5 h
      clear hr
      refine wt_seq ?_
      refine wt_seq ?_
      refine wl_region wd_wide ?_
      refine rl_q rfl rfl rfl (v_move (v := (Value.int .i64 v5)) hE7) ?_
      refine rl_q rfl rfl rfl (v_move (v := (Value.slice Ad ld cd)) hE0) ?_
      refine rl_q rfl rfl rfl (v_lenx (n := d.length) rfl Try.underlying161 (rd_len (hS.rdr 1 rfl))) ?_
      refine rl_q rfl rfl rfl (v_lss rfl rfl) ?_
      refine rl_end ?_
      by_cases hp3 : v5 < ((d.length : Nat) : Int)
      · replace h := h.1 hp3
        refine wt_cond_t (congrArg Value.bool (decide_eq_true hp3)) ?_
        refine wt_skip ?_
        refine wt_seq ?_
        refine wt_block ?_
        refine wt_seq ?_
        refine wl_region wd_wide ?_
        refine rl_q rfl rfl rfl (v_assign (v := (Value.slice none 0 0)) rfl) ?_
        refine rl_end ?_
        refine wt_seq ?_
        refine wt_seq ?_
        refine wl_region wd_wide ?_
        refine rl_q rfl rfl rfl (v_assign (v := (Value.int .i64 0)) rfl) ?_
        refine rl_end ?_
        refine wt_block ?_
        replace hS := hS.nil 2 rfl cI 3
        obtain ⟨I4, ⟨m0, h0⟩, hr⟩ := h
        refine wt_loop (fun m E ds w' => ∃ v6 : List Int, ∃ v7 : Int, ∃ Av2 : Option Addr, ∃ lv2 : Nat, ∃ cv2 : Nat, I4 m v6 v7 ∧ ds = [] ∧ E 0 = (Value.slice Ad ld cd) ∧ E 3 = (Value.int .i64 v) ∧ E 4 = (Value.int .i64 v2) ∧ E 5 = (Value.int .i64 v3) ∧ E 6 = (Value.slice Av lv cv) ∧ E 7 = (Value.int .i64 v5) ∧ E 8 = (Value.slice Av2 lv2 cv2) ∧ E 9 = (Value.int .i64 v7) ∧ Sep w no O w' (rl [Res.own cI 3 Av2 lv2 cv2 v6, Res.ro (FP.sl (cL cI) Ad ld cd d), Res.own (cL cI) 25 Av lv cv v4])) m0 ⟨_, _, _, _, _, h0, rfl, hE0, hE3, hE4, hE5, hE6, hE7, rfl, rfl, (hS.sel [2, 1, 0] (by decide))⟩ ?_
        clear h0 hS
        rintro m4 E ds w4 ⟨v6, v7, Av2, lv2, cv2, h, rfl, hE0, hE3, hE4, hE5, hE6, hE7, hE8, hE9, hS⟩ again3
        replace h := hr m4 v6 v7 h
        clear hr
        refine wt_seq ?_
        refine wt_seq ?_
        refine wl_region wd_wide ?_
        refine rl_q rfl rfl rfl (v_move (v := (Value.int .i64 v7)) hE9) ?_
        refine rl_q rfl rfl rfl (v_move (v := (Value.slice Ad ld cd)) hE0) ?_
        refine rl_q rfl rfl rfl (v_lenx (n := d.length) rfl Try.underlying161 (rd_len (hS.rdr 1 rfl))) ?_
        refine rl_q rfl rfl rfl (v_lss rfl rfl) ?_
        refine rl_end ?_
        by_cases hp4 : v7 < ((d.length : Nat) : Int)
        · replace h := h.1 hp4
          refine wt_cond_t (congrArg Value.bool (decide_eq_true hp4)) ?_
          refine wt_skip ?_
          refine wt_seq ?_
          refine wt_block ?_
          refine wt_seq ?_
          refine wl_region wd_wide ?_
          refine rl_q rfl rfl rfl (v_move (v := (Value.int .i64 v7)) hE9) ?_
          refine rl_q rfl rfl rfl (v_move (v := (Value.int .i64 v3)) hE5) ?_
          refine rl_q rfl rfl rfl (v_neq rfl rfl) ?_
          refine rl_end ?_
          by_cases hp5 : v7 = v3
          · replace h := h.1 hp5
            refine wt_cond_f (congrArg Value.bool (congrArg Bool.not (decide_eq_true hp5))) ?_
            refine wt_skip ?_
            refine wt_inBlock ?_
            refine wl_region wd_wide ?_
            refine rl_q rfl rfl rfl (v_move (v := (Value.int .i64 v7)) hE9) ?_
            obtain ⟨hi, h⟩ := h
            refine rl_q rfl rfl rfl (v_add rfl rfl hi) ?_
            refine rl_q rfl rfl rfl (v_assign (v := (Value.int .i64 (v7 + 1))) rfl) ?_
            refine rl_end ?_
            obtain ⟨mq, hlt, h⟩ := h
            exact again3 mq _ _ _ ⟨_, _, _, _, _, h, rfl, hE0, hE3, hE4, hE5, hE6, hE7, hE8, rfl, (hS.sel [0, 1, 2] (by decide))⟩ hlt
          · replace h := h.2 hp5
            refine wt_cond_t (congrArg Value.bool (congrArg Bool.not (decide_eq_false hp5))) ?_
            refine wl_region wd_wide ?_
            refine rl_q rfl rfl rfl (v_move (v := (Value.slice Av2 lv2 cv2)) hE8) ?_
            refine rl_q rfl rfl rfl (v_move (v := (Value.slice Ad ld cd)) hE0) ?_
            refine rl_q rfl rfl rfl (v_move (v := (Value.int .i64 v5)) hE7) ?_
            obtain ⟨hx, h⟩ := h
            refine rl_q rfl rfl rfl (v_iaddr rfl rfl Try.underlying161 info_25 (rd_ix (hS.rdr 1 rfl) hx)) ?_
            obtain ⟨A, l, c, hc, hq⟩ := hS.el 1 rfl hx 3 4 rfl rfl (by decide)
            replace hS := hq
            clear hq
            refine rl_q rfl rfl rfl (v_load (v := (Value.slice A l c)) rfl Try.underlying25 rfl (hS.clr 4 rfl)) ?_
            refine rl_q rfl rfl rfl (v_move (v := (Value.int .i64 v7)) hE9) ?_
            obtain ⟨hx2, h⟩ := h
            refine rl_q rfl rfl rfl (v_iaddr rfl rfl Try.underlying25 info_3 (rd_ix (hS.rdr 3 rfl) hx2)) ?_
            refine rl_q rfl rfl rfl (v_load (v := (Value.int .i64 (gi (gx d v5.toNat) v7.toNat))) rfl Try.underlying3 rfl (rd_1 (hS.rdr 3 rfl) hx2 (fun q => gi_some q) rfl)) ?_
            refine rl_n rfl rfl rfl rfl (n_bslice (l := [(0, (Value.int .i64 (gi (gx d v5.toNat) v7.toNat)))]) (cells := [(Value.int .i64 (gi (gx d v5.toNat) v7.toNat))]) (bp1 rfl) Try.underlying25 info_3 rfl rfl ?_)
            intro g w5 hN
            replace hS := hS.litf (n := 1) 5 rfl (fI .i64) hN ([gi (gx d v5.toNat) v7.toNat] : List Int) rfl (by decide) rfl
            clear hN
            refine ⟨Stb.none _, ?_⟩
            obtain ⟨hx3, h⟩ := h
            refine rl_n rfl rfl rfl rfl (n_app (c := cI) rfl rfl Try.underlying25 Try.underlying25 info_3 rfl rfl (by decide) hS 0 rfl (hS.yo 5 rfl) hx3 ?_)
            clear hS
            intro A2 c2 w6 hS
            refine ⟨Stb.none _, ?_⟩
            refine rl_q rfl rfl rfl (v_assign (v := (Value.slice A2 (lv2 + 1) c2)) rfl) ?_
            refine rl_end ?_
            refine wt_inBlock ?_
            refine wl_region wd_wide ?_
            refine rl_q rfl rfl rfl (v_move (v := (Value.int .i64 v7)) hE9) ?_
            obtain ⟨hi2, h⟩ := h
            refine rl_q rfl rfl rfl (v_add rfl rfl hi2) ?_
            refine rl_q rfl rfl rfl (v_assign (v := (Value.int .i64 (v7 + 1))) rfl) ?_
            refine rl_end ?_
            obtain ⟨mq, hlt, h⟩ := h
            exact again3 mq _ _ _ ⟨_, _, _, _, _, h, rfl, hE0, hE3, hE4, hE5, hE6, hE7, rfl, rfl, (hS.sel [0, 1, 2] (by decide))⟩ hlt
        · replace h := h.2 hp4
          refine wt_cond_f (congrArg Value.bool (decide_eq_false hp4)) ?_
          refine wt_exit rfl ?_
          refine wl_region wd_wide ?_
          refine rl_q rfl rfl rfl (v_move (v := (Value.slice Av lv cv)) hE6) ?_
          refine rl_q rfl rfl rfl (v_move (v := (Value.slice Av2 lv2 cv2)) hE8) ?_
          replace hS := hS.frz 0 rfl
          refine rl_n rfl rfl rfl rfl (n_bslice (l := [(0, (Value.slice Av2 lv2 cv2))]) (cells := [(Value.slice Av2 lv2 cv2)]) (bp1 rfl) Try.underlying161 info_25 rfl rfl ?_)
          intro g2 w7 hN
          replace hS := hS.lit (n := 1) (c := (cL cI)) 3 rfl hN ([v6] : List (List Int)) rfl (by decide) ⟨[(Value.slice Av2 lv2 cv2)], _, rfl, (ro_R (hS.ro 0 rfl)), rfl⟩
          clear hN
          refine ⟨Stb.none _, ?_⟩
          obtain ⟨hx4, h⟩ := h
          refine rl_n rfl rfl rfl rfl (n_app (c := (cL cI)) rfl rfl Try.underlying161 Try.underlying161 info_25 rfl rfl (by decide) hS 2 rfl (hS.yo 3 rfl) hx4 ?_)
          clear hS
          intro A3 c3 w8 hS
          refine ⟨Stb.none _, ?_⟩
          refine rl_q rfl rfl rfl (v_assign (v := (Value.slice A3 (lv + 1) c3)) rfl) ?_
          refine rl_end ?_
          refine wt_inBlock ?_
          refine wl_region wd_wide ?_
          refine rl_q rfl rfl rfl (v_move (v := (Value.int .i64 v5)) hE7) ?_
          obtain ⟨hi3, h⟩ := h
          refine rl_q rfl rfl rfl (v_add rfl rfl hi3) ?_
          refine rl_q rfl rfl rfl (v_assign (v := (Value.int .i64 (v5 + 1))) rfl) ?_
          refine rl_end ?_
          obtain ⟨mq, hlt, h⟩ := h
          exact again2 mq _ _ _ ⟨_, _, _, _, _, h, rfl, hE0, hE3, hE4, hE5, rfl, rfl, (hS.sel [2, 1] (by decide))⟩ hlt
      · replace h := h.2 hp3
        refine wt_cond_f (congrArg Value.bool (decide_eq_false hp3)) ?_
        refine wt_exit rfl ?_
        refine wt_seq ?_
        refine wt_seq ?_
        refine wl_region wd_wide ?_
        refine rl_q rfl rfl rfl (v_move (v := (Value.slice Ad ld cd)) hE0) ?_
        obtain ⟨hx5, h⟩ := h
        refine rl_q rfl rfl rfl (v_iaddr rfl rfl Try.underlying161 info_25 (rd_ix (hS.rdr 1 rfl) hx5)) ?_
        obtain ⟨A4, l2, c4, hc2, hq⟩ := hS.el 1 rfl hx5 2 3 rfl rfl (by decide)
        replace hS := hq
        clear hq
        refine rl_q rfl rfl rfl (v_load (v := (Value.slice A4 l2 c4)) rfl Try.underlying25 rfl (hS.clr 3 rfl)) ?_
        refine rl_q rfl rfl rfl (v_move (v := (Value.int .i64 v3)) hE5) ?_
        obtain ⟨hx6, h⟩ := h
        refine rl_q rfl rfl rfl (v_iaddr rfl rfl Try.underlying25 info_3 (rd_ix (hS.rdr 2 rfl) hx6)) ?_
        refine rl_q rfl rfl rfl (v_load (v := (Value.int .i64 (gi (gx d (0 : Int).toNat) v3.toNat))) rfl Try.underlying3 rfl (rd_1 (hS.rdr 2 rfl) hx6 (fun q => gi_some q) rfl)) ?_
        refine rl_q rfl rfl rfl (v_neq rfl rfl) ?_
        refine rl_end ?_
        by_cases hp6 : (gi (gx d (0 : Int).toNat) v3.toNat) = 0
        · replace h := h.1 hp6
          refine wt_cond_f (congrArg Value.bool (congrArg Bool.not (decide_eq_true hp6))) ?_
          refine wt_skip ?_
          refine wl_region wd_wide ?_
          refine rl_q rfl rfl rfl (v_move (v := (Value.int .i64 v2)) hE4) ?_
          obtain ⟨hi4, h⟩ := h
          refine rl_q rfl rfl rfl (v_neg rfl hi4) ?_
          refine rl_q rfl rfl rfl (v_assign (v := (Value.int .i64 (-v2))) rfl) ?_
          refine rl_end ?_
          refine wt_inBlock ?_
          refine wl_region wd_wide ?_
          refine rl_q rfl rfl rfl (v_move (v := (Value.int .i64 v3)) hE5) ?_
          obtain ⟨hi5, h⟩ := h
          refine rl_q rfl rfl rfl (v_add rfl rfl hi5) ?_
          refine rl_q rfl rfl rfl (v_assign (v := (Value.int .i64 (v3 + 1))) rfl) ?_
          refine rl_end ?_
          obtain ⟨mq, hlt, h⟩ := h
          exact again mq _ _ _ ⟨_, _, _, h, rfl, hE0, hE3, rfl, rfl, (hS.sel [1] (by decide))⟩ hlt
        · replace h := h.2 hp6
          refine wt_cond_t (congrArg Value.bool (congrArg Bool.not (decide_eq_false hp6))) ?_
          refine wp_draw [0, 1, 2, 3, 4, 5, 6, 7, 8, 9, 10, 11, 12, 13] (fun i => match i with | 10 => [0, 1, 2, 3, 4, 5, 6, 7, 8] | _ => []) wd_wide (by kernel_rfl) (by kernel_rfl) ?_
          replace hS := hS.drew
          refine rp_q rfl rfl rfl (v_move (v := (Value.int .i64 v)) hE3) ?_
          refine rp_q rfl rfl rfl (v_move (v := (Value.int .i64 v2)) hE4) ?_
          refine rp_q rfl rfl rfl (v_move (v := (Value.slice Ad ld cd)) hE0) ?_
          refine rp_q rfl rfl rfl (v_iaddr rfl rfl Try.underlying161 info_25 (rd_ix (hS.rdr 1 rfl) hx5)) ?_
          obtain ⟨A5, l3, c5, hc3, hq⟩ := hS.el 1 rfl hx5 4 5 rfl rfl (by decide)
          replace hS := hq
          clear hq
          refine rp_q rfl rfl rfl (v_load (v := (Value.slice A5 l3 c5)) rfl Try.underlying25 rfl (hS.clr 5 rfl)) ?_
          refine rp_q rfl rfl rfl (v_move (v := (Value.int .i64 v3)) hE5) ?_
          refine rp_q rfl rfl rfl (v_iaddr rfl rfl Try.underlying25 info_3 (rd_ix (hS.rdr 4 rfl) hx6)) ?_
          refine rp_q rfl rfl rfl (v_load (v := (Value.int .i64 (gi (gx d (0 : Int).toNat) v3.toNat))) rfl Try.underlying3 rfl (rd_1 (hS.rdr 4 rfl) hx6 (fun q => gi_some q) rfl)) ?_
          obtain ⟨hi6, h⟩ := h
          refine rp_q rfl rfl rfl (v_mul rfl rfl hi6) ?_
          refine rp_q rfl rfl rfl (v_move (v := (Value.slice Av lv cv)) hE6) ?_
          refine rp_n rfl rfl rfl rfl (n_call0 rfl (am1 rfl) enter_152 ((hrec h (no_lt _) (hS.rdo 0 rfl)).mono ?_))
          rintro _ w9 ⟨r, rfl, hC, h⟩
          replace hS := hS.pur hC.pure
          clear hC
          refine ⟨_, rfl, ?_⟩
          refine ⟨⟨fun hh => Bool.noConfusion (show false = true from hh), ⟨fun _ => (v_mul rfl rfl hi6), ⟨fun _ => (v_load (v := (Value.int .i64 (gi (gx d (0 : Int).toNat) v3.toNat))) rfl Try.underlying3 rfl (rd_1 (hS.rdr 4 rfl) hx6 (fun q => gi_some q) rfl)), ⟨fun _ => (v_iaddr rfl rfl Try.underlying25 info_3 (rd_ix (hS.rdr 4 rfl) hx6)), ⟨fun _ => (v_move (v := (Value.int .i64 v3)) hE5), ⟨fun _ => (v_load (v := (Value.slice A5 l3 c5)) rfl Try.underlying25 rfl (hS.clr 5 rfl)), ⟨fun _ => (v_iaddr rfl rfl Try.underlying161 info_25 (rd_ix (hS.rdr 1 rfl) hx5)), ⟨fun _ => (v_move (v := (Value.slice Ad ld cd)) hE0), ⟨fun _ => (v_move (v := (Value.int .i64 v2)) hE4), ⟨fun _ => (v_move (v := (Value.int .i64 v)) hE3), trivial⟩⟩⟩⟩⟩⟩⟩⟩⟩⟩, ?_⟩
          obtain ⟨hi7, h⟩ := h
          refine rp_q rfl rfl rfl (v_mul rfl rfl hi7) ?_
          obtain ⟨hi8, h⟩ := h
          refine rp_q rfl rfl rfl (v_add rfl rfl hi8) ?_
          refine rp_q rfl rfl rfl (v_assign (v := (Value.int .i64 (v + ((v2 * (gi (gx d (0 : Int).toNat) v3.toNat)) * r)))) rfl) ?_
          refine rp_end ?_
          refine wl_region wd_wide ?_
          refine rl_q rfl rfl rfl (v_move (v := (Value.int .i64 v2)) hE4) ?_
          obtain ⟨hi9, h⟩ := h
          refine rl_q rfl rfl rfl (v_neg rfl hi9) ?_
          refine rl_q rfl rfl rfl (v_assign (v := (Value.int .i64 (-v2))) rfl) ?_
          refine rl_end ?_
          refine wt_inBlock ?_
          refine wl_region wd_wide ?_
          refine rl_q rfl rfl rfl (v_move (v := (Value.int .i64 v3)) hE5) ?_
          obtain ⟨hi10, h⟩ := h
          refine rl_q rfl rfl rfl (v_add rfl rfl hi10) ?_
          refine rl_q rfl rfl rfl (v_assign (v := (Value.int .i64 (v3 + 1))) rfl) ?_
          refine rl_end ?_
          obtain ⟨mq, hlt, h⟩ := h
          exact again mq _ _ _ ⟨_, _, _, h, rfl, hE0, rfl, rfl, rfl, (hS.sel [1] (by decide))⟩ hlt
    · replace h := h.2 hp2
      refine wt_cond_f (congrArg Value.bool (decide_eq_false hp2)) ?_
      refine wt_exit rfl ?_
      refine wt_seq ?_
      refine wl_region wd_wide ?_
      refine rl_q rfl rfl rfl (v_move (v := (Value.int .i64 v)) hE3) ?_
      refine rl_q rfl rfl rfl (v_assign (v := (Value.int .i64 v)) rfl) ?_
      refine rl_end ?_
      exact wt_ret1 rfl rfl ⟨_, rfl, (hS.sel [] (by decide)), h⟩
theorem pok_r25_det {n : Nat} : ∀ {O : Nat → Prop} {w : World} {d : List (List Int)} {Ad : Option Addr} {ld : Nat} {cd : Nat} {R : Int → Prop} (h : pf_r25_det n d R) (hO : ∀ k, O k → k < w.heap.size) (a0 : (FP.sl (cL cI) Ad ld cd d).P O w), Calls Try.prog 152 #[(Value.slice Ad ld cd)] w fun e w' => ∃ r2 : Int, e = .returned (Value.int .i64 r2) ∧ Sep w no O w' (rl []) ∧ R r2 := by
  induction n with
  | zero => intros; rename_i h _; first | exact h.elim | (rename_i h _ _; exact h.elim) | contradiction
  | succ n ih => intro O w d Ad ld cd R h hO a0; exact pokr_r25_det ih h hO a0

/-- sandpile/sandpileref25.Solve: what it computes. -/
def pf_r25_Solve (g : Int) (g2 : List (Int × Int × Int)) (q : Int) (d : List Int) (R : (List Int) → Bool → Prop) : Prop :=
pf_r17_Total d (fun (r : Int) =>
((r = 0 →
pf_r25_table g g2 q (-1) d (fun (r2 : List (List Int)) =>
(∃ fu, pf_r25_det fu r2 (fun (r3 : Int) =>
(∃ I2 : Nat → (List Int) → Int → Prop, (∃ m0, I2 m0 ([]) 0) ∧ ∀ (m2 : Nat) (s : List Int) (v : Int), I2 m2 s v → 
((v < g →
((v = q →
(s.length + 1 ≤ 1000000000 ∧
(In64 (v + 1) ∧
∃ m3, m3 < m2 ∧ I2 m3 (s ++ [0]) (v + 1)))) ∧
(¬ (v = q) →
pf_r25_table g g2 q v d (fun (r4 : List (List Int)) =>
(∃ fu2, pf_r25_det fu2 r4 (fun (r5 : Int) =>
(r3 ≠ 0 ∧
(((r5.tmod r3) = 0 →
(In64 (r5.tdiv r3) ∧
(s.length + 1 ≤ 1000000000 ∧
(In64 (v + 1) ∧
∃ m4, m4 < m2 ∧ I2 m4 (s ++ [r5.tdiv r3]) (v + 1))))) ∧
(¬ ((r5.tmod r3) = 0) →
R ([]) false))))))))) ∧
(¬ (v < g) →
R s true))))))) ∧
(¬ (r = 0) →
R ([]) false)))
theorem pok_r25_Solve {O : Nat → Prop} {w : World} {g : Int} {g2 : List (Int × Int × Int)} {q : Int} {d : List Int} {Ag : Option Addr} {lg : Nat} {cg : Nat} {Ad : Option Addr} {ld : Nat} {cd : Nat} {R : (List Int) → Bool → Prop} (h : pf_r25_Solve g g2 q d R) (hO : ∀ k, O k → k < w.heap.size) (a0 : (FP.sl c3 Ag lg cg g2).P O w) (a1 : (FP.sl cI Ad ld cd d).P O w) :
    Calls Try.prog 118 #[(Value.agg #[(Value.int .i64 g), (Value.slice Ag lg cg)]), (Value.int .i64 q), (Value.slice Ad ld cd)] w fun e w' => ∃ r6 : List Int, ∃ r7 : Bool, ∃ Ar3 : Option Addr, ∃ lr3 : Nat, ∃ cr3 : Nat, e = .returned (Value.tuple #[(Value.slice Ar3 lr3 cr3), (Value.bool (r7))]) ∧ Sep w no O w' (rl [Res.own cI 3 Ar3 lr3 cr3 r6]) ∧ R r6 r7 := by
  unfold pf_r25_Solve at h
  have hS : Sep w no O w (rl [Res.ro (FP.sl c3 Ag lg cg g2), Res.ro (FP.sl cI Ad ld cd d)]) := Sep.startl hO [(FP.sl c3 Ag lg cg g2), (FP.sl cI Ad ld cd d)] ⟨a0, a1, trivial⟩
  refine calls_sh (l := [(Value.agg #[(Value.int .i64 g), (Value.slice Ag lg cg)]), (Value.int .i64 q), (Value.slice Ad ld cd)]) Try.func118 rfl Try.ntmps118 (Nat.le_of_ble_eq_true rfl) ?_
  refine wt_seq ?_
  refine wl_region wd_wide ?_
  refine rl_n rfl rfl rfl rfl (n_box (v := (Value.agg #[(Value.int .i64 g), (Value.slice Ag lg cg)])) rfl ?_)
  intro g3 w2 hN
  replace hS : Sep w no O w2 (stl _ 2 (Res.box 24 g3 [(Value.int .i64 g), (Value.slice Ag lg cg)])) := hS.new 2 rfl hN
  clear hN
  refine ⟨Stb.none _, ?_⟩
  refine rl_q rfl rfl rfl (v_assign (v := (Value.slice none 0 0)) rfl) ?_
  refine rl_q rfl rfl rfl (v_assign (v := (Value.bool (false))) rfl) ?_
  refine rl_end ?_
  refine wt_seq ?_
  refine wt_seq ?_
  refine wl_region wd_wide ?_
  refine rl_q rfl rfl rfl (v_move (v := (Value.slice Ad ld cd)) rfl) ?_
  refine rl_n rfl rfl rfl rfl (n_call0 rfl (am1 rfl) enter_38 ((pok_r17_Total h (no_lt _) (hS.rdr 1 rfl)).mono ?_))
  rintro _ w3 ⟨r, rfl, hC, h⟩
  replace hS := hS.pur hC.pure
  clear hC
  refine ⟨_, rfl, ?_⟩
  refine ⟨Stb.none _, ?_⟩
  refine rl_q rfl rfl rfl (v_neq rfl rfl) ?_
  refine rl_end ?_
  by_cases hp : r = 0
  · replace h := h.1 hp
    refine wt_cond_f (congrArg Value.bool (congrArg Bool.not (decide_eq_true hp))) ?_
    refine wt_skip ?_
    refine wt_seq ?_
    refine wl_region wd_wide ?_
    refine rl_q rfl rfl rfl (v_loadn (vs := [(Value.int .i64 g), (Value.slice Ag lg cg)]) rfl Try.underlying24 rfl info_24 ⟨Row.cell (hS.bx 2 rfl) (i := 0) rfl, Row.cell (hS.bx 2 rfl) (i := 1) rfl, trivial⟩) ?_
    refine rl_q rfl rfl rfl (v_move (v := (Value.int .i64 q)) rfl) ?_
    refine rl_q rfl rfl rfl (v_move (v := (Value.slice Ad ld cd)) rfl) ?_
    refine rl_n rfl rfl rfl rfl (n_call0 rfl (am4 rfl rfl rfl rfl) enter_153 ((pok_r25_table h hS.blt (hS.ro 0 rfl) (hS.ro 1 rfl)).mono ?_))
    rintro _ w4 ⟨r2, Ar, lr, cr, rfl, hC, h⟩
    replace hS := hS.call1 hC 3 0 rfl
    clear hC
    refine ⟨_, rfl, ?_⟩
    refine ⟨Stb.none _, ?_⟩
    obtain ⟨fu, h⟩ := h
    refine rl_n rfl rfl rfl rfl (n_call0 rfl (am1 rfl) enter_152 ((pok_r25_det h (no_lt _) (hS.rdo 3 rfl)).mono ?_))
    rintro _ w5 ⟨r3, rfl, hC, h⟩
    replace hS := hS.pur hC.pure
    clear hC
    refine ⟨_, rfl, ?_⟩
    refine ⟨Stb.none _, ?_⟩
    refine rl_q rfl rfl rfl (v_assign (v := (Value.int .i64 r3)) rfl) ?_
    refine rl_end ?_
    refine wt_seq ?_
    refine wl_region wd_wide ?_
    refine rl_q rfl rfl rfl (v_assign (v := (Value.slice none 0 0)) rfl) ?_
    refine rl_end ?_
    refine wt_seq ?_
    refine wt_seq ?_
    refine wl_region wd_wide ?_
    refine rl_q rfl rfl rfl (v_assign (v := (Value.int .i64 0)) rfl) ?_
    refine rl_end ?_
    refine wt_block ?_
    replace hS := hS.nil 4 rfl cI 3
    obtain ⟨I2, ⟨m0, h0⟩, hr⟩ := h
    refine wt_loop (fun m E ds w' => ∃ s : List Int, ∃ v : Int, ∃ As : Option Addr, ∃ ls : Nat, ∃ cs : Nat, I2 m s v ∧ ds = [] ∧ E 1 = (Value.int .i64 q) ∧ E 2 = (Value.slice Ad ld cd) ∧ E 3 = (Value.pointer (some (⟨g3, 0, none⟩ : Addr))) ∧ E 8 = (Value.int .i64 r3) ∧ E 9 = (Value.slice As ls cs) ∧ E 10 = (Value.int .i64 v) ∧ Sep w no O w' (rl [Res.own cI 3 As ls cs s, Res.ro (FP.sl cI Ad ld cd d), Res.box 24 g3 [(Value.int .i64 g), (Value.slice Ag lg cg)], Res.ro (FP.sl c3 Ag lg cg g2)])) m0 ⟨_, _, _, _, _, h0, rfl, rfl, rfl, rfl, rfl, rfl, rfl, (hS.sel [4, 1, 2, 0] (by decide))⟩ ?_
    clear h0 hS
    rintro m2 E ds w6 ⟨s, v, As, ls, cs, h, rfl, hE1, hE2, hE3, hE8, hE9, hE10, hS⟩ again
    replace h := hr m2 s v h
    clear hr
    refine wt_seq ?_
    refine wt_seq ?_
    refine wl_region wd_wide ?_
    refine rl_q rfl rfl rfl (v_move (v := (Value.int .i64 v)) hE10) ?_
    refine rl_q rfl rfl rfl (v_faddr hE3 Try.underlying24 rfl info_3) ?_
    refine rl_q rfl rfl rfl (v_load rfl Try.underlying3 rfl (Row.cell (hS.bx 2 rfl) (i := 0) rfl)) ?_
    refine rl_q rfl rfl rfl (v_lss rfl rfl) ?_
    refine rl_end ?_
    by_cases hp2 : v < g
    · replace h := h.1 hp2
      refine wt_cond_t (congrArg Value.bool (decide_eq_true hp2)) ?_
      refine wt_skip ?_
      refine wt_seq ?_
      refine wt_block ?_
      refine wt_seq ?_
      refine wt_seq ?_
      refine wl_region wd_wide ?_
      refine rl_q rfl rfl rfl (v_move (v := (Value.int .i64 v)) hE10) ?_
      refine rl_q rfl rfl rfl (v_move (v := (Value.int .i64 q)) hE1) ?_
      refine rl_q rfl rfl rfl (v_eql rfl rfl) ?_
      refine rl_end ?_
      by_cases hp3 : v = q
      · replace h := h.1 hp3
        refine wt_cond_t (congrArg Value.bool (decide_eq_true hp3)) ?_
        refine wt_seq ?_
        refine wl_region wd_wide ?_
        refine rl_q rfl rfl rfl (v_move (v := (Value.slice As ls cs)) hE9) ?_
        refine rl_n rfl rfl rfl rfl (n_bslice (l := [(0, (Value.int .i64 0))]) (cells := [(Value.int .i64 0)]) (bp1 rfl) Try.underlying25 info_3 rfl rfl ?_)
        intro g4 w7 hN
        replace hS := hS.litf (n := 1) 4 rfl (fI .i64) hN ([0] : List Int) rfl (by decide) rfl
        clear hN
        refine ⟨Stb.none _, ?_⟩
        obtain ⟨hx, h⟩ := h
        refine rl_n rfl rfl rfl rfl (n_app (c := cI) rfl rfl Try.underlying25 Try.underlying25 info_3 rfl rfl (by decide) hS 0 rfl (hS.yo 4 rfl) hx ?_)
        clear hS
        intro A c w8 hS
        refine ⟨Stb.none _, ?_⟩
        refine rl_q rfl rfl rfl (v_assign (v := (Value.slice A (ls + 1) c)) rfl) ?_
        refine rl_end ?_
        refine wt_exit rfl ?_
        refine wl_region wd_wide ?_
        refine rl_q rfl rfl rfl (v_move (v := (Value.int .i64 v)) hE10) ?_
        obtain ⟨hi, h⟩ := h
        refine rl_q rfl rfl rfl (v_add rfl rfl hi) ?_
        refine rl_q rfl rfl rfl (v_assign (v := (Value.int .i64 (v + 1))) rfl) ?_
        refine rl_end ?_
        obtain ⟨mq, hlt, h⟩ := h
        exact again mq _ _ _ ⟨_, _, _, _, _, h, rfl, hE1, hE2, hE3, hE8, rfl, rfl, (hS.sel [0, 1, 2, 3] (by decide))⟩ hlt
      · replace h := h.2 hp3
        refine wt_cond_f (congrArg Value.bool (decide_eq_false hp3)) ?_
        refine wt_skip ?_
        refine wt_seq ?_
        refine wl_region wd_wide ?_
        refine rl_q rfl rfl rfl (v_loadn (vs := [(Value.int .i64 g), (Value.slice Ag lg cg)]) hE3 Try.underlying24 rfl info_24 ⟨Row.cell (hS.bx 2 rfl) (i := 0) rfl, Row.cell (hS.bx 2 rfl) (i := 1) rfl, trivial⟩) ?_
        refine rl_q rfl rfl rfl (v_move (v := (Value.int .i64 q)) hE1) ?_
        refine rl_q rfl rfl rfl (v_move (v := (Value.int .i64 v)) hE10) ?_
        refine rl_q rfl rfl rfl (v_move (v := (Value.slice Ad ld cd)) hE2) ?_
        refine rl_n rfl rfl rfl rfl (n_call0 rfl (am4 rfl rfl rfl rfl) enter_153 ((pok_r25_table h hS.blt (hS.ro 3 rfl) (hS.ro 1 rfl)).mono ?_))
        rintro _ w9 ⟨r4, Ar2, lr2, cr2, rfl, hC, h⟩
        replace hS := hS.call1 hC 4 0 rfl
        clear hC
        refine ⟨_, rfl, ?_⟩
        refine ⟨Stb.none _, ?_⟩
        obtain ⟨fu2, h⟩ := h
        refine rl_n rfl rfl rfl rfl (n_call0 rfl (am1 rfl) enter_152 ((pok_r25_det h (no_lt _) (hS.rdo 4 rfl)).mono ?_))
        rintro _ w10 ⟨r5, rfl, hC, h⟩
        replace hS := hS.pur hC.pure
        clear hC
        refine ⟨_, rfl, ?_⟩
        refine ⟨Stb.none _, ?_⟩
        refine rl_q rfl rfl rfl (v_assign (v := (Value.int .i64 r5)) rfl) ?_
        refine rl_end ?_
        refine wt_seq ?_
        refine wt_seq ?_
        refine wl_region wd_wide ?_
        refine rl_q rfl rfl rfl (v_move (v := (Value.int .i64 r5)) rfl) ?_
        refine rl_q rfl rfl rfl (v_move (v := (Value.int .i64 r3)) hE8) ?_
        obtain ⟨hz, h⟩ := h
        refine rl_q rfl rfl rfl (v_rem rfl rfl hz) ?_
        refine rl_q rfl rfl rfl (v_neq rfl rfl) ?_
        refine rl_end ?_
        by_cases hp4 : (r5.tmod r3) = 0
        · replace h := h.1 hp4
          refine wt_cond_f (congrArg Value.bool (congrArg Bool.not (decide_eq_true hp4))) ?_
          refine wt_skip ?_
          refine wl_region wd_wide ?_
          refine rl_q rfl rfl rfl (v_move (v := (Value.slice As ls cs)) hE9) ?_
          refine rl_q rfl rfl rfl (v_move (v := (Value.int .i64 r5)) rfl) ?_
          refine rl_q rfl rfl rfl (v_move (v := (Value.int .i64 r3)) hE8) ?_
          obtain ⟨hi2, h⟩ := h
          refine rl_q rfl rfl rfl (v_quo rfl rfl hz hi2) ?_
          refine rl_n rfl rfl rfl rfl (n_bslice (l := [(0, (Value.int .i64 (r5.tdiv r3)))]) (cells := [(Value.int .i64 (r5.tdiv r3))]) (bp1 rfl) Try.underlying25 info_3 rfl rfl ?_)
          intro g5 w11 hN
          replace hS := hS.litf (n := 1) 5 rfl (fI .i64) hN ([r5.tdiv r3] : List Int) rfl (by decide) rfl
          clear hN
          refine ⟨Stb.none _, ?_⟩
          obtain ⟨hx2, h⟩ := h
          refine rl_n rfl rfl rfl rfl (n_app (c := cI) rfl rfl Try.underlying25 Try.underlying25 info_3 rfl rfl (by decide) hS 0 rfl (hS.yo 5 rfl) hx2 ?_)
          clear hS
          intro A2 c2 w12 hS
          refine ⟨Stb.none _, ?_⟩
          refine rl_q rfl rfl rfl (v_assign (v := (Value.slice A2 (ls + 1) c2)) rfl) ?_
          refine rl_end ?_
          refine wt_inBlock ?_
          refine wl_region wd_wide ?_
          refine rl_q rfl rfl rfl (v_move (v := (Value.int .i64 v)) hE10) ?_
          obtain ⟨hi3, h⟩ := h
          refine rl_q rfl rfl rfl (v_add rfl rfl hi3) ?_
          refine rl_q rfl rfl rfl (v_assign (v := (Value.int .i64 (v + 1))) rfl) ?_
          refine rl_end ?_
          obtain ⟨mq, hlt, h⟩ := h
          exact again mq _ _ _ ⟨_, _, _, _, _, h, rfl, hE1, hE2, hE3, hE8, rfl, rfl, (hS.sel [0, 1, 2, 3] (by decide))⟩ hlt
        · replace h := h.2 hp4
          refine wt_cond_t (congrArg Value.bool (congrArg Bool.not (decide_eq_false hp4))) ?_
          refine wt_seq ?_
          refine wl_region wd_wide ?_
          refine rl_q rfl rfl rfl (v_assign (v := (Value.slice none 0 0)) rfl) ?_
          refine rl_q rfl rfl rfl (v_assign (v := (Value.bool (false))) rfl) ?_
          refine rl_end ?_
          replace hS := hS.nil 5 rfl cI 3
          exact wt_ret2 rfl rfl rfl ⟨_, _, _, _, _, rfl, (hS.sel [5] (by decide)), h⟩
    · replace h := h.2 hp2
      refine wt_cond_f (congrArg Value.bool (decide_eq_false hp2)) ?_
      refine wt_exit rfl ?_
      refine wt_seq ?_
      refine wl_region wd_wide ?_
      refine rl_q rfl rfl rfl (v_move (v := (Value.slice As ls cs)) hE9) ?_
      refine rl_q rfl rfl rfl (v_assign (v := (Value.slice As ls cs)) rfl) ?_
      refine rl_q rfl rfl rfl (v_assign (v := (Value.bool (true))) rfl) ?_
      refine rl_end ?_
      exact wt_ret2 rfl rfl rfl ⟨_, _, _, _, _, rfl, (hS.sel [0] (by decide)), h⟩
  · replace h := h.2 hp
    refine wt_cond_t (congrArg Value.bool (congrArg Bool.not (decide_eq_false hp))) ?_
    refine wt_seq ?_
    refine wl_region wd_wide ?_
    refine rl_q rfl rfl rfl (v_assign (v := (Value.slice none 0 0)) rfl) ?_
    refine rl_q rfl rfl rfl (v_assign (v := (Value.bool (false))) rfl) ?_
    refine rl_end ?_
    replace hS := hS.nil 3 rfl cI 3
    exact wt_ret2 rfl rfl rfl ⟨_, _, _, _, _, rfl, (hS.sel [3] (by decide)), h⟩

/-- sandpile/sandpileref25.Alike: what it computes. -/
def pf_r25_Alike (g : Int) (g2 : List (Int × Int × Int)) (a : List Int) (b : List Int) (R : Bool → Prop) : Prop :=
pf_r25_Plus a b (-1) (fun (r : List Int) =>
pf_r25_Solve g g2 0 r (fun (r2 : List Int) (r3 : Bool) =>
R r3))
theorem pok_r25_Alike {O : Nat → Prop} {w : World} {g : Int} {g2 : List (Int × Int × Int)} {a : List Int} {b : List Int} {Ag : Option Addr} {lg : Nat} {cg : Nat} {Aa : Option Addr} {la : Nat} {ca : Nat} {Ab : Option Addr} {lb : Nat} {cb : Nat} {R : Bool → Prop} (h : pf_r25_Alike g g2 a b R) (hO : ∀ k, O k → k < w.heap.size) (a0 : (FP.sl c3 Ag lg cg g2).P O w) (a1 : (FP.sl cI Aa la ca a).P O w) (a2 : (FP.sl cI Ab lb cb b).P O w) :
    Calls Try.prog 150 #[(Value.agg #[(Value.int .i64 g), (Value.slice Ag lg cg)]), (Value.slice Aa la ca), (Value.slice Ab lb cb)] w fun e w' => ∃ r4 : Bool, e = .returned (Value.bool (r4)) ∧ Sep w no O w' (rl []) ∧ R r4 := by
  unfold pf_r25_Alike at h
  have hS : Sep w no O w (rl [Res.ro (FP.sl c3 Ag lg cg g2), Res.ro (FP.sl cI Aa la ca a), Res.ro (FP.sl cI Ab lb cb b)]) := Sep.startl hO [(FP.sl c3 Ag lg cg g2), (FP.sl cI Aa la ca a), (FP.sl cI Ab lb cb b)] ⟨a0, a1, a2, trivial⟩
  refine calls_sh (l := [(Value.agg #[(Value.int .i64 g), (Value.slice Ag lg cg)]), (Value.slice Aa la ca), (Value.slice Ab lb cb)]) Try.func150 rfl Try.ntmps150 (Nat.le_of_ble_eq_true rfl) ?_
  refine wt_seq ?_
  refine wl_region wd_wide ?_
  refine rl_n rfl rfl rfl rfl (n_box (v := (Value.agg #[(Value.int .i64 g), (Value.slice Ag lg cg)])) rfl ?_)
  intro g3 w2 hN
  replace hS : Sep w no O w2 (stl _ 3 (Res.box 24 g3 [(Value.int .i64 g), (Value.slice Ag lg cg)])) := hS.new 3 rfl hN
  clear hN
  refine ⟨Stb.none _, ?_⟩
  refine rl_q rfl rfl rfl (v_assign (v := (Value.bool (false))) rfl) ?_
  refine rl_end ?_
  refine wt_seq ?_
  refine wp_draw [0, 1, 2, 3, 4, 5, 6, 7, 8, 9] (fun i => match i with | 3 => [0] | _ => []) wd_wide (by kernel_rfl) (by kernel_rfl) ?_
  replace hS := hS.drew
  refine rp_q rfl rfl rfl (v_loadn (vs := [(Value.int .i64 g), (Value.slice Ag lg cg)]) rfl Try.underlying24 rfl info_24 ⟨Row.cell (hS.bx 3 rfl) (i := 0) rfl, Row.cell (hS.bx 3 rfl) (i := 1) rfl, trivial⟩) ?_
  refine rp_q rfl rfl rfl (v_move (v := (Value.slice Aa la ca)) rfl) ?_
  refine rp_q rfl rfl rfl (v_move (v := (Value.slice Ab lb cb)) rfl) ?_
  refine rp_n rfl rfl rfl rfl (n_call0 rfl (am3 rfl rfl rfl) enter_119 ((pok_r25_Plus h (no_lt _) (hS.rdr 1 rfl) (hS.rdr 2 rfl)).mono ?_))
  rintro _ w3 ⟨r, Ar, lr, cr, rfl, hC, h⟩
  replace hS := hS.call1 (hC.widen (flatS (flat_own (fI .i64) _ _ _ _ _) flat0) hS.blt) 4 0 rfl
  clear hC
  refine ⟨_, rfl, ?_⟩
  refine ⟨⟨fun hh => Bool.noConfusion (show false = true from hh), ⟨fun hh => Bool.noConfusion (show false = true from hh), ⟨fun _ => (v_loadn (vs := [(Value.int .i64 g), (Value.slice Ag lg cg)]) rfl Try.underlying24 rfl info_24 ⟨Row.cell (hS.bx 3 rfl) (i := 0) rfl, Row.cell (hS.bx 3 rfl) (i := 1) rfl, trivial⟩), trivial⟩⟩⟩, ?_⟩
  refine rp_n rfl rfl rfl rfl (n_call0 rfl (am3 rfl rfl rfl) enter_118 ((pok_r25_Solve h (no_lt _) (hS.rdr 0 rfl) (hS.rdo 4 rfl)).mono ?_))
  rintro _ w4 ⟨r2, r3, Ar2, lr2, cr2, rfl, hC, h⟩
  replace hS := hS.call1 (hC.widen (flatS (flat_own (fI .i64) _ _ _ _ _) flat0) hS.blt) 5 0 rfl
  clear hC
  refine ⟨_, rfl, ?_⟩
  refine ⟨Stb.none _, ?_⟩
  refine rp_q rfl rfl rfl (v_move (v := (Value.tuple #[(Value.slice Ar2 lr2 cr2), (Value.bool (r3))])) rfl) ?_
  refine rp_q rfl rfl rfl (v_extract (v := (Value.slice Ar2 lr2 cr2)) rfl rfl) ?_
  refine rp_q rfl rfl rfl (v_extract (v := (Value.bool (r3))) rfl rfl) ?_
  refine rp_q rfl rfl rfl (v_assign (v := (Value.slice Ar2 lr2 cr2)) rfl) ?_
  refine rp_q rfl rfl rfl (v_assign (v := (Value.bool (r3))) rfl) ?_
  refine rp_end ?_
  refine wt_seq ?_
  refine wl_region wd_wide ?_
  refine rl_q rfl rfl rfl (v_move (v := (Value.bool (r3))) rfl) ?_
  refine rl_q rfl rfl rfl (v_assign (v := (Value.bool (r3))) rfl) ?_
  refine rl_end ?_
  exact wt_ret1 rfl rfl ⟨_, rfl, (hS.sel [] (by decide)), h⟩

/-- sandpile/sandpileref25.Greatest: what it computes. -/
def pf_r25_Greatest (g : Int) (g2 : List (Int × Int × Int)) (q : Int) (R : (List Int) → Prop) : Prop :=
((0 ≤ g ∧ g ≤ 1000000) ∧
(∃ I2 : Nat → Int → (List Int) → Prop, (∃ m0, I2 m0 0 (List.replicate g.toNat (0 : Int))) ∧ ∀ (m2 : Nat) (v : Int) (out : List Int), I2 m2 v out → 
((v < g →
((v = q →
(In64 (v + 1) ∧
∃ m3, m3 < m2 ∧ I2 m3 (v + 1) out)) ∧
(¬ (v = q) →
pf_r08_Valence g g2 v (fun (r : Int) =>
(In64 (r - 1) ∧
((0 ≤ v ∧ v < ((out.length : Nat) : Int)) ∧
(In64 (v + 1) ∧
∃ m4, m4 < m2 ∧ I2 m4 (v + 1) (out.set v.toNat (r - 1))))))))) ∧
(¬ (v < g) →
R out))))
theorem pok_r25_Greatest {O : Nat → Prop} {w : World} {g : Int} {g2 : List (Int × Int × Int)} {q : Int} {Ag : Option Addr} {lg : Nat} {cg : Nat} {R : (List Int) → Prop} (h : pf_r25_Greatest g g2 q R) (hO : ∀ k, O k → k < w.heap.size) (a0 : (FP.sl c3 Ag lg cg g2).P O w) :
    Calls Try.prog 166 #[(Value.agg #[(Value.int .i64 g), (Value.slice Ag lg cg)]), (Value.int .i64 q)] w fun e w' => ∃ r2 : List Int, ∃ Ar : Option Addr, ∃ lr : Nat, ∃ cr : Nat, e = .returned (Value.slice Ar lr cr) ∧ Sep w no O w' (rl [Res.own cI 3 Ar lr cr r2]) ∧ R r2 := by
  unfold pf_r25_Greatest at h
  have hS : Sep w no O w (rl [Res.ro (FP.sl c3 Ag lg cg g2)]) := Sep.startl hO [(FP.sl c3 Ag lg cg g2)] ⟨a0, trivial⟩
  refine calls_sh (l := [(Value.agg #[(Value.int .i64 g), (Value.slice Ag lg cg)]), (Value.int .i64 q)]) Try.func166 rfl Try.ntmps166 (Nat.le_of_ble_eq_true rfl) ?_
  refine wt_seq ?_
  refine wl_region wd_wide ?_
  refine rl_n rfl rfl rfl rfl (n_box (v := (Value.agg #[(Value.int .i64 g), (Value.slice Ag lg cg)])) rfl ?_)
  intro g3 w2 hN
  replace hS : Sep w no O w2 (stl _ 1 (Res.box 24 g3 [(Value.int .i64 g), (Value.slice Ag lg cg)])) := hS.new 1 rfl hN
  clear hN
  refine ⟨Stb.none _, ?_⟩
  refine rl_q rfl rfl rfl (v_assign (v := (Value.slice none 0 0)) rfl) ?_
  refine rl_end ?_
  refine wt_seq ?_
  refine wl_region wd_wide ?_
  refine rl_q rfl rfl rfl (v_faddr rfl Try.underlying24 rfl info_3) ?_
  refine rl_q rfl rfl rfl (v_load rfl Try.underlying3 rfl (Row.cell (hS.bx 1 rfl) (i := 0) rfl)) ?_
  obtain ⟨hx, h⟩ := h
  refine rl_n rfl rfl rfl rfl (n_make rfl rfl Try.underlying25 info_3 (by decide) rfl hx ?_)
  intro g4 w3 hN
  replace hS := hS.made 2 rfl cI (Value.int .i64 0) (0 : Int) (fun _ _ => rfl) hN (by omega)
  clear hN
  refine ⟨Stb.none _, ?_⟩
  refine rl_q rfl rfl rfl (v_assign (v := (Value.slice (some ⟨g4, 0, none⟩) g.toNat g.toNat)) rfl) ?_
  refine rl_end ?_
  refine wt_seq ?_
  refine wt_seq ?_
  refine wl_region wd_wide ?_
  refine rl_q rfl rfl rfl (v_assign (v := (Value.int .i64 0)) rfl) ?_
  refine rl_end ?_
  refine wt_block ?_
  obtain ⟨I2, ⟨m0, h0⟩, hr⟩ := h
  refine wt_loop (fun m E ds w' => ∃ v : Int, ∃ out : List Int, ∃ Aout : Option Addr, ∃ lout : Nat, ∃ cout : Nat, I2 m v out ∧ ds = [] ∧ E 1 = (Value.int .i64 q) ∧ E 2 = (Value.pointer (some (⟨g3, 0, none⟩ : Addr))) ∧ E 5 = (Value.slice Aout lout cout) ∧ E 6 = (Value.int .i64 v) ∧ Sep w no O w' (rl [Res.box 24 g3 [(Value.int .i64 g), (Value.slice Ag lg cg)], Res.ro (FP.sl c3 Ag lg cg g2), Res.own cI 3 Aout lout cout out])) m0 ⟨_, _, _, _, _, h0, rfl, rfl, rfl, rfl, rfl, (hS.sel [1, 0, 2] (by decide))⟩ ?_
  clear h0 hS
  rintro m2 E ds w4 ⟨v, out, Aout, lout, cout, h, rfl, hE1, hE2, hE5, hE6, hS⟩ again
  replace h := hr m2 v out h
  clear hr
  refine wt_seq ?_
  refine wt_seq ?_
  refine wl_region wd_wide ?_
  refine rl_q rfl rfl rfl (v_move (v := (Value.int .i64 v)) hE6) ?_
  refine rl_q rfl rfl rfl (v_faddr hE2 Try.underlying24 rfl info_3) ?_
  refine rl_q rfl rfl rfl (v_load rfl Try.underlying3 rfl (Row.cell (hS.bx 0 rfl) (i := 0) rfl)) ?_
  refine rl_q rfl rfl rfl (v_lss rfl rfl) ?_
  refine rl_end ?_
  by_cases hp : v < g
  · replace h := h.1 hp
    refine wt_cond_t (congrArg Value.bool (decide_eq_true hp)) ?_
    refine wt_skip ?_
    refine wt_seq ?_
    refine wt_block ?_
    refine wt_seq ?_
    refine wl_region wd_wide ?_
    refine rl_q rfl rfl rfl (v_move (v := (Value.int .i64 v)) hE6) ?_
    refine rl_q rfl rfl rfl (v_move (v := (Value.int .i64 q)) hE1) ?_
    refine rl_q rfl rfl rfl (v_neq rfl rfl) ?_
    refine rl_end ?_
    by_cases hp2 : v = q
    · replace h := h.1 hp2
      refine wt_cond_f (congrArg Value.bool (congrArg Bool.not (decide_eq_true hp2))) ?_
      refine wt_skip ?_
      refine wt_inBlock ?_
      refine wl_region wd_wide ?_
      refine rl_q rfl rfl rfl (v_move (v := (Value.int .i64 v)) hE6) ?_
      obtain ⟨hi, h⟩ := h
      refine rl_q rfl rfl rfl (v_add rfl rfl hi) ?_
      refine rl_q rfl rfl rfl (v_assign (v := (Value.int .i64 (v + 1))) rfl) ?_
      refine rl_end ?_
      obtain ⟨mq, hlt, h⟩ := h
      exact again mq _ _ _ ⟨_, _, _, _, _, h, rfl, hE1, hE2, hE5, rfl, (hS.sel [0, 1, 2] (by decide))⟩ hlt
    · replace h := h.2 hp2
      refine wt_cond_t (congrArg Value.bool (congrArg Bool.not (decide_eq_false hp2))) ?_
      refine wl_region wd_wide ?_
      refine rl_q rfl rfl rfl (v_move (v := (Value.slice Aout lout cout)) hE5) ?_
      refine rl_q rfl rfl rfl (v_move (v := (Value.int .i64 v)) hE6) ?_
      refine rl_q rfl rfl rfl (v_loadn (vs := [(Value.int .i64 g), (Value.slice Ag lg cg)]) hE2 Try.underlying24 rfl info_24 ⟨Row.cell (hS.bx 0 rfl) (i := 0) rfl, Row.cell (hS.bx 0 rfl) (i := 1) rfl, trivial⟩) ?_
      refine rl_q rfl rfl rfl (v_move (v := (Value.int .i64 v)) hE6) ?_
      refine rl_n rfl rfl rfl rfl (n_call0 rfl (am2 rfl rfl) enter_168 ((pok_r08_Valence h (no_lt _) (hS.rdr 1 rfl)).mono ?_))
      rintro _ w5 ⟨r, rfl, hC, h⟩
      replace hS := hS.pur hC.pure
      clear hC
      refine ⟨_, rfl, ?_⟩
      refine ⟨Stb.none _, ?_⟩
      obtain ⟨hi2, h⟩ := h
      refine rl_q rfl rfl rfl (v_sub rfl rfl hi2) ?_
      obtain ⟨hx2, h⟩ := h
      refine rl_q rfl rfl rfl (v_iaddr rfl rfl Try.underlying25 info_3 (rd_ix (hS.rdo 2 rfl) hx2)) ?_
      refine rl_n0 rfl rfl rfl (n_store (v := (Value.int .i64 (r - 1))) rfl rfl rfl info_3 (hS.wr 2 rfl rfl hx2) ?_)
      intro w6 e1
      replace hS := hS.st 2 rfl rfl hx2 (x := r - 1) rfl e1
      clear e1
      refine ⟨Stb.none _, ?_⟩
      refine rl_end ?_
      refine wt_inBlock ?_
      refine wl_region wd_wide ?_
      refine rl_q rfl rfl rfl (v_move (v := (Value.int .i64 v)) hE6) ?_
      obtain ⟨hi3, h⟩ := h
      refine rl_q rfl rfl rfl (v_add rfl rfl hi3) ?_
      refine rl_q rfl rfl rfl (v_assign (v := (Value.int .i64 (v + 1))) rfl) ?_
      refine rl_end ?_
      obtain ⟨mq, hlt, h⟩ := h
      exact again mq _ _ _ ⟨_, _, _, _, _, h, rfl, hE1, hE2, hE5, rfl, (hS.sel [0, 1, 2] (by decide))⟩ hlt
  · replace h := h.2 hp
    refine wt_cond_f (congrArg Value.bool (decide_eq_false hp)) ?_
    refine wt_exit rfl ?_
    refine wt_seq ?_
    refine wl_region wd_wide ?_
    refine rl_q rfl rfl rfl (v_move (v := (Value.slice Aout lout cout)) hE5) ?_
    refine rl_q rfl rfl rfl (v_assign (v := (Value.slice Aout lout cout)) rfl) ?_
    refine rl_end ?_
    exact wt_ret1 rfl rfl ⟨_, _, _, _, rfl, (hS.sel [2] (by decide)), h⟩

/-- sandpile/sandpileref25.Calm: what it computes. -/
def pf_r25_Calm (g : Int) (g2 : List (Int × Int × Int)) (q : Int) (d : List Int) (R : Bool → Prop) : Prop :=
(∃ I2 : Nat → Int → Prop, (∃ m0, I2 m0 0) ∧ ∀ (m2 : Nat) (v : Int), I2 m2 v → 
((v < g →
((0 ≤ v ∧ v < ((d.length : Nat) : Int)) ∧
(((gi d v.toNat) < 0 →
R false) ∧
(¬ ((gi d v.toNat) < 0) →
((v = q →
(((gi d v.toNat) = 0 →
(In64 (v + 1) ∧
∃ m3, m3 < m2 ∧ I2 m3 (v + 1))) ∧
(¬ ((gi d v.toNat) = 0) →
R false))) ∧
(¬ (v = q) →
(In64 (v + 1) ∧
∃ m4, m4 < m2 ∧ I2 m4 (v + 1)))))))) ∧
(¬ (v < g) →
pf_r25_Tight g g2 q d (fun (r : Bool) =>
R r))))
theorem pok_r25_Calm {O : Nat → Prop} {w : World} {g : Int} {g2 : List (Int × Int × Int)} {q : Int} {d : List Int} {Ag : Option Addr} {lg : Nat} {cg : Nat} {Ad : Option Addr} {ld : Nat} {cd : Nat} {R : Bool → Prop} (h : pf_r25_Calm g g2 q d R) (hO : ∀ k, O k → k < w.heap.size) (a0 : (FP.sl c3 Ag lg cg g2).P O w) (a1 : (FP.sl cI Ad ld cd d).P O w) :
    Calls Try.prog 167 #[(Value.agg #[(Value.int .i64 g), (Value.slice Ag lg cg)]), (Value.int .i64 q), (Value.slice Ad ld cd)] w fun e w' => ∃ r2 : Bool, e = .returned (Value.bool (r2)) ∧ Sep w no O w' (rl []) ∧ R r2 := by
  unfold pf_r25_Calm at h
  have hS : Sep w no O w (rl [Res.ro (FP.sl c3 Ag lg cg g2), Res.ro (FP.sl cI Ad ld cd d)]) := Sep.startl hO [(FP.sl c3 Ag lg cg g2), (FP.sl cI Ad ld cd d)] ⟨a0, a1, trivial⟩
  refine calls_sh (l := [(Value.agg #[(Value.int .i64 g), (Value.slice Ag lg cg)]), (Value.int .i64 q), (Value.slice Ad ld cd)]) Try.func167 rfl Try.ntmps167 (Nat.le_of_ble_eq_true rfl) ?_
  refine wt_seq ?_
  refine wl_region wd_wide ?_
  refine rl_n rfl rfl rfl rfl (n_box (v := (Value.agg #[(Value.int .i64 g), (Value.slice Ag lg cg)])) rfl ?_)
  intro g3 w2 hN
  replace hS : Sep w no O w2 (stl _ 2 (Res.box 24 g3 [(Value.int .i64 g), (Value.slice Ag lg cg)])) := hS.new 2 rfl hN
  clear hN
  refine ⟨Stb.none _, ?_⟩
  refine rl_q rfl rfl rfl (v_assign (v := (Value.bool (false))) rfl) ?_
  refine rl_end ?_
  refine wt_seq ?_
  refine wt_seq ?_
  refine wl_region wd_wide ?_
  refine rl_q rfl rfl rfl (v_assign (v := (Value.int .i64 0)) rfl) ?_
  refine rl_end ?_
  refine wt_block ?_
  obtain ⟨I2, ⟨m0, h0⟩, hr⟩ := h
  refine wt_loop (fun m E ds w' => ∃ v : Int, I2 m v ∧ ds = [] ∧ E 1 = (Value.int .i64 q) ∧ E 2 = (Value.slice Ad ld cd) ∧ E 3 = (Value.pointer (some (⟨g3, 0, none⟩ : Addr))) ∧ E 7 = (Value.int .i64 v) ∧ Sep w no O w' (rl [Res.ro (FP.sl cI Ad ld cd d), Res.box 24 g3 [(Value.int .i64 g), (Value.slice Ag lg cg)], Res.ro (FP.sl c3 Ag lg cg g2)])) m0 ⟨_, h0, rfl, rfl, rfl, rfl, rfl, (hS.sel [1, 2, 0] (by decide))⟩ ?_
  clear h0 hS
  rintro m2 E ds w3 ⟨v, h, rfl, hE1, hE2, hE3, hE7, hS⟩ again
  replace h := hr m2 v h
  clear hr
  refine wt_seq ?_
  refine wt_seq ?_
  refine wl_region wd_wide ?_
  refine rl_q rfl rfl rfl (v_move (v := (Value.int .i64 v)) hE7) ?_
  refine rl_q rfl rfl rfl (v_faddr hE3 Try.underlying24 rfl info_3) ?_
  refine rl_q rfl rfl rfl (v_load rfl Try.underlying3 rfl (Row.cell (hS.bx 1 rfl) (i := 0) rfl)) ?_
  refine rl_q rfl rfl rfl (v_lss rfl rfl) ?_
  refine rl_end ?_
  by_cases hp : v < g
  · replace h := h.1 hp
    refine wt_cond_t (congrArg Value.bool (decide_eq_true hp)) ?_
    refine wt_skip ?_
    refine wt_seq ?_
    refine wt_block ?_
    refine wt_seq ?_
    refine wl_region wd_wide ?_
    refine rl_q rfl rfl rfl (v_move (v := (Value.slice Ad ld cd)) hE2) ?_
    refine rl_q rfl rfl rfl (v_move (v := (Value.int .i64 v)) hE7) ?_
    obtain ⟨hx, h⟩ := h
    refine rl_q rfl rfl rfl (v_iaddr rfl rfl Try.underlying25 info_3 (rd_ix (hS.rdr 0 rfl) hx)) ?_
    refine rl_q rfl rfl rfl (v_load (v := (Value.int .i64 (gi d v.toNat))) rfl Try.underlying3 rfl (rd_1 (hS.rdr 0 rfl) hx (fun q => gi_some q) rfl)) ?_
    refine rl_q rfl rfl rfl (v_lss rfl rfl) ?_
    refine rl_q rfl rfl rfl (v_move (v := (Value.bool (decide ((gi d v.toNat) < 0)))) rfl) ?_
    by_cases hp2 : (gi d v.toNat) < 0
    · replace h := h.1 hp2
      refine rl_p (wanted_n rfl (yE_of rfl (congrArg Value.bool (decide_eq_true hp2))) rfl) rfl ?_
      refine rl_p (wanted_n rfl (yE_of rfl (congrArg Value.bool (decide_eq_true hp2))) rfl) rfl ?_
      refine rl_p (wanted_n rfl (yE_of rfl (congrArg Value.bool (decide_eq_true hp2))) rfl) rfl ?_
      refine rl_p (wanted_n rfl (yE_of rfl (congrArg Value.bool (decide_eq_true hp2))) rfl) rfl ?_
      refine rl_p (wanted_u rfl rfl) rfl ?_
      refine rl_p (wanted_u rfl rfl) rfl ?_
      refine rl_p (wanted_u rfl rfl) rfl ?_
      refine rl_p (wanted_u rfl rfl) rfl ?_
      refine rl_p (wanted_u rfl rfl) rfl ?_
      refine rl_p (wanted_n rfl (yE_of rfl (congrArg Value.bool (decide_eq_true hp2))) rfl) rfl ?_
      refine rl_q rfl rfl rfl (v_pick_t (v := (Value.bool (true))) (congrArg Value.bool (decide_eq_true hp2)) rfl) ?_
      refine rl_end ?_
      refine wt_cond_t rfl ?_
      refine wt_seq ?_
      refine wl_region wd_wide ?_
      refine rl_q rfl rfl rfl (v_assign (v := (Value.bool (false))) rfl) ?_
      refine rl_end ?_
      exact wt_ret1 rfl rfl ⟨_, rfl, (hS.sel [] (by decide)), h⟩
    · replace h := h.2 hp2
      refine rl_q (wanted_g rfl (yE_of rfl (congrArg Value.bool (decide_eq_false hp2)))) rfl rfl (v_move (v := (Value.int .i64 v)) hE7) ?_
      refine rl_q (wanted_g rfl (yE_of rfl (congrArg Value.bool (decide_eq_false hp2)))) rfl rfl (v_move (v := (Value.int .i64 q)) hE1) ?_
      refine rl_q (wanted_g rfl (yE_of rfl (congrArg Value.bool (decide_eq_false hp2)))) rfl rfl (v_eql rfl rfl) ?_
      refine rl_q (wanted_g rfl (yE_of rfl (congrArg Value.bool (decide_eq_false hp2)))) rfl rfl (v_move (v := (Value.bool (decide (v = q)))) rfl) ?_
      by_cases hp3 : v = q
      · replace h := h.1 hp3
        refine rl_q (wanted_g rfl (yE_of rfl (congrArg Value.bool (decide_eq_true hp3)))) rfl rfl (v_move (v := (Value.slice Ad ld cd)) hE2) ?_
        refine rl_q (wanted_g rfl (yE_of rfl (congrArg Value.bool (decide_eq_true hp3)))) rfl rfl (v_move (v := (Value.int .i64 v)) hE7) ?_
        refine rl_q (wanted_g rfl (yE_of rfl (congrArg Value.bool (decide_eq_true hp3)))) rfl rfl (v_iaddr rfl rfl Try.underlying25 info_3 (rd_ix (hS.rdr 0 rfl) hx)) ?_
        refine rl_q (wanted_g rfl (yE_of rfl (congrArg Value.bool (decide_eq_true hp3)))) rfl rfl (v_load (v := (Value.int .i64 (gi d v.toNat))) rfl Try.underlying3 rfl (rd_1 (hS.rdr 0 rfl) hx (fun q => gi_some q) rfl)) ?_
        refine rl_q (wanted_g rfl (yE_of rfl (congrArg Value.bool (decide_eq_true hp3)))) rfl rfl (v_neq rfl rfl) ?_
        refine rl_q (wanted_g rfl (yE_of rfl (congrArg Value.bool (decide_eq_false hp2)))) rfl rfl (v_pick_t (v := (Value.bool (!(decide ((gi d v.toNat) = 0))))) (congrArg Value.bool (decide_eq_true hp3)) rfl) ?_
        refine rl_q rfl rfl rfl (v_pick_f (v := (Value.bool (!(decide ((gi d v.toNat) = 0))))) (congrArg Value.bool (decide_eq_false hp2)) rfl) ?_
        refine rl_end ?_
        by_cases hp4 : (gi d v.toNat) = 0
        · replace h := h.1 hp4
          refine wt_cond_f (congrArg Value.bool (congrArg Bool.not (decide_eq_true hp4))) ?_
          refine wt_skip ?_
          refine wt_inBlock ?_
          refine wl_region wd_wide ?_
          refine rl_q rfl rfl rfl (v_move (v := (Value.int .i64 v)) hE7) ?_
          obtain ⟨hi, h⟩ := h
          refine rl_q rfl rfl rfl (v_add rfl rfl hi) ?_
          refine rl_q rfl rfl rfl (v_assign (v := (Value.int .i64 (v + 1))) rfl) ?_
          refine rl_end ?_
          obtain ⟨mq, hlt, h⟩ := h
          exact again mq _ _ _ ⟨_, h, rfl, hE1, hE2, hE3, rfl, (hS.sel [0, 1, 2] (by decide))⟩ hlt
        · replace h := h.2 hp4
          refine wt_cond_t (congrArg Value.bool (congrArg Bool.not (decide_eq_false hp4))) ?_
          refine wt_seq ?_
          refine wl_region wd_wide ?_
          refine rl_q rfl rfl rfl (v_assign (v := (Value.bool (false))) rfl) ?_
          refine rl_end ?_
          exact wt_ret1 rfl rfl ⟨_, rfl, (hS.sel [] (by decide)), h⟩
      · replace h := h.2 hp3
        refine rl_p (wanted_n rfl (yE_of rfl (congrArg Value.bool (decide_eq_false hp3))) rfl) rfl ?_
        refine rl_p (wanted_n rfl (yE_of rfl (congrArg Value.bool (decide_eq_false hp3))) rfl) rfl ?_
        refine rl_p (wanted_n rfl (yE_of rfl (congrArg Value.bool (decide_eq_false hp3))) rfl) rfl ?_
        refine rl_p (wanted_n rfl (yE_of rfl (congrArg Value.bool (decide_eq_false hp3))) rfl) rfl ?_
        refine rl_p (wanted_n rfl (yE_of rfl (congrArg Value.bool (decide_eq_false hp3))) rfl) rfl ?_
        refine rl_q (wanted_g rfl (yE_of rfl (congrArg Value.bool (decide_eq_false hp2)))) rfl rfl (v_pick_f (v := (Value.bool (false))) (congrArg Value.bool (decide_eq_false hp3)) rfl) ?_
        refine rl_q rfl rfl rfl (v_pick_f (v := (Value.bool (false))) (congrArg Value.bool (decide_eq_false hp2)) rfl) ?_
        refine rl_end ?_
        refine wt_cond_f rfl ?_
        refine wt_skip ?_
        refine wt_inBlock ?_
        refine wl_region wd_wide ?_
        refine rl_q rfl rfl rfl (v_move (v := (Value.int .i64 v)) hE7) ?_
        obtain ⟨hi2, h⟩ := h
        refine rl_q rfl rfl rfl (v_add rfl rfl hi2) ?_
        refine rl_q rfl rfl rfl (v_assign (v := (Value.int .i64 (v + 1))) rfl) ?_
        refine rl_end ?_
        obtain ⟨mq, hlt, h⟩ := h
        exact again mq _ _ _ ⟨_, h, rfl, hE1, hE2, hE3, rfl, (hS.sel [0, 1, 2] (by decide))⟩ hlt
  · replace h := h.2 hp
    refine wt_cond_f (congrArg Value.bool (decide_eq_false hp)) ?_
    refine wt_exit rfl ?_
    refine wt_seq ?_
    refine wl_region wd_wide ?_
    refine rl_q rfl rfl rfl (v_loadn (vs := [(Value.int .i64 g), (Value.slice Ag lg cg)]) hE3 Try.underlying24 rfl info_24 ⟨Row.cell (hS.bx 1 rfl) (i := 0) rfl, Row.cell (hS.bx 1 rfl) (i := 1) rfl, trivial⟩) ?_
    refine rl_q rfl rfl rfl (v_move (v := (Value.int .i64 q)) hE1) ?_
    refine rl_q rfl rfl rfl (v_move (v := (Value.slice Ad ld cd)) hE2) ?_
    refine rl_n rfl rfl rfl rfl (n_call0 rfl (am3 rfl rfl rfl) enter_124 ((pok_r25_Tight h (no_lt _) (hS.rdr 2 rfl) (hS.rdr 0 rfl)).mono ?_))
    rintro _ w4 ⟨r, rfl, hC, h⟩
    replace hS := hS.pur hC.pure
    clear hC
    refine ⟨_, rfl, ?_⟩
    refine ⟨Stb.none _, ?_⟩
    refine rl_q rfl rfl rfl (v_assign (v := (Value.bool (r))) rfl) ?_
    refine rl_end ?_
    exact wt_ret1 rfl rfl ⟨_, rfl, (hS.sel [] (by decide)), h⟩

/-- sandpile/sandpileref25.Calms: what it computes. -/
def pf_r25_Calms (d : Int) (d2 : List (Int × Int × Int)) (i : Int) (R : (List (List Int)) → Prop) : Prop :=
pf_r25_Greatest d d2 i (fun (r : List Int) =>
(∃ I2 : Nat → (List (List Int)) → Int → Prop, (∃ m0, I2 m0 ([[]]) 0) ∧ ∀ (m2 : Nat) (v : List (List Int)) (v2 : Int), I2 m2 v v2 → 
((v2 < d →
(∃ I3 : Nat → (List (List Int)) → Int → Prop, (∃ m0, I3 m0 ([]) 0) ∧ ∀ (m3 : Nat) (v3 : List (List Int)) (v4 : Int), I3 m3 v3 v4 → 
((v4 < ((v.length : Nat) : Int) →
(∃ I4 : Nat → (List (List Int)) → Int → Prop, (∃ m0, I4 m0 v3 0) ∧ ∀ (m4 : Nat) (v5 : List (List Int)) (v6 : Int), I4 m4 v5 v6 → 
((0 ≤ v2 ∧ v2 < ((r.length : Nat) : Int)) ∧
((v6 ≤ (gi r v2.toNat) →
((0 ≤ v4 ∧ v4 < ((v.length : Nat) : Int)) ∧
(0 + (gx v v4.toNat).length ≤ 1000000000 ∧
(([] ++ (gx v v4.toNat)).length + 1 ≤ 1000000000 ∧
(v5.length + 1 ≤ 1000000000 ∧
(In64 (v6 + 1) ∧
∃ m5, m5 < m4 ∧ I4 m5 (v5 ++ [(([] ++ (gx v v4.toNat)) ++ [v6])]) (v6 + 1))))))) ∧
(¬ (v6 ≤ (gi r v2.toNat)) →
(In64 (v4 + 1) ∧
∃ m6, m6 < m3 ∧ I3 m6 v5 (v4 + 1))))))) ∧
(¬ (v4 < ((v.length : Nat) : Int)) →
(In64 (v2 + 1) ∧
∃ m7, m7 < m2 ∧ I2 m7 v3 (v2 + 1)))))) ∧
(¬ (v2 < d) →
(∃ I5 : Nat → (List (List Int)) → Int → Prop, (∃ m0, I5 m0 ([]) 0) ∧ ∀ (m8 : Nat) (v7 : List (List Int)) (v8 : Int), I5 m8 v7 v8 → 
((v8 < ((v.length : Nat) : Int) →
((0 ≤ v8 ∧ v8 < ((v.length : Nat) : Int)) ∧
pf_r25_Calm d d2 i (gx v v8.toNat) (fun (r2 : Bool) =>
((r2 = true →
(v7.length + 1 ≤ 1000000000 ∧
(In64 (v8 + 1) ∧
∃ m9, m9 < m8 ∧ I5 m9 (v7 ++ [(gx v v8.toNat)]) (v8 + 1)))) ∧
(¬ (r2 = true) →
(In64 (v8 + 1) ∧
∃ m10, m10 < m8 ∧ I5 m10 v7 (v8 + 1))))))) ∧
(¬ (v8 < ((v.length : Nat) : Int)) →
R v7)))))))
theorem pok_r25_Calms {O : Nat → Prop} {w : World} {d : Int} {d2 : List (Int × Int × Int)} {i : Int} {Ad : Option Addr} {ld : Nat} {cd : Nat} {R : (List (List Int)) → Prop} (h : pf_r25_Calms d d2 i R) (hO : ∀ k, O k → k < w.heap.size) (a0 : (FP.sl c3 Ad ld cd d2).P O w) :
    Calls Try.prog 149 #[(Value.agg #[(Value.int .i64 d), (Value.slice Ad ld cd)]), (Value.int .i64 i)] w fun e w' => ∃ r3 : List (List Int), ∃ Ar2 : Option Addr, ∃ lr2 : Nat, ∃ cr2 : Nat, e = .returned (Value.slice Ar2 lr2 cr2) ∧ Sep w no O w' (rl [Res.own (cL cI) 25 Ar2 lr2 cr2 r3]) ∧ R r3 := by
  unfold pf_r25_Calms at h
  have hS : Sep w no O w (rl [Res.ro (FP.sl c3 Ad ld cd d2)]) := Sep.startl hO [(FP.sl c3 Ad ld cd d2)] ⟨a0, trivial⟩
  refine calls_sh (l := [(Value.agg #[(Value.int .i64 d), (Value.slice Ad ld cd)]), (Value.int .i64 i)]) Try.func149 rfl Try.ntmps149 (Nat.le_of_ble_eq_true rfl) ?_
  refine wt_seq ?_
  refine wl_region wd_wide ?_
  refine rl_n rfl rfl rfl rfl (n_box (v := (Value.agg #[(Value.int .i64 d), (Value.slice Ad ld cd)])) rfl ?_)
  intro g w2 hN
  replace hS : Sep w no O w2 (stl _ 1 (Res.box 24 g [(Value.int .i64 d), (Value.slice Ad ld cd)])) := hS.new 1 rfl hN
  clear hN
  refine ⟨Stb.none _, ?_⟩
  refine rl_q rfl rfl rfl (v_assign (v := (Value.slice none 0 0)) rfl) ?_
  refine rl_end ?_
  refine wt_seq ?_
  refine wl_region wd_wide ?_
  refine rl_q rfl rfl rfl (v_loadn (vs := [(Value.int .i64 d), (Value.slice Ad ld cd)]) rfl Try.underlying24 rfl info_24 ⟨Row.cell (hS.bx 1 rfl) (i := 0) rfl, Row.cell (hS.bx 1 rfl) (i := 1) rfl, trivial⟩) ?_
  refine rl_q rfl rfl rfl (v_move (v := (Value.int .i64 i)) rfl) ?_
  refine rl_n rfl rfl rfl rfl (n_call0 rfl (am2 rfl rfl) enter_166 ((pok_r25_Greatest h (no_lt _) (hS.rdr 0 rfl)).mono ?_))
  rintro _ w3 ⟨r, Ar, lr, cr, rfl, hC, h⟩
  replace hS := hS.call1 (hC.widen (flatS (flat_own (fI .i64) _ _ _ _ _) flat0) hS.blt) 2 0 rfl
  clear hC
  refine ⟨_, rfl, ?_⟩
  refine ⟨Stb.none _, ?_⟩
  refine rl_q rfl rfl rfl (v_assign (v := (Value.slice Ar lr cr)) rfl) ?_
  refine rl_end ?_
  refine wt_seq ?_
  refine wl_region wd_wide ?_
  refine rl_n rfl rfl rfl rfl (n_bslice (l := [(0, (Value.slice none 0 0))]) (cells := [(Value.slice none 0 0)]) (bp1 rfl) Try.underlying161 info_25 rfl rfl ?_)
  intro g2 w4 hN
  replace hS := hS.lit (n := 1) (c := (cL cI)) 3 rfl hN ([[]] : List (List Int)) rfl (by decide) ⟨[(Value.slice none 0 0)], _, rfl, ⟨_, _, _, rfl, rfl, Nat.le_refl _, Sl.nil _ _ _ _⟩, rfl⟩
  clear hN
  refine ⟨Stb.none _, ?_⟩
  refine rl_q rfl rfl rfl (v_assign (v := (Value.slice (some ⟨g2, 0, none⟩) 1 1)) rfl) ?_
  refine rl_end ?_
  refine wt_seq ?_
  refine wt_seq ?_
  refine wl_region wd_wide ?_
  refine rl_q rfl rfl rfl (v_assign (v := (Value.int .i64 0)) rfl) ?_
  refine rl_end ?_
  refine wt_block ?_
  obtain ⟨I2, ⟨m0, h0⟩, hr⟩ := h
  refine wt_loop (fun m E ds w' => ∃ v : List (List Int), ∃ v2 : Int, ∃ Av : Option Addr, ∃ lv : Nat, ∃ cv : Nat, I2 m v v2 ∧ ds = [] ∧ E 1 = (Value.int .i64 i) ∧ E 2 = (Value.pointer (some (⟨g, 0, none⟩ : Addr))) ∧ E 5 = (Value.slice Ar lr cr) ∧ E 6 = (Value.slice Av lv cv) ∧ E 7 = (Value.int .i64 v2) ∧ Sep w no O w' (rl [Res.own (cL cI) 25 Av lv cv v, Res.box 24 g [(Value.int .i64 d), (Value.slice Ad ld cd)], Res.ro (FP.sl c3 Ad ld cd d2), Res.own cI 3 Ar lr cr r])) m0 ⟨_, _, _, _, _, h0, rfl, rfl, rfl, rfl, rfl, rfl, (hS.sel [3, 1, 0, 2] (by decide))⟩ ?_
  clear h0 hS
  rintro m2 E ds w5 ⟨v, v2, Av, lv, cv, h, rfl, hE1, hE2, hE5, hE6, hE7, hS⟩ again
  replace h := hr m2 v v2 h
  clear hr
  refine wt_seq ?_
  refine wt_seq ?_
  refine wl_region wd_wide ?_
  refine rl_q rfl rfl rfl (v_move (v := (Value.int .i64 v2)) hE7) ?_
  refine rl_q rfl rfl rfl (v_faddr hE2 Try.underlying24 rfl info_3) ?_
  refine rl_q rfl rfl rfl (v_load rfl Try.underlying3 rfl (Row.cell (hS.bx 1 rfl) (i := 0) rfl)) ?_
  refine rl_q rfl rfl rfl (v_lss rfl rfl) ?_
  refine rl_end ?_
  by_cases hp : v2 < d
  · replace h := h.1 hp
    refine wt_cond_t (congrArg Value.bool (decide_eq_true hp)) ?_
    refine wt_skip ?_
    refine wt_seq ?_
    refine wt_block ?_
    refine wt_seq ?_
    refine wl_region wd_wide ?_
    refine rl_q rfl rfl rfl (v_assign (v := (Value.slice none 0 0)) rfl) ?_
    refine rl_end ?_
    refine wt_seq ?_
    refine wt_seq ?_
    refine wl_region wd_wide ?_
    refine rl_q rfl rfl rfl (v_assign (v := (Value.int .i64 0)) rfl) ?_
    refine rl_end ?_
    refine wt_block ?_
    replace hS := hS.nil 4 rfl (cL cI) 25
    obtain ⟨I3, ⟨m0, h0⟩, hr⟩ := h
    refine wt_loop (fun m E ds w' => ∃ v3 : List (List Int), ∃ v4 : Int, ∃ Av2 : Option Addr, ∃ lv2 : Nat, ∃ cv2 : Nat, I3 m v3 v4 ∧ ds = [] ∧ E 1 = (Value.int .i64 i) ∧ E 2 = (Value.pointer (some (⟨g, 0, none⟩ : Addr))) ∧ E 5 = (Value.slice Ar lr cr) ∧ E 6 = (Value.slice Av lv cv) ∧ E 7 = (Value.int .i64 v2) ∧ E 8 = (Value.slice Av2 lv2 cv2) ∧ E 9 = (Value.int .i64 v4) ∧ Sep w no O w' (rl [Res.own (cL cI) 25 Av2 lv2 cv2 v3, Res.box 24 g [(Value.int .i64 d), (Value.slice Ad ld cd)], Res.ro (FP.sl c3 Ad ld cd d2), Res.own cI 3 Ar lr cr r, Res.own (cL cI) 25 Av lv cv v])) m0 ⟨_, _, _, _, _, h0, rfl, hE1, hE2, hE5, hE6, hE7, rfl, rfl, (hS.sel [4, 1, 2, 3, 0] (by decide))⟩ ?_
    clear h0 hS
    rintro m3 E ds w6 ⟨v3, v4, Av2, lv2, cv2, h, rfl, hE1, hE2, hE5, hE6, hE7, hE8, hE9, hS⟩ again2
    replace h := hr m3 v3 v4 h
    clear hr
    refine wt_seq ?_
    refine wt_seq ?_
    refine wl_region wd_wide ?_
    refine rl_q rfl rfl rfl (v_move (v := (Value.int .i64 v4)) hE9) ?_
    refine rl_q rfl rfl rfl (v_move (v := (Value.slice Av lv cv)) hE6) ?_
    refine rl_q rfl rfl rfl (v_lenx (n := v.length) rfl Try.underlying161 (rd_len (hS.rdo 4 rfl))) ?_
    refine rl_q rfl rfl rfl (v_lss rfl rfl) ?_
    refine rl_end ?_
    by_cases hp2 : v4 < ((v.length : Nat) : Int)
    · replace h := h.1 hp2
      refine wt_cond_t (congrArg Value.bool (decide_eq_true hp2)) ?_
      refine wt_skip ?_
      refine wt_seq ?_
      refine wt_block ?_
      refine wt_seq ?_
      refine wl_region wd_wide ?_
      refine rl_q rfl rfl rfl (v_assign (v := (Value.int .i64 0)) rfl) ?_
      refine rl_end ?_
      refine wt_block ?_
      obtain ⟨I4, ⟨m0, h0⟩, hr⟩ := h
      refine wt_loop (fun m E ds w' => ∃ v5 : List (List Int), ∃ v6 : Int, ∃ Av3 : Option Addr, ∃ lv3 : Nat, ∃ cv3 : Nat, I4 m v5 v6 ∧ ds = [] ∧ E 1 = (Value.int .i64 i) ∧ E 2 = (Value.pointer (some (⟨g, 0, none⟩ : Addr))) ∧ E 5 = (Value.slice Ar lr cr) ∧ E 6 = (Value.slice Av lv cv) ∧ E 7 = (Value.int .i64 v2) ∧ E 8 = (Value.slice Av3 lv3 cv3) ∧ E 9 = (Value.int .i64 v4) ∧ E 10 = (Value.int .i64 v6) ∧ Sep w no O w' (rl [Res.own (cL cI) 25 Av3 lv3 cv3 v5, Res.box 24 g [(Value.int .i64 d), (Value.slice Ad ld cd)], Res.ro (FP.sl c3 Ad ld cd d2), Res.own cI 3 Ar lr cr r, Res.own (cL cI) 25 Av lv cv v])) m0 ⟨_, _, _, _, _, h0, rfl, hE1, hE2, hE5, hE6, hE7, hE8, hE9, rfl, (hS.sel [0, 1, 2, 3, 4] (by decide))⟩ ?_
      clear h0 hS
      rintro m4 E ds w7 ⟨v5, v6, Av3, lv3, cv3, h, rfl, hE1, hE2, hE5, hE6, hE7, hE8, hE9, hE10, hS⟩ again3
      replace h := hr m4 v5 v6 h
      clear hr
      refine wt_seq ?_
      refine wt_seq ?_
      refine wl_region wd_wide ?_
      refine rl_q rfl rfl rfl (v_move (v := (Value.int .i64 v6)) hE10) ?_
      refine rl_q rfl rfl rfl (v_move (v := (Value.slice Ar lr cr)) hE5) ?_
      refine rl_q rfl rfl rfl (v_move (v := (Value.int .i64 v2)) hE7) ?_
      obtain ⟨hx, h⟩ := h
      refine rl_q rfl rfl rfl (v_iaddr rfl rfl Try.underlying25 info_3 (rd_ix (hS.rdo 3 rfl) hx)) ?_
      refine rl_q rfl rfl rfl (v_load (v := (Value.int .i64 (gi r v2.toNat))) rfl Try.underlying3 rfl (rd_1 (hS.rdo 3 rfl) hx (fun q => gi_some q) rfl)) ?_
      refine rl_q rfl rfl rfl (v_leq rfl rfl) ?_
      refine rl_end ?_
      by_cases hp3 : v6 ≤ (gi r v2.toNat)
      · replace h := h.1 hp3
        refine wt_cond_t (congrArg Value.bool (decide_eq_true hp3)) ?_
        refine wt_skip ?_
        refine wt_seq ?_
        refine wt_block ?_
        refine wl_region wd_wide ?_
        refine rl_q rfl rfl rfl (v_move (v := (Value.slice Av3 lv3 cv3)) hE8) ?_
        refine rl_n rfl rfl rfl rfl (n_bslice (l := []) (cells := []) (bp0) Try.underlying25 info_3 rfl rfl ?_)
        intro g3 w8 hN
        replace hS := hS.litf (n := 0) 5 rfl (fI .i64) hN ([] : List Int) rfl (by decide) rfl
        clear hN
        refine ⟨Stb.none _, ?_⟩
        refine rl_q rfl rfl rfl (v_move (v := (Value.slice Av lv cv)) hE6) ?_
        refine rl_q rfl rfl rfl (v_move (v := (Value.int .i64 v4)) hE9) ?_
        obtain ⟨hx2, h⟩ := h
        refine rl_q rfl rfl rfl (v_iaddr rfl rfl Try.underlying161 info_25 (rd_ix (hS.rdo 4 rfl) hx2)) ?_
        obtain ⟨A, l, c, hc, hq⟩ := hS.elo 4 rfl hx2 6 rfl
        replace hS := hq
        clear hq
        refine rl_q rfl rfl rfl (v_load (v := (Value.slice A l c)) rfl Try.underlying25 rfl hc) ?_
        obtain ⟨hx3, h⟩ := h
        refine rl_n rfl rfl rfl rfl (n_app (c := cI) rfl rfl Try.underlying25 Try.underlying25 info_3 rfl rfl (by decide) hS 5 rfl (hS.yr 6 rfl) hx3 ?_)
        clear hS
        intro A2 c2 w9 hS
        refine ⟨Stb.none _, ?_⟩
        refine rl_q rfl rfl rfl (v_move (v := (Value.int .i64 v6)) hE10) ?_
        refine rl_n rfl rfl rfl rfl (n_bslice (l := [(0, (Value.int .i64 v6))]) (cells := [(Value.int .i64 v6)]) (bp1 rfl) Try.underlying25 info_3 rfl rfl ?_)
        intro g4 w10 hN
        replace hS := hS.litf (n := 1) 7 rfl (fI .i64) hN ([v6] : List Int) rfl (by decide) rfl
        clear hN
        refine ⟨Stb.none _, ?_⟩
        obtain ⟨hx4, h⟩ := h
        refine rl_n rfl rfl rfl rfl (n_app (c := cI) rfl rfl Try.underlying25 Try.underlying25 info_3 rfl rfl (by decide) hS 5 rfl (hS.yo 7 rfl) hx4 ?_)
        clear hS
        intro A3 c3 w11 hS
        refine ⟨Stb.none _, ?_⟩
        replace hS := hS.frz 5 rfl
        refine rl_n rfl rfl rfl rfl (n_bslice (l := [(0, (Value.slice A3 ((0 + l) + 1) c3))]) (cells := [(Value.slice A3 ((0 + l) + 1) c3)]) (bp1 rfl) Try.underlying161 info_25 rfl rfl ?_)
        intro g5 w12 hN
        replace hS := hS.lit (n := 1) (c := (cL cI)) 8 rfl hN ([(([] ++ (gx v v4.toNat)) ++ [v6])] : List (List Int)) rfl (by decide) ⟨[(Value.slice A3 ((0 + l) + 1) c3)], _, rfl, (ro_R (hS.ro 5 rfl)), rfl⟩
        clear hN
        refine ⟨Stb.none _, ?_⟩
        obtain ⟨hx5, h⟩ := h
        refine rl_n rfl rfl rfl rfl (n_app (c := (cL cI)) rfl rfl Try.underlying161 Try.underlying161 info_25 rfl rfl (by decide) hS 0 rfl (hS.yo 8 rfl) hx5 ?_)
        clear hS
        intro A4 c4 w13 hS
        refine ⟨Stb.none _, ?_⟩
        refine rl_q rfl rfl rfl (v_assign (v := (Value.slice A4 (lv3 + 1) c4)) rfl) ?_
        refine rl_end ?_
        refine wt_inBlock ?_
        refine wl_region wd_wide ?_
        refine rl_q rfl rfl rfl (v_move (v := (Value.int .i64 v6)) hE10) ?_
        obtain ⟨hi, h⟩ := h
        refine rl_q rfl rfl rfl (v_add rfl rfl hi) ?_
        refine rl_q rfl rfl rfl (v_assign (v := (Value.int .i64 (v6 + 1))) rfl) ?_
        refine rl_end ?_
        obtain ⟨mq, hlt, h⟩ := h
        exact again3 mq _ _ _ ⟨_, _, _, _, _, h, rfl, hE1, hE2, hE5, hE6, hE7, rfl, hE9, rfl, (hS.sel [0, 1, 2, 3, 4] (by decide))⟩ hlt
      · replace h := h.2 hp3
        refine wt_cond_f (congrArg Value.bool (decide_eq_false hp3)) ?_
        refine wt_exit rfl ?_
        refine wt_inBlock ?_
        refine wl_region wd_wide ?_
        refine rl_q rfl rfl rfl (v_move (v := (Value.int .i64 v4)) hE9) ?_
        obtain ⟨hi2, h⟩ := h
        refine rl_q rfl rfl rfl (v_add rfl rfl hi2) ?_
        refine rl_q rfl rfl rfl (v_assign (v := (Value.int .i64 (v4 + 1))) rfl) ?_
        refine rl_end ?_
        obtain ⟨mq, hlt, h⟩ := h
        exact again2 mq _ _ _ ⟨_, _, _, _, _, h, rfl, hE1, hE2, hE5, hE6, hE7, hE8, rfl, (hS.sel [0, 1, 2, 3, 4] (by decide))⟩ hlt
    · replace h := h.2 hp2
      refine wt_cond_f (congrArg Value.bool (decide_eq_false hp2)) ?_
      refine wt_exit rfl ?_
      refine wl_region wd_wide ?_
      refine rl_q rfl rfl rfl (v_move (v := (Value.slice Av2 lv2 cv2)) hE8) ?_
      refine rl_q rfl rfl rfl (v_assign (v := (Value.slice Av2 lv2 cv2)) rfl) ?_
      refine rl_end ?_
      refine wt_inBlock ?_
      refine wl_region wd_wide ?_
      refine rl_q rfl rfl rfl (v_move (v := (Value.int .i64 v2)) hE7) ?_
      obtain ⟨hi3, h⟩ := h
      refine rl_q rfl rfl rfl (v_add rfl rfl hi3) ?_
      refine rl_q rfl rfl rfl (v_assign (v := (Value.int .i64 (v2 + 1))) rfl) ?_
      refine rl_end ?_
      obtain ⟨mq, hlt, h⟩ := h
      exact again mq _ _ _ ⟨_, _, _, _, _, h, rfl, hE1, hE2, hE5, rfl, rfl, (hS.sel [0, 1, 2, 3] (by decide))⟩ hlt
  · replace h := h.2 hp
    refine wt_cond_f (congrArg Value.bool (decide_eq_false hp)) ?_
    refine wt_exit rfl ?_
    refine wt_seq ?_
    refine wl_region wd_wide ?_
    refine rl_q rfl rfl rfl (v_assign (v := (Value.slice none 0 0)) rfl) ?_
    refine rl_end ?_
    refine wt_seq ?_
    refine wt_seq ?_
    refine wl_region wd_wide ?_
    refine rl_q rfl rfl rfl (v_assign (v := (Value.int .i64 0)) rfl) ?_
    refine rl_end ?_
    refine wt_block ?_
    replace hS := hS.nil 4 rfl (cL cI) 25
    obtain ⟨I5, ⟨m0, h0⟩, hr⟩ := h
    refine wt_loop (fun m E ds w' => ∃ v7 : List (List Int), ∃ v8 : Int, ∃ Av4 : Option Addr, ∃ lv4 : Nat, ∃ cv4 : Nat, I5 m v7 v8 ∧ ds = [] ∧ E 1 = (Value.int .i64 i) ∧ E 2 = (Value.pointer (some (⟨g, 0, none⟩ : Addr))) ∧ E 6 = (Value.slice Av lv cv) ∧ E 11 = (Value.slice Av4 lv4 cv4) ∧ E 12 = (Value.int .i64 v8) ∧ Sep w no O w' (rl [Res.own (cL cI) 25 Av4 lv4 cv4 v7, Res.box 24 g [(Value.int .i64 d), (Value.slice Ad ld cd)], Res.ro (FP.sl c3 Ad ld cd d2), Res.own (cL cI) 25 Av lv cv v])) m0 ⟨_, _, _, _, _, h0, rfl, hE1, hE2, hE6, rfl, rfl, (hS.sel [4, 1, 2, 0] (by decide))⟩ ?_
    clear h0 hS
    rintro m8 E ds w14 ⟨v7, v8, Av4, lv4, cv4, h, rfl, hE1, hE2, hE6, hE11, hE12, hS⟩ again4
    replace h := hr m8 v7 v8 h
    clear hr
    refine wt_seq ?_
    refine wt_seq ?_
    refine wl_region wd_wide ?_
    refine rl_q rfl rfl rfl (v_move (v := (Value.int .i64 v8)) hE12) ?_
    refine rl_q rfl rfl rfl (v_move (v := (Value.slice Av lv cv)) hE6) ?_
    refine rl_q rfl rfl rfl (v_lenx (n := v.length) rfl Try.underlying161 (rd_len (hS.rdo 3 rfl))) ?_
    refine rl_q rfl rfl rfl (v_lss rfl rfl) ?_
    refine rl_end ?_
    by_cases hp4 : v8 < ((v.length : Nat) : Int)
    · replace h := h.1 hp4
      refine wt_cond_t (congrArg Value.bool (decide_eq_true hp4)) ?_
      refine wt_skip ?_
      refine wt_seq ?_
      refine wt_block ?_
      refine wt_seq ?_
      refine wp_draw [0, 1, 2, 3, 4, 5, 6] st0 wd_wide (by kernel_rfl) (by kernel_rfl) ?_
      replace hS := hS.drew
      refine rp_q rfl rfl rfl (v_loadn (vs := [(Value.int .i64 d), (Value.slice Ad ld cd)]) hE2 Try.underlying24 rfl info_24 ⟨Row.cell (hS.bx 1 rfl) (i := 0) rfl, Row.cell (hS.bx 1 rfl) (i := 1) rfl, trivial⟩) ?_
      refine rp_q rfl rfl rfl (v_move (v := (Value.int .i64 i)) hE1) ?_
      refine rp_q rfl rfl rfl (v_move (v := (Value.slice Av lv cv)) hE6) ?_
      refine rp_q rfl rfl rfl (v_move (v := (Value.int .i64 v8)) hE12) ?_
      obtain ⟨hx6, h⟩ := h
      refine rp_q rfl rfl rfl (v_iaddr rfl rfl Try.underlying161 info_25 (rd_ix (hS.rdo 3 rfl) hx6)) ?_
      obtain ⟨A5, l2, c5, hc2, hq⟩ := hS.elo 3 rfl hx6 4 rfl
      replace hS := hq
      clear hq
      refine rp_q rfl rfl rfl (v_load (v := (Value.slice A5 l2 c5)) rfl Try.underlying25 rfl hc2) ?_
      refine rp_n rfl rfl rfl rfl (n_call0 rfl (am3 rfl rfl rfl) enter_167 ((pok_r25_Calm h (no_lt _) (hS.rdr 2 rfl) (hS.rdr 4 rfl)).mono ?_))
      rintro _ w15 ⟨r2, rfl, hC, h⟩
      replace hS := hS.pur hC.pure
      clear hC
      refine ⟨_, rfl, ?_⟩
      refine ⟨Stb.none _, ?_⟩
      refine rp_end ?_
      by_cases hp5 : r2 = true
      · replace h := h.1 hp5
        refine wt_cond_t (congrArg Value.bool hp5) ?_
        refine wl_region wd_wide ?_
        refine rl_q rfl rfl rfl (v_move (v := (Value.slice Av4 lv4 cv4)) hE11) ?_
        refine rl_q rfl rfl rfl (v_move (v := (Value.slice Av lv cv)) hE6) ?_
        refine rl_q rfl rfl rfl (v_move (v := (Value.int .i64 v8)) hE12) ?_
        refine rl_q rfl rfl rfl (v_iaddr rfl rfl Try.underlying161 info_25 (rd_ix (hS.rdo 3 rfl) hx6)) ?_
        obtain ⟨A6, l3, c6, hc3, hq⟩ := hS.elo 3 rfl hx6 5 rfl
        replace hS := hq
        clear hq
        refine rl_q rfl rfl rfl (v_load (v := (Value.slice A6 l3 c6)) rfl Try.underlying25 rfl hc3) ?_
        refine rl_n rfl rfl rfl rfl (n_bslice (l := [(0, (Value.slice A6 l3 c6))]) (cells := [(Value.slice A6 l3 c6)]) (bp1 rfl) Try.underlying161 info_25 rfl rfl ?_)
        intro g6 w16 hN
        replace hS := hS.lit (n := 1) (c := (cL cI)) 6 rfl hN ([(gx v v8.toNat)] : List (List Int)) rfl (by decide) ⟨[(Value.slice A6 l3 c6)], _, rfl, (ro_R (hS.ro 5 rfl)), rfl⟩
        clear hN
        refine ⟨Stb.none _, ?_⟩
        obtain ⟨hx7, h⟩ := h
        refine rl_n rfl rfl rfl rfl (n_app (c := (cL cI)) rfl rfl Try.underlying161 Try.underlying161 info_25 rfl rfl (by decide) hS 0 rfl (hS.yo 6 rfl) hx7 ?_)
        clear hS
        intro A7 c7 w17 hS
        refine ⟨Stb.none _, ?_⟩
        refine rl_q rfl rfl rfl (v_assign (v := (Value.slice A7 (lv4 + 1) c7)) rfl) ?_
        refine rl_end ?_
        refine wt_inBlock ?_
        refine wl_region wd_wide ?_
        refine rl_q rfl rfl rfl (v_move (v := (Value.int .i64 v8)) hE12) ?_
        obtain ⟨hi4, h⟩ := h
        refine rl_q rfl rfl rfl (v_add rfl rfl hi4) ?_
        refine rl_q rfl rfl rfl (v_assign (v := (Value.int .i64 (v8 + 1))) rfl) ?_
        refine rl_end ?_
        obtain ⟨mq, hlt, h⟩ := h
        exact again4 mq _ _ _ ⟨_, _, _, _, _, h, rfl, hE1, hE2, hE6, rfl, rfl, (hS.sel [0, 1, 2, 3] (by decide))⟩ hlt
      · replace h := h.2 hp5
        refine wt_cond_f (congrArg Value.bool (Bool.eq_false_iff.2 hp5)) ?_
        refine wt_skip ?_
        refine wt_inBlock ?_
        refine wl_region wd_wide ?_
        refine rl_q rfl rfl rfl (v_move (v := (Value.int .i64 v8)) hE12) ?_
        obtain ⟨hi5, h⟩ := h
        refine rl_q rfl rfl rfl (v_add rfl rfl hi5) ?_
        refine rl_q rfl rfl rfl (v_assign (v := (Value.int .i64 (v8 + 1))) rfl) ?_
        refine rl_end ?_
        obtain ⟨mq, hlt, h⟩ := h
        exact again4 mq _ _ _ ⟨_, _, _, _, _, h, rfl, hE1, hE2, hE6, hE11, rfl, (hS.sel [0, 1, 2, 3] (by decide))⟩ hlt
    · replace h := h.2 hp4
      refine wt_cond_f (congrArg Value.bool (decide_eq_false hp4)) ?_
      refine wt_exit rfl ?_
      refine wt_seq ?_
      refine wl_region wd_wide ?_
      refine rl_q rfl rfl rfl (v_move (v := (Value.slice Av4 lv4 cv4)) hE11) ?_
      refine rl_q rfl rfl rfl (v_assign (v := (Value.slice Av4 lv4 cv4)) rfl) ?_
      refine rl_end ?_
      exact wt_ret1 rfl rfl ⟨_, _, _, _, rfl, (hS.sel [0] (by decide)), h⟩

/-- sandpile/sandpileref25.Settled: what it computes. -/
def pf_r25_Settled (g : Int) (g2 : List (Int × Int × Int)) (q : Int) (d : List Int) (R : (List Int) → Prop) : Prop :=
pf_r25_Calms g g2 q (fun (r : List (List Int)) =>
(∃ I2 : Nat → Int → Prop, (∃ m0, I2 m0 0) ∧ ∀ (m2 : Nat) (i : Int), I2 m2 i → 
((i < ((r.length : Nat) : Int) →
((0 ≤ i ∧ i < ((r.length : Nat) : Int)) ∧
pf_r25_Flat d q (fun (r2 : List Int) =>
pf_r25_Flat (gx r i.toNat) q (fun (r3 : List Int) =>
pf_r25_Alike g g2 r2 r3 (fun (r4 : Bool) =>
((r4 = true →
R (gx r i.toNat)) ∧
(¬ (r4 = true) →
(In64 (i + 1) ∧
∃ m3, m3 < m2 ∧ I2 m3 (i + 1))))))))) ∧
(¬ (i < ((r.length : Nat) : Int)) →
R ([])))))
theorem pok_r25_Settled {O : Nat → Prop} {w : World} {g : Int} {g2 : List (Int × Int × Int)} {q : Int} {d : List Int} {Ag : Option Addr} {lg : Nat} {cg : Nat} {Ad : Option Addr} {ld : Nat} {cd : Nat} {R : (List Int) → Prop} (h : pf_r25_Settled g g2 q d R) (hO : ∀ k, O k → k < w.heap.size) (a0 : (FP.sl c3 Ag lg cg g2).P O w) (a1 : (FP.sl cI Ad ld cd d).P O w) :
    Calls Try.prog 117 #[(Value.agg #[(Value.int .i64 g), (Value.slice Ag lg cg)]), (Value.int .i64 q), (Value.slice Ad ld cd)] w fun e w' => ∃ r5 : List Int, ∃ Ar4 : Option Addr, ∃ lr4 : Nat, ∃ cr4 : Nat, e = .returned (Value.slice Ar4 lr4 cr4) ∧ Sep w no O w' (rl [Res.ro (FP.sl cI Ar4 lr4 cr4 r5)]) ∧ R r5 := by
  unfold pf_r25_Settled at h
  have hS : Sep w no O w (rl [Res.ro (FP.sl c3 Ag lg cg g2), Res.ro (FP.sl cI Ad ld cd d)]) := Sep.startl hO [(FP.sl c3 Ag lg cg g2), (FP.sl cI Ad ld cd d)] ⟨a0, a1, trivial⟩
  refine calls_sh (l := [(Value.agg #[(Value.int .i64 g), (Value.slice Ag lg cg)]), (Value.int .i64 q), (Value.slice Ad ld cd)]) Try.func117 rfl Try.ntmps117 (Nat.le_of_ble_eq_true rfl) ?_
  refine wt_seq ?_
  refine wl_region wd_wide ?_
  refine rl_n rfl rfl rfl rfl (n_box (v := (Value.agg #[(Value.int .i64 g), (Value.slice Ag lg cg)])) rfl ?_)
  intro g3 w2 hN
  replace hS : Sep w no O w2 (stl _ 2 (Res.box 24 g3 [(Value.int .i64 g), (Value.slice Ag lg cg)])) := hS.new 2 rfl hN
  clear hN
  refine ⟨Stb.none _, ?_⟩
  refine rl_q rfl rfl rfl (v_assign (v := (Value.slice none 0 0)) rfl) ?_
  refine rl_end ?_
  refine wt_seq ?_
  refine wl_region wd_wide ?_
  refine rl_q rfl rfl rfl (v_loadn (vs := [(Value.int .i64 g), (Value.slice Ag lg cg)]) rfl Try.underlying24 rfl info_24 ⟨Row.cell (hS.bx 2 rfl) (i := 0) rfl, Row.cell (hS.bx 2 rfl) (i := 1) rfl, trivial⟩) ?_
  refine rl_q rfl rfl rfl (v_move (v := (Value.int .i64 q)) rfl) ?_
  refine rl_n rfl rfl rfl rfl (n_call0 rfl (am2 rfl rfl) enter_149 ((pok_r25_Calms h hS.blt (hS.ro 0 rfl)).mono ?_))
  rintro _ w3 ⟨r, Ar, lr, cr, rfl, hC, h⟩
  replace hS := hS.call1 hC 3 0 rfl
  clear hC
  refine ⟨_, rfl, ?_⟩
  refine ⟨Stb.none _, ?_⟩
  refine rl_q rfl rfl rfl (v_assign (v := (Value.slice Ar lr cr)) rfl) ?_
  refine rl_end ?_
  refine wt_seq ?_
  refine wt_seq ?_
  refine wl_region wd_wide ?_
  refine rl_q rfl rfl rfl (v_assign (v := (Value.int .i64 0)) rfl) ?_
  refine rl_end ?_
  refine wt_block ?_
  replace hS := hS.frz 3 rfl
  obtain ⟨I2, ⟨m0, h0⟩, hr⟩ := h
  refine wt_loop (fun m E ds w' => ∃ i : Int, I2 m i ∧ ds = [] ∧ E 1 = (Value.int .i64 q) ∧ E 2 = (Value.slice Ad ld cd) ∧ E 3 = (Value.pointer (some (⟨g3, 0, none⟩ : Addr))) ∧ E 7 = (Value.slice Ar lr cr) ∧ E 8 = (Value.int .i64 i) ∧ Sep w no O w' (rl [Res.ro (FP.sl cI Ad ld cd d), Res.box 24 g3 [(Value.int .i64 g), (Value.slice Ag lg cg)], Res.ro (FP.sl c3 Ag lg cg g2), Res.ro (FP.sl (cL cI) Ar lr cr r)])) m0 ⟨_, h0, rfl, rfl, rfl, rfl, rfl, rfl, (hS.sel [1, 2, 0, 3] (by decide))⟩ ?_
  clear h0 hS
  rintro m2 E ds w4 ⟨i, h, rfl, hE1, hE2, hE3, hE7, hE8, hS⟩ again
  replace h := hr m2 i h
  clear hr
  refine wt_seq ?_
  refine wt_seq ?_
  refine wl_region wd_wide ?_
  refine rl_q rfl rfl rfl (v_move (v := (Value.int .i64 i)) hE8) ?_
  refine rl_q rfl rfl rfl (v_move (v := (Value.slice Ar lr cr)) hE7) ?_
  refine rl_q rfl rfl rfl (v_lenx (n := r.length) rfl Try.underlying161 (rd_len (hS.rdr 3 rfl))) ?_
  refine rl_q rfl rfl rfl (v_lss rfl rfl) ?_
  refine rl_end ?_
  by_cases hp : i < ((r.length : Nat) : Int)
  · replace h := h.1 hp
    refine wt_cond_t (congrArg Value.bool (decide_eq_true hp)) ?_
    refine wt_skip ?_
    refine wt_seq ?_
    refine wt_block ?_
    refine wt_seq ?_
    refine wp_draw [0, 1, 2, 4, 5, 6, 7, 8, 3, 9, 10] (fun i => match i with | 3 => [0, 4, 5, 6, 7, 8] | 9 => [0] | _ => []) wd_wide (by kernel_rfl) (by kernel_rfl) ?_
    replace hS := hS.drew
    refine rp_q rfl rfl rfl (v_loadn (vs := [(Value.int .i64 g), (Value.slice Ag lg cg)]) hE3 Try.underlying24 rfl info_24 ⟨Row.cell (hS.bx 1 rfl) (i := 0) rfl, Row.cell (hS.bx 1 rfl) (i := 1) rfl, trivial⟩) ?_
    refine rp_q rfl rfl rfl (v_move (v := (Value.slice Ad ld cd)) hE2) ?_
    refine rp_q rfl rfl rfl (v_move (v := (Value.int .i64 q)) hE1) ?_
    refine rp_q rfl rfl rfl (v_move (v := (Value.slice Ar lr cr)) hE7) ?_
    refine rp_q rfl rfl rfl (v_move (v := (Value.int .i64 i)) hE8) ?_
    obtain ⟨hx, h⟩ := h
    refine rp_q rfl rfl rfl (v_iaddr rfl rfl Try.underlying161 info_25 (rd_ix (hS.rdr 3 rfl) hx)) ?_
    obtain ⟨A, l, c, hc, hq⟩ := hS.el 3 rfl hx 4 5 rfl rfl (by decide)
    replace hS := hq
    clear hq
    refine rp_q rfl rfl rfl (v_load (v := (Value.slice A l c)) rfl Try.underlying25 rfl (hS.clr 5 rfl)) ?_
    refine rp_q rfl rfl rfl (v_move (v := (Value.int .i64 q)) hE1) ?_
    refine rp_n rfl rfl rfl rfl (n_call0 rfl (am2 rfl rfl) enter_151 ((pok_r25_Flat h (no_lt _) (hS.rdr 0 rfl)).mono ?_))
    rintro _ w5 ⟨r2, Ar2, lr2, cr2, rfl, hC, h⟩
    replace hS := hS.call1 (hC.widen (flatS (flat_own (fI .i64) _ _ _ _ _) flat0) hS.blt) 6 0 rfl
    clear hC
    refine ⟨_, rfl, ?_⟩
    refine ⟨⟨fun _ => (v_move (v := (Value.int .i64 q)) hE1), ⟨fun _ => (v_load (v := (Value.slice A l c)) rfl Try.underlying25 rfl (hS.clr 5 rfl)), ⟨fun _ => (v_iaddr rfl rfl Try.underlying161 info_25 (rd_ix (hS.rdr 3 rfl) hx)), ⟨fun _ => (v_move (v := (Value.int .i64 i)) hE8), ⟨fun _ => (v_move (v := (Value.slice Ar lr cr)) hE7), ⟨fun hh => Bool.noConfusion (show false = true from hh), ⟨fun hh => Bool.noConfusion (show false = true from hh), ⟨fun _ => (v_loadn (vs := [(Value.int .i64 g), (Value.slice Ag lg cg)]) hE3 Try.underlying24 rfl info_24 ⟨Row.cell (hS.bx 1 rfl) (i := 0) rfl, Row.cell (hS.bx 1 rfl) (i := 1) rfl, trivial⟩), trivial⟩⟩⟩⟩⟩⟩⟩⟩, ?_⟩
    refine rp_n rfl rfl rfl rfl (n_call0 rfl (am2 rfl rfl) enter_151 ((pok_r25_Flat h (no_lt _) (hS.rdr 4 rfl)).mono ?_))
    rintro _ w6 ⟨r3, Ar3, lr3, cr3, rfl, hC, h⟩
    replace hS := hS.call1 (hC.widen (flatS (flat_own (fI .i64) _ _ _ _ _) flat0) hS.blt) 7 0 rfl
    clear hC
    refine ⟨_, rfl, ?_⟩
    refine ⟨⟨fun hh => Bool.noConfusion (show false = true from hh), ⟨fun hh => Bool.noConfusion (show false = true from hh), ⟨fun hh => Bool.noConfusion (show false = true from hh), ⟨fun hh => Bool.noConfusion (show false = true from hh), ⟨fun hh => Bool.noConfusion (show false = true from hh), ⟨fun hh => Bool.noConfusion (show false = true from hh), ⟨fun hh => Bool.noConfusion (show false = true from hh), ⟨fun _ => (v_loadn (vs := [(Value.int .i64 g), (Value.slice Ag lg cg)]) hE3 Try.underlying24 rfl info_24 ⟨Row.cell (hS.bx 1 rfl) (i := 0) rfl, Row.cell (hS.bx 1 rfl) (i := 1) rfl, trivial⟩), trivial⟩⟩⟩⟩⟩⟩⟩⟩, ?_⟩
    refine rp_n rfl rfl rfl rfl (n_call0 rfl (am3 rfl rfl rfl) enter_150 ((pok_r25_Alike h (no_lt _) (hS.rdr 2 rfl) (hS.rdo 6 rfl) (hS.rdo 7 rfl)).mono ?_))
    rintro _ w7 ⟨r4, rfl, hC, h⟩
    replace hS := hS.pur hC.pure
    clear hC
    refine ⟨_, rfl, ?_⟩
    refine ⟨Stb.none _, ?_⟩
    refine rp_end ?_
    by_cases hp2 : r4 = true
    · replace h := h.1 hp2
      refine wt_cond_t (congrArg Value.bool hp2) ?_
      refine wt_seq ?_
      refine wl_region wd_wide ?_
      refine rl_q rfl rfl rfl (v_move (v := (Value.slice Ar lr cr)) hE7) ?_
      refine rl_q rfl rfl rfl (v_move (v := (Value.int .i64 i)) hE8) ?_
      refine rl_q rfl rfl rfl (v_iaddr rfl rfl Try.underlying161 info_25 (rd_ix (hS.rdr 3 rfl) hx)) ?_
      obtain ⟨A2, l2, c2, hc2, hq⟩ := hS.el 3 rfl hx 8 9 rfl rfl (by decide)
      replace hS := hq
      clear hq
      refine rl_q rfl rfl rfl (v_load (v := (Value.slice A2 l2 c2)) rfl Try.underlying25 rfl (hS.clr 9 rfl)) ?_
      refine rl_q rfl rfl rfl (v_assign (v := (Value.slice A2 l2 c2)) rfl) ?_
      refine rl_end ?_
      exact wt_ret1 rfl rfl ⟨_, _, _, _, rfl, (hS.sel [8] (by decide)), h⟩
    · replace h := h.2 hp2
      refine wt_cond_f (congrArg Value.bool (Bool.eq_false_iff.2 hp2)) ?_
      refine wt_skip ?_
      refine wt_inBlock ?_
      refine wl_region wd_wide ?_
      refine rl_q rfl rfl rfl (v_move (v := (Value.int .i64 i)) hE8) ?_
      obtain ⟨hi, h⟩ := h
      refine rl_q rfl rfl rfl (v_add rfl rfl hi) ?_
      refine rl_q rfl rfl rfl (v_assign (v := (Value.int .i64 (i + 1))) rfl) ?_
      refine rl_end ?_
      obtain ⟨mq, hlt, h⟩ := h
      exact again mq _ _ _ ⟨_, h, rfl, hE1, hE2, hE3, hE7, rfl, (hS.sel [0, 1, 2, 3] (by decide))⟩ hlt
  · replace h := h.2 hp
    refine wt_cond_f (congrArg Value.bool (decide_eq_false hp)) ?_
    refine wt_exit rfl ?_
    refine wt_seq ?_
    refine wl_region wd_wide ?_
    refine rl_q rfl rfl rfl (v_assign (v := (Value.slice none 0 0)) rfl) ?_
    refine rl_end ?_
    replace hS := hS.addro 4 rfl _ (nil_sl cI _ _)
    exact wt_ret1 rfl rfl ⟨_, _, _, _, rfl, (hS.sel [4] (by decide)), h⟩

/-- sandpile/sandpileref34.Form: what it computes. -/
def pf_r34_Form (g : Int) (g2 : List (Int × Int × Int)) (q : Int) (d : List Int) (R : (List Int) → Prop) : Prop :=
pf_r25_Settled g g2 q d (fun (r : List Int) =>
(0 + r.length ≤ 1000000000 ∧
pf_r17_Total d (fun (r2 : Int) =>
pf_r17_Total ([] ++ r) (fun (r3 : Int) =>
(In64 (r2 - r3) ∧
((0 ≤ q ∧ q < ((([] ++ r).length : Nat) : Int)) ∧
R (([] ++ r).set q.toNat (r2 - r3))))))))
theorem pok_r34_Form {O : Nat → Prop} {w : World} {g : Int} {g2 : List (Int × Int × Int)} {q : Int} {d : List Int} {Ag : Option Addr} {lg : Nat} {cg : Nat} {Ad : Option Addr} {ld : Nat} {cd : Nat} {R : (List Int) → Prop} (h : pf_r34_Form g g2 q d R) (hO : ∀ k, O k → k < w.heap.size) (a0 : (FP.sl c3 Ag lg cg g2).P O w) (a1 : (FP.sl cI Ad ld cd d).P O w) :
    Calls Try.prog 68 #[(Value.agg #[(Value.int .i64 g), (Value.slice Ag lg cg)]), (Value.int .i64 q), (Value.slice Ad ld cd)] w fun e w' => ∃ r4 : List Int, ∃ Ar2 : Option Addr, ∃ lr2 : Nat, ∃ cr2 : Nat, e = .returned (Value.slice Ar2 lr2 cr2) ∧ Sep w no O w' (rl [Res.own cI 3 Ar2 lr2 cr2 r4]) ∧ R r4 := by
  unfold pf_r34_Form at h
  have hS : Sep w no O w (rl [Res.ro (FP.sl c3 Ag lg cg g2), Res.ro (FP.sl cI Ad ld cd d)]) := Sep.startl hO [(FP.sl c3 Ag lg cg g2), (FP.sl cI Ad ld cd d)] ⟨a0, a1, trivial⟩
  refine calls_sh (l := [(Value.agg #[(Value.int .i64 g), (Value.slice Ag lg cg)]), (Value.int .i64 q), (Value.slice Ad ld cd)]) Try.func68 rfl Try.ntmps68 (Nat.le_of_ble_eq_true rfl) ?_
  refine wt_seq ?_
  refine wl_region wd_wide ?_
  refine rl_n rfl rfl rfl rfl (n_box (v := (Value.agg #[(Value.int .i64 g), (Value.slice Ag lg cg)])) rfl ?_)
  intro g3 w2 hN
  replace hS : Sep w no O w2 (stl _ 2 (Res.box 24 g3 [(Value.int .i64 g), (Value.slice Ag lg cg)])) := hS.new 2 rfl hN
  clear hN
  refine ⟨Stb.none _, ?_⟩
  refine rl_q rfl rfl rfl (v_assign (v := (Value.slice none 0 0)) rfl) ?_
  refine rl_end ?_
  refine wt_seq ?_
  refine wl_region wd_wide ?_
  refine rl_n rfl rfl rfl rfl (n_bslice (l := []) (cells := []) (bp0) Try.underlying25 info_3 rfl rfl ?_)
  intro g4 w3 hN
  replace hS := hS.litf (n := 0) 3 rfl (fI .i64) hN ([] : List Int) rfl (by decide) rfl
  clear hN
  refine ⟨Stb.none _, ?_⟩
  refine rl_q rfl rfl rfl (v_loadn (vs := [(Value.int .i64 g), (Value.slice Ag lg cg)]) rfl Try.underlying24 rfl info_24 ⟨Row.cell (hS.bx 2 rfl) (i := 0) rfl, Row.cell (hS.bx 2 rfl) (i := 1) rfl, trivial⟩) ?_
  refine rl_q rfl rfl rfl (v_move (v := (Value.int .i64 q)) rfl) ?_
  refine rl_q rfl rfl rfl (v_move (v := (Value.slice Ad ld cd)) rfl) ?_
  refine rl_n rfl rfl rfl rfl (n_call0 rfl (am3 rfl rfl rfl) enter_117 ((pok_r25_Settled h hS.blt (hS.ro 0 rfl) (hS.ro 1 rfl)).mono ?_))
  rintro _ w4 ⟨r, Ar, lr, cr, rfl, hC, h⟩
  replace hS := hS.call1 hC 4 0 rfl
  clear hC
  refine ⟨_, rfl, ?_⟩
  refine ⟨Stb.none _, ?_⟩
  obtain ⟨hx, h⟩ := h
  refine rl_n rfl rfl rfl rfl (n_app (c := cI) rfl rfl Try.underlying25 Try.underlying25 info_3 rfl rfl (by decide) hS 3 rfl (hS.yr 4 rfl) hx ?_)
  clear hS
  intro A c w5 hS
  refine ⟨Stb.none _, ?_⟩
  refine rl_q rfl rfl rfl (v_assign (v := (Value.slice A (0 + lr) c)) rfl) ?_
  refine rl_end ?_
  refine wt_seq ?_
  refine wl_region wd_wide ?_
  refine rl_q rfl rfl rfl (v_move (v := (Value.slice A (0 + lr) c)) rfl) ?_
  refine rl_q rfl rfl rfl (v_move (v := (Value.int .i64 q)) rfl) ?_
  refine rl_q rfl rfl rfl (v_move (v := (Value.slice Ad ld cd)) rfl) ?_
  refine rl_n rfl rfl rfl rfl (n_call0 rfl (am1 rfl) enter_38 ((pok_r17_Total h (no_lt _) (hS.rdr 1 rfl)).mono ?_))
  rintro _ w6 ⟨r2, rfl, hC, h⟩
  replace hS := hS.pur hC.pure
  clear hC
  refine ⟨_, rfl, ?_⟩
  refine ⟨Stb.none _, ?_⟩
  refine rl_q rfl rfl rfl (v_move (v := (Value.slice A (0 + lr) c)) rfl) ?_
  refine rl_n rfl rfl rfl rfl (n_call0 rfl (am1 rfl) enter_38 ((pok_r17_Total h (no_lt _) (hS.rdo 3 rfl)).mono ?_))
  rintro _ w7 ⟨r3, rfl, hC, h⟩
  replace hS := hS.pur hC.pure
  clear hC
  refine ⟨_, rfl, ?_⟩
  refine ⟨Stb.none _, ?_⟩
  obtain ⟨hi, h⟩ := h
  refine rl_q rfl rfl rfl (v_sub rfl rfl hi) ?_
  obtain ⟨hx2, h⟩ := h
  refine rl_q rfl rfl rfl (v_iaddr rfl rfl Try.underlying25 info_3 (rd_ix (hS.rdo 3 rfl) hx2)) ?_
  refine rl_n0 rfl rfl rfl (n_store (v := (Value.int .i64 (r2 - r3))) rfl rfl rfl info_3 (hS.wr 3 rfl rfl hx2) ?_)
  intro w8 e1
  replace hS := hS.st 3 rfl rfl hx2 (x := r2 - r3) rfl e1
  clear e1
  refine ⟨Stb.none _, ?_⟩
  refine rl_end ?_
  refine wt_seq ?_
  refine wl_region wd_wide ?_
  refine rl_q rfl rfl rfl (v_move (v := (Value.slice A (0 + lr) c)) rfl) ?_
  refine rl_q rfl rfl rfl (v_assign (v := (Value.slice A (0 + lr) c)) rfl) ?_
  refine rl_end ?_
  exact wt_ret1 rfl rfl ⟨_, _, _, _, rfl, (hS.sel [3] (by decide)), h⟩

/-- sandpile/sandpileref34.Way: what it computes. -/
def pf_r34_Way (g : Int) (g2 : List (Int × Int × Int)) (q : Int) (a : List Int) (b : List Int) (R : (List Int) → Prop) : Prop :=
pf_r25_Plus a b (-1) (fun (r : List Int) =>
pf_r25_Solve g g2 q r (fun (r2 : List Int) (r3 : Bool) =>
R r2))
theorem pok_r34_Way {O : Nat → Prop} {w : World} {g : Int} {g2 : List (Int × Int × Int)} {q : Int} {a : List Int} {b : List Int} {Ag : Option Addr} {lg : Nat} {cg : Nat} {Aa : Option Addr} {la : Nat} {ca : Nat} {Ab : Option Addr} {lb : Nat} {cb : Nat} {R : (List Int) → Prop} (h : pf_r34_Way g g2 q a b R) (hO : ∀ k, O k → k < w.heap.size) (a0 : (FP.sl c3 Ag lg cg g2).P O w) (a1 : (FP.sl cI Aa la ca a).P O w) (a2 : (FP.sl cI Ab lb cb b).P O w) :
    Calls Try.prog 69 #[(Value.agg #[(Value.int .i64 g), (Value.slice Ag lg cg)]), (Value.int .i64 q), (Value.slice Aa la ca), (Value.slice Ab lb cb)] w fun e w' => ∃ r4 : List Int, ∃ Ar3 : Option Addr, ∃ lr3 : Nat, ∃ cr3 : Nat, e = .returned (Value.slice Ar3 lr3 cr3) ∧ Sep w no O w' (rl [Res.own cI 3 Ar3 lr3 cr3 r4]) ∧ R r4 := by
  unfold pf_r34_Way at h
  have hS : Sep w no O w (rl [Res.ro (FP.sl c3 Ag lg cg g2), Res.ro (FP.sl cI Aa la ca a), Res.ro (FP.sl cI Ab lb cb b)]) := Sep.startl hO [(FP.sl c3 Ag lg cg g2), (FP.sl cI Aa la ca a), (FP.sl cI Ab lb cb b)] ⟨a0, a1, a2, trivial⟩
  refine calls_sh (l := [(Value.agg #[(Value.int .i64 g), (Value.slice Ag lg cg)]), (Value.int .i64 q), (Value.slice Aa la ca), (Value.slice Ab lb cb)]) Try.func69 rfl Try.ntmps69 (Nat.le_of_ble_eq_true rfl) ?_
  refine wt_seq ?_
  refine wl_region wd_wide ?_
  refine rl_n rfl rfl rfl rfl (n_box (v := (Value.agg #[(Value.int .i64 g), (Value.slice Ag lg cg)])) rfl ?_)
  intro g3 w2 hN
  replace hS : Sep w no O w2 (stl _ 3 (Res.box 24 g3 [(Value.int .i64 g), (Value.slice Ag lg cg)])) := hS.new 3 rfl hN
  clear hN
  refine ⟨Stb.none _, ?_⟩
  refine rl_q rfl rfl rfl (v_assign (v := (Value.slice none 0 0)) rfl) ?_
  refine rl_end ?_
  refine wt_seq ?_
  refine wp_draw [0, 1, 2, 3, 4, 5, 6, 7, 8, 9, 10] (fun i => match i with | 4 => [0, 1] | _ => []) wd_wide (by kernel_rfl) (by kernel_rfl) ?_
  replace hS := hS.drew
  refine rp_q rfl rfl rfl (v_loadn (vs := [(Value.int .i64 g), (Value.slice Ag lg cg)]) rfl Try.underlying24 rfl info_24 ⟨Row.cell (hS.bx 3 rfl) (i := 0) rfl, Row.cell (hS.bx 3 rfl) (i := 1) rfl, trivial⟩) ?_
  refine rp_q rfl rfl rfl (v_move (v := (Value.int .i64 q)) rfl) ?_
  refine rp_q rfl rfl rfl (v_move (v := (Value.slice Aa la ca)) rfl) ?_
  refine rp_q rfl rfl rfl (v_move (v := (Value.slice Ab lb cb)) rfl) ?_
  refine rp_n rfl rfl rfl rfl (n_call0 rfl (am3 rfl rfl rfl) enter_119 ((pok_r25_Plus h (no_lt _) (hS.rdr 1 rfl) (hS.rdr 2 rfl)).mono ?_))
  rintro _ w3 ⟨r, Ar, lr, cr, rfl, hC, h⟩
  replace hS := hS.call1 (hC.widen (flatS (flat_own (fI .i64) _ _ _ _ _) flat0) hS.blt) 4 0 rfl
  clear hC
  refine ⟨_, rfl, ?_⟩
  refine ⟨⟨fun hh => Bool.noConfusion (show false = true from hh), ⟨fun hh => Bool.noConfusion (show false = true from hh), ⟨fun _ => (v_move (v := (Value.int .i64 q)) rfl), ⟨fun _ => (v_loadn (vs := [(Value.int .i64 g), (Value.slice Ag lg cg)]) rfl Try.underlying24 rfl info_24 ⟨Row.cell (hS.bx 3 rfl) (i := 0) rfl, Row.cell (hS.bx 3 rfl) (i := 1) rfl, trivial⟩), trivial⟩⟩⟩⟩, ?_⟩
  refine rp_n rfl rfl rfl rfl (n_call0 rfl (am3 rfl rfl rfl) enter_118 ((pok_r25_Solve h (no_lt _) (hS.rdr 0 rfl) (hS.rdo 4 rfl)).mono ?_))
  rintro _ w4 ⟨r2, r3, Ar2, lr2, cr2, rfl, hC, h⟩
  replace hS := hS.call1 (hC.widen (flatS (flat_own (fI .i64) _ _ _ _ _) flat0) hS.blt) 5 0 rfl
  clear hC
  refine ⟨_, rfl, ?_⟩
  refine ⟨Stb.none _, ?_⟩
  refine rp_q rfl rfl rfl (v_move (v := (Value.tuple #[(Value.slice Ar2 lr2 cr2), (Value.bool (r3))])) rfl) ?_
  refine rp_q rfl rfl rfl (v_extract (v := (Value.slice Ar2 lr2 cr2)) rfl rfl) ?_
  refine rp_q rfl rfl rfl (v_extract (v := (Value.bool (r3))) rfl rfl) ?_
  refine rp_q rfl rfl rfl (v_assign (v := (Value.slice Ar2 lr2 cr2)) rfl) ?_
  refine rp_q rfl rfl rfl (v_assign (v := (Value.bool (r3))) rfl) ?_
  refine rp_end ?_
  refine wt_seq ?_
  refine wl_region wd_wide ?_
  refine rl_q rfl rfl rfl (v_move (v := (Value.slice Ar2 lr2 cr2)) rfl) ?_
  refine rl_q rfl rfl rfl (v_assign (v := (Value.slice Ar2 lr2 cr2)) rfl) ?_
  refine rl_end ?_
  exact wt_ret1 rfl rfl ⟨_, _, _, _, rfl, (hS.sel [5] (by decide)), h⟩

/-- sandpile/sandpileref34.Reduce: what it computes. -/
def pf_r34_Reduce (g : Int) (g2 : List (Int × Int × Int)) (q : Int) (d : List Int) (R : (List Int) → (List Int) → Int → Prop) : Prop :=
pf_r34_Given g g2 q d (fun (r : Int) =>
((r = 0 →
pf_r34_Form g g2 q d (fun (r2 : List Int) =>
pf_r34_Way g g2 q d r2 (fun (r3 : List Int) =>
R r2 r3 0))) ∧
(¬ (r = 0) →
R ([]) ([]) r)))
theorem pok_r34_Reduce {O : Nat → Prop} {w : World} {g : Int} {g2 : List (Int × Int × Int)} {q : Int} {d : List Int} {Ag : Option Addr} {lg : Nat} {cg : Nat} {Ad : Option Addr} {ld : Nat} {cd : Nat} {R : (List Int) → (List Int) → Int → Prop} (h : pf_r34_Reduce g g2 q d R) (hO : ∀ k, O k → k < w.heap.size) (a0 : (FP.sl c3 Ag lg cg g2).P O w) (a1 : (FP.sl cI Ad ld cd d).P O w) :
    Calls Try.prog 18 #[(Value.agg #[(Value.int .i64 g), (Value.slice Ag lg cg)]), (Value.int .i64 q), (Value.slice Ad ld cd)] w fun e w' => ∃ r4 : List Int, ∃ r5 : List Int, ∃ r6 : Int, ∃ Ar3 : Option Addr, ∃ lr3 : Nat, ∃ cr3 : Nat, ∃ Ar4 : Option Addr, ∃ lr4 : Nat, ∃ cr4 : Nat, e = .returned (Value.tuple #[(Value.slice Ar3 lr3 cr3), (Value.slice Ar4 lr4 cr4), (Value.int .i64 r6)]) ∧ Sep w no O w' (rl [Res.own cI 3 Ar3 lr3 cr3 r4, Res.own cI 3 Ar4 lr4 cr4 r5]) ∧ R r4 r5 r6 := by
  unfold pf_r34_Reduce at h
  have hS : Sep w no O w (rl [Res.ro (FP.sl c3 Ag lg cg g2), Res.ro (FP.sl cI Ad ld cd d)]) := Sep.startl hO [(FP.sl c3 Ag lg cg g2), (FP.sl cI Ad ld cd d)] ⟨a0, a1, trivial⟩
  refine calls_sh (l := [(Value.agg #[(Value.int .i64 g), (Value.slice Ag lg cg)]), (Value.int .i64 q), (Value.slice Ad ld cd)]) Try.func18 rfl Try.ntmps18 (Nat.le_of_ble_eq_true rfl) ?_
  refine wt_seq ?_
  refine wl_region wd_wide ?_
  refine rl_n rfl rfl rfl rfl (n_box (v := (Value.agg #[(Value.int .i64 g), (Value.slice Ag lg cg)])) rfl ?_)
  intro g3 w2 hN
  replace hS : Sep w no O w2 (stl _ 2 (Res.box 24 g3 [(Value.int .i64 g), (Value.slice Ag lg cg)])) := hS.new 2 rfl hN
  clear hN
  refine ⟨Stb.none _, ?_⟩
  refine rl_q rfl rfl rfl (v_assign (v := (Value.slice none 0 0)) rfl) ?_
  refine rl_q rfl rfl rfl (v_assign (v := (Value.slice none 0 0)) rfl) ?_
  refine rl_q rfl rfl rfl (v_assign (v := (Value.int .i64 0)) rfl) ?_
  refine rl_end ?_
  refine wt_seq ?_
  refine wt_seq ?_
  refine wl_region wd_wide ?_
  refine rl_q rfl rfl rfl (v_loadn (vs := [(Value.int .i64 g), (Value.slice Ag lg cg)]) rfl Try.underlying24 rfl info_24 ⟨Row.cell (hS.bx 2 rfl) (i := 0) rfl, Row.cell (hS.bx 2 rfl) (i := 1) rfl, trivial⟩) ?_
  refine rl_q rfl rfl rfl (v_move (v := (Value.int .i64 q)) rfl) ?_
  refine rl_q rfl rfl rfl (v_move (v := (Value.slice Ad ld cd)) rfl) ?_
  refine rl_n rfl rfl rfl rfl (n_call0 rfl (am3 rfl rfl rfl) enter_24 ((pok_r34_Given h (no_lt _) (hS.rdr 0 rfl) (hS.rdr 1 rfl)).mono ?_))
  rintro _ w3 ⟨r, rfl, hC, h⟩
  replace hS := hS.pur hC.pure
  clear hC
  refine ⟨_, rfl, ?_⟩
  refine ⟨Stb.none _, ?_⟩
  refine rl_q rfl rfl rfl (v_assign (v := (Value.int .i64 r)) rfl) ?_
  refine rl_end ?_
  refine wt_seq ?_
  refine wl_region wd_wide ?_
  refine rl_q rfl rfl rfl (v_move (v := (Value.int .i64 r)) rfl) ?_
  refine rl_q rfl rfl rfl (v_neq rfl rfl) ?_
  refine rl_end ?_
  by_cases hp : r = 0
  · replace h := h.1 hp
    refine wt_cond_f (congrArg Value.bool (congrArg Bool.not (decide_eq_true hp))) ?_
    refine wt_skip ?_
    refine wt_seq ?_
    refine wl_region wd_wide ?_
    refine rl_q rfl rfl rfl (v_loadn (vs := [(Value.int .i64 g), (Value.slice Ag lg cg)]) rfl Try.underlying24 rfl info_24 ⟨Row.cell (hS.bx 2 rfl) (i := 0) rfl, Row.cell (hS.bx 2 rfl) (i := 1) rfl, trivial⟩) ?_
    refine rl_q rfl rfl rfl (v_move (v := (Value.int .i64 q)) rfl) ?_
    refine rl_q rfl rfl rfl (v_move (v := (Value.slice Ad ld cd)) rfl) ?_
    refine rl_n rfl rfl rfl rfl (n_call0 rfl (am3 rfl rfl rfl) enter_68 ((pok_r34_Form h (no_lt _) (hS.rdr 0 rfl) (hS.rdr 1 rfl)).mono ?_))
    rintro _ w4 ⟨r2, Ar, lr, cr, rfl, hC, h⟩
    replace hS := hS.call1 (hC.widen (flatS (flat_own (fI .i64) _ _ _ _ _) flat0) hS.blt) 3 0 rfl
    clear hC
    refine ⟨_, rfl, ?_⟩
    refine ⟨Stb.none _, ?_⟩
    refine rl_q rfl rfl rfl (v_assign (v := (Value.slice Ar lr cr)) rfl) ?_
    refine rl_end ?_
    refine wt_seq ?_
    refine wl_region wd_wide ?_
    refine rl_q rfl rfl rfl (v_move (v := (Value.slice Ar lr cr)) rfl) ?_
    refine rl_q rfl rfl rfl (v_loadn (vs := [(Value.int .i64 g), (Value.slice Ag lg cg)]) rfl Try.underlying24 rfl info_24 ⟨Row.cell (hS.bx 2 rfl) (i := 0) rfl, Row.cell (hS.bx 2 rfl) (i := 1) rfl, trivial⟩) ?_
    refine rl_q rfl rfl rfl (v_move (v := (Value.int .i64 q)) rfl) ?_
    refine rl_q rfl rfl rfl (v_move (v := (Value.slice Ad ld cd)) rfl) ?_
    refine rl_q rfl rfl rfl (v_move (v := (Value.slice Ar lr cr)) rfl) ?_
    refine rl_n rfl rfl rfl rfl (n_call0 rfl (am4 rfl rfl rfl rfl) enter_69 ((pok_r34_Way h (no_lt _) (hS.rdr 0 rfl) (hS.rdr 1 rfl) (hS.rdo 3 rfl)).mono ?_))
    rintro _ w5 ⟨r3, Ar2, lr2, cr2, rfl, hC, h⟩
    replace hS := hS.call1 (hC.widen (flatS (flat_own (fI .i64) _ _ _ _ _) flat0) hS.blt) 4 0 rfl
    clear hC
    refine ⟨_, rfl, ?_⟩
    refine ⟨Stb.none _, ?_⟩
    refine rl_q rfl rfl rfl (v_assign (v := (Value.slice Ar lr cr)) rfl) ?_
    refine rl_q rfl rfl rfl (v_assign (v := (Value.slice Ar2 lr2 cr2)) rfl) ?_
    refine rl_q rfl rfl rfl (v_assign (v := (Value.int .i64 0)) rfl) ?_
    refine rl_end ?_
    exact wt_ret3 rfl rfl rfl rfl ⟨_, _, _, _, _, _, _, _, _, rfl, (hS.sel [3, 4] (by decide)), h⟩
  · replace h := h.2 hp
    refine wt_cond_t (congrArg Value.bool (congrArg Bool.not (decide_eq_false hp))) ?_
    refine wt_seq ?_
    refine wl_region wd_wide ?_
    refine rl_q rfl rfl rfl (v_move (v := (Value.int .i64 r)) rfl) ?_
    refine rl_q rfl rfl rfl (v_assign (v := (Value.slice none 0 0)) rfl) ?_
    refine rl_q rfl rfl rfl (v_assign (v := (Value.slice none 0 0)) rfl) ?_
    refine rl_q rfl rfl rfl (v_assign (v := (Value.int .i64 r)) rfl) ?_
    refine rl_end ?_
    replace hS := hS.nil 3 rfl cI 3
    replace hS := hS.nil 4 rfl cI 3
    exact wt_ret3 rfl rfl rfl rfl ⟨_, _, _, _, _, _, _, _, _, rfl, (hS.sel [3, 4] (by decide)), h⟩
end Go.Proofs.Ytnhmeckhlajeaaa

/- Pure forms of functions, made by program (pf.py), each with the proof that the code does so. -/
namespace Go.Proofs.Ytnhmeckhlajeaaa
open Go Go.RowKit Go.Shelf
set_option linter.unusedVariables false
set_option maxRecDepth 100000
set_option maxHeartbeats 1000000
/-- sandpile/sandpilelaw34.ReducedForms: what it computes. -/
def pf_l34_ReducedForms (g : Int) (g2 : List (Int × Int × Int)) (q : Int) (d : List Int) (R : Bool → Prop) : Prop :=
(∃ J2 : Prop, (J2 → pf_reduced_Reduce g g2 q d (fun (r : List Int) (r2 : List Int) (r3 : Int) =>
pf_r34_Reduce g g2 q d (fun (r4 : List Int) (r5 : List Int) (r6 : Int) =>
pf_slices_Equal_Divisor r r4 (fun (r7 : Bool) =>
((r7 = true →
pf_slices_Equal_Script r2 r5 (fun (r8 : Bool) =>
((r8 = true →
((r3 = r6 →
pf_l34_awake (fun (r9 : Bool) =>
R r9)) ∧
(¬ (r3 = r6) →
R false))) ∧
(¬ (r8 = true) →
R false)))) ∧
(¬ (r7 = true) →
R false)))))) ∧
pf_r34_Few g g2 (fun (r10 : Bool) =>
((r10 = true →
pf_r34_Low g g2 d (fun (r11 : Bool) =>
((r11 = true →
J2) ∧
(¬ (r11 = true) →
pf_l34_awake (fun (r12 : Bool) =>
R r12))))) ∧
(¬ (r10 = true) →
pf_l34_awake (fun (r13 : Bool) =>
R r13)))))
theorem pok_l34_ReducedForms {O : Nat → Prop} {w : World} {g : Int} {g2 : List (Int × Int × Int)} {q : Int} {d : List Int} {Ag : Option Addr} {lg : Nat} {cg : Nat} {Ad : Option Addr} {ld : Nat} {cd : Nat} {R : Bool → Prop} (h : pf_l34_ReducedForms g g2 q d R) (hO : ∀ k, O k → k < w.heap.size) (a0 : (FP.sl c3 Ag lg cg g2).P O w) (a1 : (FP.sl cI Ad ld cd d).P O w) :
    Calls Try.prog 3 #[(Value.agg #[(Value.int .i64 g), (Value.slice Ag lg cg)]), (Value.int .i64 q), (Value.slice Ad ld cd)] w fun e w' => ∃ r14 : Bool, e = .returned (Value.bool (r14)) ∧ Sep w no O w' (rl []) ∧ R r14 := by
  unfold pf_l34_ReducedForms at h
  have hS : Sep w no O w (rl [Res.ro (FP.sl c3 Ag lg cg g2), Res.ro (FP.sl cI Ad ld cd d)]) := Sep.startl hO [(FP.sl c3 Ag lg cg g2), (FP.sl cI Ad ld cd d)] ⟨a0, a1, trivial⟩
  refine calls_sh (l := [(Value.agg #[(Value.int .i64 g), (Value.slice Ag lg cg)]), (Value.int .i64 q), (Value.slice Ad ld cd)]) Try.func3 rfl Try.ntmps3 (Nat.le_of_ble_eq_true rfl) ?_
  refine wt_seq ?_
  refine wl_region wd_wide ?_
  refine rl_n rfl rfl rfl rfl (n_box (v := (Value.agg #[(Value.int .i64 g), (Value.slice Ag lg cg)])) rfl ?_)
  intro g3 w2 hN
  replace hS : Sep w no O w2 (stl _ 2 (Res.box 24 g3 [(Value.int .i64 g), (Value.slice Ag lg cg)])) := hS.new 2 rfl hN
  clear hN
  refine ⟨Stb.none _, ?_⟩
  refine rl_q rfl rfl rfl (v_assign (v := (Value.bool (false))) rfl) ?_
  refine rl_end ?_
  refine wt_seq ?_
  refine wt_seq ?_
  obtain ⟨J2, hJ, h⟩ := h
  refine wt_cutT1 (fun E ds w' => J2 ∧ ds = [] ∧ E 1 = (Value.int .i64 q) ∧ E 2 = (Value.slice Ad ld cd) ∧ E 3 = (Value.pointer (some (⟨g3, 0, none⟩ : Addr))) ∧ Sep w no O w' (rl [Res.ro (FP.sl cI Ad ld cd d), Res.box 24 g3 [(Value.int .i64 g), (Value.slice Ag lg cg)], Res.ro (FP.sl c3 Ag lg cg g2)])) ?_ ?_
  · clear h hS
    rintro E ds w3 ⟨h, rfl, hE1, hE2, hE3, hS⟩
    replace h := hJ h
    refine wt_seq ?_
    refine wl_region wd_wide ?_
    refine rl_q rfl rfl rfl (v_loadn (vs := [(Value.int .i64 g), (Value.slice Ag lg cg)]) hE3 Try.underlying24 rfl info_24 ⟨Row.cell (hS.bx 1 rfl) (i := 0) rfl, Row.cell (hS.bx 1 rfl) (i := 1) rfl, trivial⟩) ?_
    refine rl_q rfl rfl rfl (v_move (v := (Value.int .i64 q)) hE1) ?_
    refine rl_q rfl rfl rfl (v_move (v := (Value.slice Ad ld cd)) hE2) ?_
    refine rl_n rfl rfl rfl rfl (n_call0 rfl (am3 rfl rfl rfl) enter_17 ((pok_reduced_Reduce h (no_lt _) (hS.rdr 2 rfl) (hS.rdr 0 rfl)).mono ?_))
    rintro _ w4 ⟨r, r2, r3, Ar, lr, cr, Ar2, lr2, cr2, rfl, hC, h⟩
    replace hS := hS.call2 (hC.widen (flatS (flat_own (fI .i64) _ _ _ _ _) (flatS (flat_own (fI .i64) _ _ _ _ _) flat0)) hS.blt) 3 0 4 1 rfl rfl (by decide) (by decide)
    clear hC
    refine ⟨_, rfl, ?_⟩
    refine ⟨Stb.none _, ?_⟩
    refine rl_q rfl rfl rfl (v_move (v := (Value.tuple #[(Value.slice Ar lr cr), (Value.slice Ar2 lr2 cr2), (Value.int .i64 r3)])) rfl) ?_
    refine rl_q rfl rfl rfl (v_extract (v := (Value.slice Ar lr cr)) rfl rfl) ?_
    refine rl_q rfl rfl rfl (v_extract (v := (Value.slice Ar2 lr2 cr2)) rfl rfl) ?_
    refine rl_q rfl rfl rfl (v_extract (v := (Value.int .i64 r3)) rfl rfl) ?_
    refine rl_q rfl rfl rfl (v_assign (v := (Value.slice Ar lr cr)) rfl) ?_
    refine rl_q rfl rfl rfl (v_assign (v := (Value.slice Ar2 lr2 cr2)) rfl) ?_
    refine rl_q rfl rfl rfl (v_assign (v := (Value.int .i64 r3)) rfl) ?_
    refine rl_end ?_
    refine wt_seq ?_
    refine wl_region wd_wide ?_
    refine rl_q rfl rfl rfl (v_loadn (vs := [(Value.int .i64 g), (Value.slice Ag lg cg)]) hE3 Try.underlying24 rfl info_24 ⟨Row.cell (hS.bx 1 rfl) (i := 0) rfl, Row.cell (hS.bx 1 rfl) (i := 1) rfl, trivial⟩) ?_
    refine rl_q rfl rfl rfl (v_move (v := (Value.int .i64 q)) hE1) ?_
    refine rl_q rfl rfl rfl (v_move (v := (Value.slice Ad ld cd)) hE2) ?_
    refine rl_n rfl rfl rfl rfl (n_call0 rfl (am3 rfl rfl rfl) enter_18 ((pok_r34_Reduce h (no_lt _) (hS.rdr 2 rfl) (hS.rdr 0 rfl)).mono ?_))
    rintro _ w5 ⟨r4, r5, r6, Ar3, lr3, cr3, Ar4, lr4, cr4, rfl, hC, h⟩
    replace hS := hS.call2 (hC.widen (flatS (flat_own (fI .i64) _ _ _ _ _) (flatS (flat_own (fI .i64) _ _ _ _ _) flat0)) hS.blt) 5 0 6 1 rfl rfl (by decide) (by decide)
    clear hC
    refine ⟨_, rfl, ?_⟩
    refine ⟨Stb.none _, ?_⟩
    refine rl_q rfl rfl rfl (v_move (v := (Value.tuple #[(Value.slice Ar3 lr3 cr3), (Value.slice Ar4 lr4 cr4), (Value.int .i64 r6)])) rfl) ?_
    refine rl_q rfl rfl rfl (v_extract (v := (Value.slice Ar3 lr3 cr3)) rfl rfl) ?_
    refine rl_q rfl rfl rfl (v_extract (v := (Value.slice Ar4 lr4 cr4)) rfl rfl) ?_
    refine rl_q rfl rfl rfl (v_extract (v := (Value.int .i64 r6)) rfl rfl) ?_
    refine rl_q rfl rfl rfl (v_assign (v := (Value.slice Ar3 lr3 cr3)) rfl) ?_
    refine rl_q rfl rfl rfl (v_assign (v := (Value.slice Ar4 lr4 cr4)) rfl) ?_
    refine rl_q rfl rfl rfl (v_assign (v := (Value.int .i64 r6)) rfl) ?_
    refine rl_end ?_
    refine wt_seq ?_
    refine wl_region wd_wide ?_
    refine rl_q rfl rfl rfl (v_move (v := (Value.slice Ar lr cr)) rfl) ?_
    refine rl_q rfl rfl rfl (v_move (v := (Value.slice Ar3 lr3 cr3)) rfl) ?_
    refine rl_n rfl rfl rfl rfl (n_call0 rfl (am2 rfl rfl) enter_19 ((pok_slices_Equal_Divisor h (no_lt _) (hS.rdo 3 rfl) (hS.rdo 5 rfl)).mono ?_))
    rintro _ w6 ⟨r7, rfl, hC, h⟩
    replace hS := hS.pur hC.pure
    clear hC
    refine ⟨_, rfl, ?_⟩
    refine ⟨Stb.none _, ?_⟩
    refine rl_q rfl rfl rfl (v_move (v := (Value.bool (r7))) rfl) ?_
    by_cases hp : r7 = true
    · replace h := h.1 hp
      refine rl_q (wanted_g rfl (yE_of rfl (congrArg Value.bool hp))) rfl rfl (v_move (v := (Value.slice Ar2 lr2 cr2)) rfl) ?_
      refine rl_q (wanted_g rfl (yE_of rfl (congrArg Value.bool hp))) rfl rfl (v_move (v := (Value.slice Ar4 lr4 cr4)) rfl) ?_
      refine rl_n (wanted_g rfl (yE_of rfl (congrArg Value.bool hp))) rfl rfl rfl (n_call0 rfl (am2 rfl rfl) enter_20 ((pok_slices_Equal_Script h (no_lt _) (hS.rdo 4 rfl) (hS.rdo 6 rfl)).mono ?_))
      rintro _ w7 ⟨r8, rfl, hC, h⟩
      replace hS := hS.pur hC.pure
      clear hC
      refine ⟨_, rfl, ?_⟩
      refine ⟨Stb.none _, ?_⟩
      refine rl_q rfl rfl rfl (v_pick_t (v := (Value.bool (r8))) (congrArg Value.bool hp) rfl) ?_
      refine rl_q rfl rfl rfl (v_move (v := (Value.bool (r8))) rfl) ?_
      by_cases hp2 : r8 = true
      · replace h := h.1 hp2
        refine rl_q (wanted_g rfl (yE_of rfl (congrArg Value.bool hp2))) rfl rfl (v_move (v := (Value.int .i64 r3)) rfl) ?_
        refine rl_q (wanted_g rfl (yE_of rfl (congrArg Value.bool hp2))) rfl rfl (v_move (v := (Value.int .i64 r6)) rfl) ?_
        refine rl_q (wanted_g rfl (yE_of rfl (congrArg Value.bool hp2))) rfl rfl (v_eql rfl rfl) ?_
        refine rl_q rfl rfl rfl (v_pick_t (v := (Value.bool (decide (r3 = r6)))) (congrArg Value.bool hp2) rfl) ?_
        refine rl_q rfl rfl rfl (v_move (v := (Value.bool (decide (r3 = r6)))) rfl) ?_
        by_cases hp3 : r3 = r6
        · replace h := h.1 hp3
          refine rl_n (wanted_g rfl (yE_of rfl (congrArg Value.bool (decide_eq_true hp3)))) rfl rfl rfl (n_call0 rfl (am0) enter_16 ((pok_l34_awake h (no_lt _)).mono ?_))
          rintro _ w8 ⟨r9, rfl, hC, h⟩
          replace hS := hS.pur hC.pure
          clear hC
          refine ⟨_, rfl, ?_⟩
          refine ⟨Stb.none _, ?_⟩
          refine rl_q rfl rfl rfl (v_pick_t (v := (Value.bool (r9))) (congrArg Value.bool (decide_eq_true hp3)) rfl) ?_
          refine rl_q rfl rfl rfl (v_assign (v := (Value.bool (r9))) rfl) ?_
          refine rl_end ?_
          exact wt_ret1 rfl rfl ⟨_, rfl, (hS.sel [] (by decide)), h⟩
        · replace h := h.2 hp3
          refine rl_p (wanted_n rfl (yE_of rfl (congrArg Value.bool (decide_eq_false hp3))) rfl) rfl ?_
          refine rl_q rfl rfl rfl (v_pick_f (v := (Value.bool (false))) (congrArg Value.bool (decide_eq_false hp3)) rfl) ?_
          refine rl_q rfl rfl rfl (v_assign (v := (Value.bool (false))) rfl) ?_
          refine rl_end ?_
          exact wt_ret1 rfl rfl ⟨_, rfl, (hS.sel [] (by decide)), h⟩
      · replace h := h.2 hp2
        refine rl_p (wanted_n rfl (yE_of rfl (congrArg Value.bool (Bool.eq_false_iff.2 hp2))) rfl) rfl ?_
        refine rl_p (wanted_n rfl (yE_of rfl (congrArg Value.bool (Bool.eq_false_iff.2 hp2))) rfl) rfl ?_
        refine rl_p (wanted_n rfl (yE_of rfl (congrArg Value.bool (Bool.eq_false_iff.2 hp2))) rfl) rfl ?_
        refine rl_q rfl rfl rfl (v_pick_f (v := (Value.bool (false))) (congrArg Value.bool (Bool.eq_false_iff.2 hp2)) rfl) ?_
        refine rl_q rfl rfl rfl (v_move (v := (Value.bool (false))) rfl) ?_
        refine rl_p (wanted_n rfl (yE_of rfl rfl) rfl) rfl ?_
        refine rl_q rfl rfl rfl (v_pick_f (v := (Value.bool (false))) rfl rfl) ?_
        refine rl_q rfl rfl rfl (v_assign (v := (Value.bool (false))) rfl) ?_
        refine rl_end ?_
        exact wt_ret1 rfl rfl ⟨_, rfl, (hS.sel [] (by decide)), h⟩
    · replace h := h.2 hp
      refine rl_p (wanted_n rfl (yE_of rfl (congrArg Value.bool (Bool.eq_false_iff.2 hp))) rfl) rfl ?_
      refine rl_p (wanted_n rfl (yE_of rfl (congrArg Value.bool (Bool.eq_false_iff.2 hp))) rfl) rfl ?_
      refine rl_p (wanted_n rfl (yE_of rfl (congrArg Value.bool (Bool.eq_false_iff.2 hp))) rfl) rfl ?_
      refine rl_q rfl rfl rfl (v_pick_f (v := (Value.bool (false))) (congrArg Value.bool (Bool.eq_false_iff.2 hp)) rfl) ?_
      refine rl_q rfl rfl rfl (v_move (v := (Value.bool (false))) rfl) ?_
      refine rl_p (wanted_n rfl (yE_of rfl rfl) rfl) rfl ?_
      refine rl_p (wanted_n rfl (yE_of rfl rfl) rfl) rfl ?_
      refine rl_p (wanted_n rfl (yE_of rfl rfl) rfl) rfl ?_
      refine rl_q rfl rfl rfl (v_pick_f (v := (Value.bool (false))) rfl rfl) ?_
      refine rl_q rfl rfl rfl (v_move (v := (Value.bool (false))) rfl) ?_
      refine rl_p (wanted_n rfl (yE_of rfl rfl) rfl) rfl ?_
      refine rl_q rfl rfl rfl (v_pick_f (v := (Value.bool (false))) rfl rfl) ?_
      refine rl_q rfl rfl rfl (v_assign (v := (Value.bool (false))) rfl) ?_
      refine rl_end ?_
      exact wt_ret1 rfl rfl ⟨_, rfl, (hS.sel [] (by decide)), h⟩
  clear hJ
  intro j
  refine wl_region wd_wide ?_
  refine rl_q rfl rfl rfl (v_loadn (vs := [(Value.int .i64 g), (Value.slice Ag lg cg)]) rfl Try.underlying24 rfl info_24 ⟨Row.cell (hS.bx 2 rfl) (i := 0) rfl, Row.cell (hS.bx 2 rfl) (i := 1) rfl, trivial⟩) ?_
  refine rl_n rfl rfl rfl rfl (n_call0 rfl (am1 rfl) enter_14 ((pok_r34_Few h (no_lt _) (hS.rdr 0 rfl)).mono ?_))
  rintro _ w9 ⟨r10, rfl, hC, h⟩
  replace hS := hS.pur hC.pure
  clear hC
  refine ⟨_, rfl, ?_⟩
  refine ⟨Stb.none _, ?_⟩
  refine rl_q rfl rfl rfl (v_not rfl) ?_
  refine rl_q rfl rfl rfl (v_move (v := (Value.bool (!(r10)))) rfl) ?_
  by_cases hp4 : r10 = true
  · replace h := h.1 hp4
    refine rl_q (wanted_g rfl (yE_of rfl (congrArg Value.bool (congrArg Bool.not hp4)))) rfl rfl (v_loadn (vs := [(Value.int .i64 g), (Value.slice Ag lg cg)]) rfl Try.underlying24 rfl info_24 ⟨Row.cell (hS.bx 2 rfl) (i := 0) rfl, Row.cell (hS.bx 2 rfl) (i := 1) rfl, trivial⟩) ?_
    refine rl_q (wanted_g rfl (yE_of rfl (congrArg Value.bool (congrArg Bool.not hp4)))) rfl rfl (v_move (v := (Value.slice Ad ld cd)) rfl) ?_
    refine rl_n (wanted_g rfl (yE_of rfl (congrArg Value.bool (congrArg Bool.not hp4)))) rfl rfl rfl (n_call0 rfl (am2 rfl rfl) enter_15 ((pok_r34_Low h (no_lt _) (hS.rdr 0 rfl) (hS.rdr 1 rfl)).mono ?_))
    rintro _ w10 ⟨r11, rfl, hC, h⟩
    replace hS := hS.pur hC.pure
    clear hC
    refine ⟨_, rfl, ?_⟩
    refine ⟨Stb.none _, ?_⟩
    refine rl_q (wanted_g rfl (yE_of rfl (congrArg Value.bool (congrArg Bool.not hp4)))) rfl rfl (v_not rfl) ?_
    refine rl_q rfl rfl rfl (v_pick_f (v := (Value.bool (!(r11)))) (congrArg Value.bool (congrArg Bool.not hp4)) rfl) ?_
    refine rl_end ?_
    by_cases hp5 : r11 = true
    · replace h := h.1 hp5
      refine wt_cond_f (congrArg Value.bool (congrArg Bool.not hp5)) ?_
      refine wt_skip ?_
      exact j _ _ _ ⟨h, rfl, rfl, rfl, rfl, (hS.sel [1, 2, 0] (by decide))⟩
    · replace h := h.2 hp5
      refine wt_cond_t (congrArg Value.bool (congrArg Bool.not (Bool.eq_false_iff.2 hp5))) ?_
      refine wt_seq ?_
      refine wl_region wd_wide ?_
      refine rl_n rfl rfl rfl rfl (n_call0 rfl (am0) enter_16 ((pok_l34_awake h (no_lt _)).mono ?_))
      rintro _ w11 ⟨r12, rfl, hC, h⟩
      replace hS := hS.pur hC.pure
      clear hC
      refine ⟨_, rfl, ?_⟩
      refine ⟨Stb.none _, ?_⟩
      refine rl_q rfl rfl rfl (v_assign (v := (Value.bool (r12))) rfl) ?_
      refine rl_end ?_
      exact wt_ret1 rfl rfl ⟨_, rfl, (hS.sel [] (by decide)), h⟩
  · replace h := h.2 hp4
    refine rl_p (wanted_n rfl (yE_of rfl (congrArg Value.bool (congrArg Bool.not (Bool.eq_false_iff.2 hp4)))) rfl) rfl ?_
    refine rl_p (wanted_n rfl (yE_of rfl (congrArg Value.bool (congrArg Bool.not (Bool.eq_false_iff.2 hp4)))) rfl) rfl ?_
    refine rl_p (wanted_n rfl (yE_of rfl (congrArg Value.bool (congrArg Bool.not (Bool.eq_false_iff.2 hp4)))) rfl) rfl ?_
    refine rl_p (wanted_n rfl (yE_of rfl (congrArg Value.bool (congrArg Bool.not (Bool.eq_false_iff.2 hp4)))) rfl) rfl ?_
    refine rl_q rfl rfl rfl (v_pick_t (v := (Value.bool (true))) (congrArg Value.bool (congrArg Bool.not (Bool.eq_false_iff.2 hp4))) rfl) ?_
    refine rl_end ?_
    refine wt_cond_t rfl ?_
    refine wt_seq ?_
    refine wl_region wd_wide ?_
    refine rl_n rfl rfl rfl rfl (n_call0 rfl (am0) enter_16 ((pok_l34_awake h (no_lt _)).mono ?_))
    rintro _ w12 ⟨r13, rfl, hC, h⟩
    replace hS := hS.pur hC.pure
    clear hC
    refine ⟨_, rfl, ?_⟩
    refine ⟨Stb.none _, ?_⟩
    refine rl_q rfl rfl rfl (v_assign (v := (Value.bool (r13))) rfl) ?_
    refine rl_end ?_
    exact wt_ret1 rfl rfl ⟨_, rfl, (hS.sel [] (by decide)), h⟩
end Go.Proofs.Ytnhmeckhlajeaaa

/- Words for proofs from pure forms: loops that count up, lists that are filled from the left. No program in sight. -/
namespace Go.Proofs.Ytnhmeckhlajeaaa
open Go
set_option linter.unusedVariables false

/-- A loop that counts up to N: P holds at each count. -/
def Cnt (N : Nat) (P : Nat → Prop) (m : Nat) (v : Int) : Prop := ∃ k : Nat, m = N - k ∧ v = (k : Int) ∧ k ≤ N ∧ P k
theorem Cnt.start {N : Nat} {P : Nat → Prop} (h : P 0) : ∃ m0, Cnt N P m0 0 := ⟨N, 0, rfl, rfl, Nat.zero_le _, h⟩
theorem Cnt.next {N : Nat} {P : Nat → Prop} {k : Nat} (hk : k < N) (hN : N ≤ 1000000000000) (h : P (k + 1)) : In64 ((k : Int) + 1) ∧ ∃ m', m' < N - k ∧ Cnt N P m' ((k : Int) + 1) :=
  ⟨⟨by omega, by omega⟩, N - (k + 1), by omega, k + 1, rfl, by omega, by omega, h⟩
theorem Cnt.next' {N : Nat} {P : Nat → Prop} {k : Nat} (hk : k < N) (h : P (k + 1)) : ∃ m', m' < N - k ∧ Cnt N P m' ((k : Int) + 1) :=
  ⟨N - (k + 1), by omega, k + 1, rfl, by omega, by omega, h⟩
theorem Cnt.in {N k : Nat} (hk : k < N) (hN : N ≤ 1000000000000) : In64 ((k : Int) + 1) := ⟨by omega, by omega⟩

theorem i64 {a : Int} (h : -9000000000000000000 ≤ a ∧ a ≤ 9000000000000000000) : In64 a := ⟨by omega, by omega⟩
theorem rep_len {τ : Type} (n : Nat) (x : τ) : (List.replicate n x).length = n := List.length_replicate

/-- The list of f's values whose first k places are filled. -/
def upto (f : Nat → Int) (k n : Nat) : List Int := (List.range n).map fun i => if i < k then f i else 0
theorem upto_length (f : Nat → Int) (k n : Nat) : (upto f k n).length = n := by simp [upto]
theorem gi_upto (f : Nat → Int) (k n i : Nat) (hi : i < n) : gi (upto f k n) i = if i < k then f i else 0 := by
  rw [gi_of_lt (by rw [upto_length]; exact hi)]; simp [upto]
theorem upto_zero (f : Nat → Int) (n : Nat) : upto f 0 n = List.replicate n 0 := by
  refine List.ext_getElem (by simp [upto_length]) fun i h1 h2 => ?_
  simp [upto]
theorem upto_set (f : Nat → Int) {k n : Nat} (hk : k < n) : (upto f k n).set k (f k) = upto f (k + 1) n := by
  refine gi_ext (by simp [upto_length]) fun i hi => ?_
  rw [List.length_set, upto_length] at hi
  rw [gi_set (by rw [upto_length]; exact hk), gi_upto _ _ _ _ hi, gi_upto _ _ _ _ hi]
  by_cases e : i = k
  · subst e; simp
  · rw [if_neg e]
    by_cases h : i < k
    · rw [if_pos h, if_pos (by omega)]
    · rw [if_neg h, if_neg (by omega)]
/-- The list of f's first n values. -/
def tab (f : Nat → Int) (n : Nat) : List Int := (List.range n).map f
theorem tab_length (f : Nat → Int) (n : Nat) : (tab f n).length = n := by simp [tab]
theorem gi_tab (f : Nat → Int) {n i : Nat} (hi : i < n) : gi (tab f n) i = f i := by rw [gi_of_lt (by rw [tab_length]; exact hi)]; simp [tab]
theorem upto_all (f : Nat → Int) (n : Nat) : upto f n n = tab f n := by
  refine gi_ext (by simp [upto_length, tab_length]) fun i hi => ?_
  rw [upto_length] at hi
  rw [gi_upto _ _ _ _ hi, if_pos hi, gi_tab _ hi]
theorem tab_congr {f g : Nat → Int} {n : Nat} (h : ∀ i, i < n → f i = g i) : tab f n = tab g n := by
  refine gi_ext (by simp [tab_length]) fun i hi => ?_
  rw [tab_length] at hi
  rw [gi_tab _ hi, gi_tab _ hi, h i hi]
theorem tab_self {l : List Int} : tab (gi l) l.length = l := by
  refine gi_ext (by simp [tab_length]) fun i hi => ?_
  rw [tab_length] at hi
  rw [gi_tab _ hi]
theorem eq_tab {l : List Int} {n : Nat} (hl : l.length = n) (f : Nat → Int) (h : ∀ i, i < n → gi l i = f i) : l = tab f n := by
  subst hl
  refine gi_ext (by simp [tab_length]) fun i hi => ?_
  rw [h i hi, gi_tab _ hi]

theorem sm_bound {f : Nat → Int} {B : Int} (hB : 0 ≤ B) : ∀ {n : Nat}, (∀ i, i < n → -B ≤ f i ∧ f i ≤ B) → -(n * B) ≤ sm n f ∧ sm n f ≤ n * B
  | 0, _ => by simp [sm]
  | n + 1, h => by
    have ih := sm_bound hB (n := n) fun i hi => h i (by omega)
    have := h n (by omega)
    rw [sm, show ((n + 1 : Nat) : Int) * B = n * B + B by rw [Int.natCast_add, Int.add_mul]; simp]
    omega
/-- The degree. -/
def dg (d : List Int) : Int := sm d.length (gi d)
end Go.Proofs.Ytnhmeckhlajeaaa

/- Determinants, expanded by the first row, and the rule of Cramer. No program in sight. -/
namespace Go.Proofs.Ytnhmeckhlajeaaa
open Go
set_option linter.unusedVariables false
set_option linter.unusedSimpArgs false

abbrev Mat := Nat → Nat → Int
def sgn (k : Nat) : Int := if k % 2 = 0 then 1 else -1
theorem sgn_succ (k : Nat) : sgn (k + 1) = - sgn k := by unfold sgn; split <;> split <;> omega
/-- The numbers without k, in order. -/
def sk (k j : Nat) : Nat := if j < k then j else j + 1
/-- Where c stands among the numbers without k. -/
def pd (k c : Nat) : Nat := if c < k then c else c - 1
theorem sk_ne (k j : Nat) : sk k j ≠ k := by unfold sk; split <;> omega
theorem sk_lt {k j n : Nat} (hj : j < n) : sk k j < n + 1 := by unfold sk; split <;> omega
theorem sk_pd {k c : Nat} (h : c ≠ k) : sk k (pd k c) = c := by
  unfold sk pd
  by_cases q : c < k
  · rw [if_pos q, if_pos q]
  · rw [if_neg q, if_neg (by omega)]; omega
theorem sk_eq {k c j : Nat} (h : c ≠ k) : sk k j = c ↔ j = pd k c := by
  unfold sk pd
  by_cases q : c < k <;> by_cases r : j < k <;> simp only [q, r, if_true, if_false] <;> omega
theorem pd_lt {k c n : Nat} (h : c ≠ k) (hc : c < n + 1) (hk : k < n + 1) : pd k c < n := by unfold pd; split <;> omega
def minor (A : Mat) (k : Nat) : Mat := fun i j => A (i + 1) (sk k j)
def detF : Nat → Mat → Int
  | 0, _ => 1
  | n + 1, A => sm (n + 1) fun k => sgn k * A 0 k * detF n (minor A k)
theorem detF_congr : ∀ {n : Nat} {A B : Mat}, (∀ i j, i < n → j < n → A i j = B i j) → detF n A = detF n B
  | 0, _, _, _ => rfl
  | n + 1, A, B, h => by
    unfold detF
    refine sm_congr fun k hk => ?_
    rw [h 0 k (by omega) hk, detF_congr (A := minor A k) (B := minor B k) fun i j hi hj => h _ _ (by omega) (sk_lt hj)]
/-- A column is replaced. -/
def repl (A : Mat) (c : Nat) (f : Nat → Int) : Mat := fun i j => if j = c then f i else A i j
theorem minor_repl_same (A : Mat) (c : Nat) (f : Nat → Int) : minor (repl A c f) c = minor A c := by
  funext i j; unfold minor repl; rw [if_neg (sk_ne c j)]
theorem minor_repl {A : Mat} {c k : Nat} {f : Nat → Int} (h : c ≠ k) : minor (repl A c f) k = repl (minor A k) (pd k c) (fun i => f (i + 1)) := by
  funext i j
  unfold minor repl
  by_cases e : sk k j = c
  · rw [if_pos e, if_pos ((sk_eq h).1 e)]
  · rw [if_neg e, if_neg fun q => e ((sk_eq h).2 q)]
theorem det_repl (n : Nat) (A : Mat) (c : Nat) (f : Nat → Int) : detF (n + 1) (repl A c f) = sm (n + 1) fun k => if k = c then sgn c * f 0 * detF n (minor A c) else sgn k * A 0 k * detF n (repl (minor A k) (pd k c) fun i => f (i + 1)) := by
  rw [detF]
  refine sm_congr fun k hk => ?_
  by_cases e : k = c
  · subst e; rw [if_pos rfl, minor_repl_same]; unfold repl; rw [if_pos rfl]
  · rw [if_neg e, minor_repl (fun q => e q.symm)]
    have : repl A c f 0 k = A 0 k := by unfold repl; rw [if_neg e]
    rw [this]
theorem det_add : ∀ {n : Nat} (A : Mat) {c : Nat} (hc : c < n) (f g : Nat → Int), detF n (repl A c fun i => f i + g i) = detF n (repl A c f) + detF n (repl A c g)
  | n + 1, A, c, hc, f, g => by
    rw [det_repl, det_repl, det_repl, ← sm_add]
    refine sm_congr fun k hk => ?_
    by_cases e : k = c
    · simp only [if_pos e]; rw [Int.mul_add, Int.add_mul]
    · simp only [if_neg e]
      rw [det_add (minor A k) (pd_lt (fun q => e q.symm) hc hk) (fun i => f (i + 1)) (fun i => g (i + 1)), Int.mul_add]
theorem det_mul : ∀ {n : Nat} (A : Mat) {c : Nat} (hc : c < n) (t : Int) (f : Nat → Int), detF n (repl A c fun i => t * f i) = t * detF n (repl A c f)
  | n + 1, A, c, hc, t, f => by
    rw [det_repl, det_repl, ← sm_mul]
    refine sm_congr fun k hk => ?_
    by_cases e : k = c
    · simp only [if_pos e]; grind
    · simp only [if_neg e]
      rw [det_mul (minor A k) (pd_lt (fun q => e q.symm) hc hk) t (fun i => f (i + 1))]; grind
theorem det_zero {n : Nat} (A : Mat) {c : Nat} (hc : c < n) : detF n (repl A c fun _ => 0) = 0 := by
  have := det_mul A hc 0 (fun _ => 0)
  simp only [Int.zero_mul] at this
  exact this
theorem det_sum {n : Nat} (A : Mat) {c : Nat} (hc : c < n) (F : Nat → Nat → Int) : ∀ m, detF n (repl A c fun i => sm m fun j => F j i) = sm m fun j => detF n (repl A c (F j))
  | 0 => det_zero A hc
  | m + 1 => by
    have := det_add A hc (fun i => sm m fun j => F j i) (F m)
    rw [det_sum A hc F m] at this
    exact this
theorem sm_two {n a b : Nat} (ha : a < n) (hb : b < n) (hab : a ≠ b) {f : Nat → Int} (h : ∀ k, k < n → k ≠ a → k ≠ b → f k = 0) : sm n f = f a + f b := by
  have e : sm n f = sm n fun k => (if k = a then f a else 0) + (if k = b then f b else 0) := sm_congr fun k hk => by
    by_cases e1 : k = a
    · subst e1; rw [if_pos rfl, if_neg hab]; omega
    · by_cases e2 : k = b
      · subst e2; rw [if_neg e1, if_pos rfl]; omega
      · rw [if_neg e1, if_neg e2, h k hk e1 e2]; omega
  rw [e, sm_add, sm_one _ ha, sm_one _ hb]
theorem sm_only {n a : Nat} (ha : a < n) {f : Nat → Int} (h : ∀ k, k < n → k ≠ a → f k = 0) : sm n f = f a := by
  have e : sm n f = sm n fun k => if k = a then f a else 0 := sm_congr fun k hk => by
    by_cases e1 : k = a
    · subst e1; rw [if_pos rfl]
    · rw [if_neg e1, h k hk e1]
  rw [e, sm_one _ ha]
theorem det_adj : ∀ {n : Nat} {A : Mat} {c : Nat}, c + 1 < n → (∀ i, i < n → A i c = A i (c + 1)) → detF n A = 0
  | n + 1, A, c, hc, h => by
    rw [detF, sm_two (a := c) (b := c + 1) (by omega) hc (by omega)]
    · rw [h 0 (by omega), sgn_succ, detF_congr (A := minor A c) (B := minor A (c + 1)) fun i j hi hj => ?_]
      · grind
      · unfold minor sk
        by_cases e : j = c
        · subst e; rw [if_neg (by omega), if_pos (by omega)]; exact (h (i + 1) (by omega)).symm
        · by_cases q : j < c
          · rw [if_pos q, if_pos (by omega)]
          · rw [if_neg q, if_neg (by omega)]
    · intro k hk k1 k2
      have hp : pd k (c + 1) = pd k c + 1 := by unfold pd; split <;> split <;> omega
      rw [det_adj (A := minor A k) (c := pd k c) (by have := pd_lt (Ne.symm k2) hc hk; omega) fun i hi => ?_]
      · omega
      · unfold minor
        rw [← hp, sk_pd (Ne.symm k1), sk_pd (Ne.symm k2)]; exact h _ (by omega)
theorem repl_comm (A : Mat) {a b : Nat} (h : a ≠ b) (f g : Nat → Int) : repl (repl A a f) b g = repl (repl A b g) a f := by
  funext i j
  unfold repl
  by_cases e1 : j = b
  · by_cases e2 : j = a
    · omega
    · rw [if_pos e1, if_neg e2, if_pos e1]
  · rw [if_neg e1]
    by_cases e2 : j = a
    · rw [if_pos e2, if_pos e2]
    · rw [if_neg e2, if_neg e2, if_neg e1]
theorem repl_self (A : Mat) (c : Nat) : repl A c (fun i => A i c) = A := by
  funext i j
  unfold repl
  split
  · rename_i e; rw [e]
  · rfl
theorem det_swap {n : Nat} (A : Mat) {c : Nat} (hc : c + 1 < n) (u v : Nat → Int) : detF n (repl (repl A c u) (c + 1) v) = - detF n (repl (repl A c v) (c + 1) u) := by
  have hcc : c ≠ c + 1 := by omega
  have z : ∀ x : Nat → Int, detF n (repl (repl A c x) (c + 1) x) = 0 := fun x => det_adj hc fun i _ => by
    unfold repl
    rw [if_neg hcc, if_pos rfl, if_pos rfl]
  have h := z fun i => u i + v i
  rw [det_add _ hc, repl_comm _ hcc, det_add _ (by omega : c < n), repl_comm _ hcc (fun i => u i + v i) v, det_add _ (by omega : c < n), ← repl_comm _ hcc u u, ← repl_comm _ hcc v u, ← repl_comm _ hcc u v, ← repl_comm _ hcc v v, z u, z v] at h
  omega
theorem det_eq : ∀ (m : Nat) {n : Nat} {A : Mat} {a b : Nat}, b = a + m + 1 → b < n → (∀ i, i < n → A i a = A i b) → detF n A = 0
  | 0, n, A, a, b, hm, hb, h => det_adj (c := a) (by omega) fun i hi => by rw [h i hi, hm]
  | m + 1, n, A, a, b, hm, hb, h => by
    have hbb : b - 1 + 1 = b := by omega
    have h1 := det_swap (n := n) A (c := b - 1) (by omega) (fun i => A i (b - 1)) (fun i => A i b)
    have e1 : repl (repl A (b - 1) fun i => A i (b - 1)) (b - 1 + 1) (fun i => A i b) = A := by
      rw [repl_self, hbb, repl_self]
    rw [e1] at h1
    rw [h1, det_eq m (a := a) (b := b - 1) (by omega) (by omega) fun i hi => ?_]
    · rfl
    · unfold repl
      rw [if_neg (by omega), if_neg (by omega), if_neg (by omega), if_pos rfl, h i hi]
theorem det_col {n : Nat} {A : Mat} {a b : Nat} (ha : a < n) (hb : b < n) (hab : a ≠ b) (h : ∀ i, i < n → A i a = A i b) : detF n A = 0 := by
  rcases Nat.lt_or_ge a b with q | q
  · exact det_eq (b - a - 1) (by omega) hb h
  · exact det_eq (a - b - 1) (a := b) (b := a) (by omega) ha fun i hi => (h i hi).symm
/-- The rule of Cramer. -/
theorem cramer {n : Nat} (A : Mat) {c : Nat} (hc : c < n) (t : Nat → Int) : detF n (repl A c fun i => sm n fun j => t j * A i j) = t c * detF n A := by
  rw [det_sum A hc (fun j i => t j * A i j) n, sm_only hc]
  · rw [det_mul A hc, repl_self]
  · intro k hk hkc
    rw [det_mul A hc, det_col hc hk (fun q => hkc q.symm) fun i hi => ?_]
    · omega
    · unfold repl; rw [if_pos rfl, if_neg hkc]
/-- The cofactors. -/
def cof (n : Nat) (A : Mat) (k j : Nat) : Int := detF n (repl A k fun i => if i = j then 1 else 0)
theorem det_cof {n : Nat} (A : Mat) {k : Nat} (hk : k < n) (f : Nat → Int) : detF n (repl A k f) = sm n fun j => f j * cof n A k j := by
  have h := det_sum A hk (fun j i => f j * if i = j then 1 else 0) n
  have e : detF n (repl A k f) = detF n (repl A k fun i => sm n fun j => f j * if i = j then 1 else 0) := detF_congr fun i j hi hj => by
    unfold repl
    by_cases q : j = k
    · rw [if_pos q, if_pos q]
      show f i = sm n fun j => f j * if i = j then 1 else 0
      rw [sm_only hi (f := fun j => f j * if i = j then 1 else 0) fun m _ hm => by rw [if_neg (fun e => hm e.symm)]; omega]
      rw [if_pos rfl]; omega
    · rw [if_neg q, if_neg q]
  rw [e, h]
  exact sm_congr fun j _ => det_mul A hk _ _
theorem cof_mul {n : Nat} (A : Mat) {k j : Nat} (hk : k < n) (hj : j < n) : sm n (fun i => cof n A k i * A i j) = if j = k then detF n A else 0 := by
  have h := det_cof A hk fun i => A i j
  rw [sm_congr (g := fun i => A i j * cof n A k i) fun i _ => Int.mul_comm _ _, ← h]
  by_cases e : j = k
  · subst e; rw [if_pos rfl, repl_self]
  · rw [if_neg e, det_col hk hj (fun q => e q.symm) fun i _ => by unfold repl; rw [if_pos rfl, if_neg e]]
def Symm (n : Nat) (A : Mat) : Prop := ∀ i j, i < n → j < n → A i j = A j i
theorem mul_cof {n : Nat} {A : Mat} (hS : Symm n A) {i j : Nat} (hi : i < n) (hj : j < n) : sm n (fun k => A i k * cof n A j k) = if i = j then detF n A else 0 := by
  rw [← cof_mul A hj hi]
  exact sm_congr fun k hk => by rw [hS i k hi hk, Int.mul_comm]
theorem cof_symm {n : Nat} {A : Mat} (hS : Symm n A) (hN : detF n A ≠ 0) {k j : Nat} (hk : k < n) (hj : j < n) : cof n A k j = cof n A j k := by
  have h1 : sm n (fun i => cof n A k i * sm n fun m => A i m * cof n A j m) = cof n A k j * detF n A := by
    rw [sm_only hj fun i hi hij => ?_]
    · rw [mul_cof hS hj hj, if_pos rfl]
    · rw [mul_cof hS hi hj, if_neg hij]; omega
  have h2 : sm n (fun i => cof n A k i * sm n fun m => A i m * cof n A j m) = detF n A * cof n A j k := by
    have e : (fun i => cof n A k i * sm n fun m => A i m * cof n A j m) = fun i => sm n fun m => cof n A k i * A i m * cof n A j m := by
      funext i
      rw [← sm_mul]
      exact sm_congr fun m _ => by rw [Int.mul_assoc]
    rw [e, sm_swap, sm_only hk fun m hm hmk => ?_]
    · rw [sm_congr (g := fun i => cof n A j k * (cof n A k i * A i k)) fun i _ => by grind, sm_mul, cof_mul A hk hk, if_pos rfl, Int.mul_comm]
    · rw [sm_congr (g := fun i => cof n A j m * (cof n A k i * A i m)) fun i _ => by grind, sm_mul, cof_mul A hk hm, if_neg hmk]; omega
  have h3 : detF n A * (cof n A k j - cof n A j k) = 0 := by rw [Int.mul_sub]; rw [h1, Int.mul_comm] at h2; omega
  rcases Int.mul_eq_zero.1 h3 with h | h
  · exact absurd h hN
  · omega
/-- Cramer's numbers solve the equations, but for the factor. -/
theorem cramer_back {n : Nat} {A : Mat} (hS : Symm n A) (hN : detF n A ≠ 0) (f : Nat → Int) {i : Nat} (hi : i < n) : sm n (fun k => A i k * detF n (repl A k f)) = f i * detF n A := by
  rw [sm_congr (g := fun k => sm n fun j => A i k * (f j * cof n A k j)) fun k hk => by rw [det_cof A hk, sm_mul], sm_swap, sm_only hi fun j hj hji => ?_]
  · rw [sm_congr (g := fun k => f i * (A i k * cof n A i k)) fun k hk => by rw [cof_symm hS hN hk hi]; grind, sm_mul, mul_cof hS hi hi, if_pos rfl]
  · rw [sm_congr (g := fun k => f j * (A i k * cof n A j k)) fun k hk => by rw [cof_symm hS hN hk hj]; grind, sm_mul, mul_cof hS hi hj, if_neg (fun q => hji q.symm)]; omega
/-- All lower right parts have no kernel. -/
def Inj (n : Nat) (A : Mat) : Prop := ∀ s, s ≤ n → ∀ t : Nat → Int, (∀ i, i < n - s → sm (n - s) (fun j => A (i + s) (j + s) * t j) = 0) → ∀ j, j < n - s → t j = 0
theorem det_ne : ∀ {n : Nat} {A : Mat}, Symm n A → Inj n A → detF n A ≠ 0
  | 0, A, _, _ => by simp [detF]
  | n + 1, A, hS, hI => by
    intro h0
    have hs : minor A 0 = fun i j => A (i + 1) (j + 1) := by
      funext i j; unfold minor sk; rw [if_neg (by omega)]
    have ih : detF n (minor A 0) ≠ 0 := det_ne (fun i j hi hj => by rw [hs]; exact hS _ _ (by omega) (by omega)) fun s hsn t ht => by
      have := hI (s + 1) (by omega) t
      rw [show n + 1 - (s + 1) = n - s by omega] at this
      refine this fun i hi => ?_
      have h1 := ht i hi
      rw [hs] at h1
      exact h1
    have hc := hI 0 (by omega) (fun k => cof (n + 1) A 0 k) (fun i hi => by
      have := mul_cof hS (i := i) (j := 0) (by omega) (by omega)
      rw [h0] at this
      simp only [ite_self] at this
      exact this) 0 (by omega)
    apply ih
    rw [← hc]
    unfold cof
    rw [det_repl, sm_only (a := 0) (by omega)]
    · rw [if_pos rfl, if_pos rfl]; unfold sgn; simp
    · intro k hk hk0
      rw [if_neg hk0]
      have e : (fun i : Nat => if i + 1 = 0 then (1 : Int) else 0) = fun _ => 0 := by funext i; rw [if_neg (by omega)]
      rw [e, det_zero _ (pd_lt (Ne.symm hk0) (by omega) hk)]; omega
/-! ### How great it can be -/
def fct : Nat → Int
  | 0 => 1
  | n + 1 => (n + 1 : Nat) * fct n
theorem fct_pos : ∀ n, 1 ≤ fct n
  | 0 => by simp [fct]
  | n + 1 => by
    rw [fct]
    have := fct_pos n
    have h : (1 : Int) * 1 ≤ ((n + 1 : Nat) : Int) * fct n := Int.mul_le_mul (by omega) this (by omega) (by omega)
    omega
theorem abs_mul {a b x y : Int} (hx : -a ≤ x ∧ x ≤ a) (hy : -b ≤ y ∧ y ≤ b) : -(a * b) ≤ x * y ∧ x * y ≤ a * b := by
  have ha : 0 ≤ a := by omega
  have hb : 0 ≤ b := by omega
  have h1 : x.natAbs ≤ a.toNat := by omega
  have h2 : y.natAbs ≤ b.toNat := by omega
  have h3 := Nat.mul_le_mul h1 h2
  have h4 := Int.natAbs_mul x y
  have h5 : ((a.toNat * b.toNat : Nat) : Int) = a * b := by rw [Int.natCast_mul, Int.toNat_of_nonneg ha, Int.toNat_of_nonneg hb]
  omega
theorem det_bound {B : Int} (hB : 1 ≤ B) : ∀ {n : Nat} {A : Mat}, (∀ i j, i < n → j < n → -B ≤ A i j ∧ A i j ≤ B) → -(fct n * B ^ n) ≤ detF n A ∧ detF n A ≤ fct n * B ^ n
  | 0, A, _ => by simp [detF, fct]
  | n + 1, A, h => by
    rw [detF, fct]
    have key := sm_bound (f := fun k => sgn k * A 0 k * detF n (minor A k)) (B := B * (fct n * B ^ n)) (by
      have h1 := fct_pos n
      have h2 : 0 ≤ B ^ n := Int.pow_nonneg (by omega)
      exact Int.mul_nonneg (by omega) (Int.mul_nonneg (by omega) h2)) (n := n + 1) fun k hk => by
        have h1 := det_bound hB (A := minor A k) fun i j hi hj => h _ _ (by omega) (sk_lt hj)
        have h2 := h 0 k (by omega) hk
        have h3 : -B ≤ sgn k * A 0 k ∧ sgn k * A 0 k ≤ B := by
          unfold sgn
          split <;> omega
        exact abs_mul h3 h1
    rw [show ((n + 1 : Nat) : Int) * fct n * B ^ (n + 1) = ((n + 1 : Nat) : Int) * (B * (fct n * B ^ n)) by rw [Int.pow_succ]; grind]
    exact key
end Go.Proofs.Ytnhmeckhlajeaaa

/- The reduced Laplacian of a connected graph has a determinant other than 0; Cramer's numbers are scripts. No program in sight. -/
namespace Go.Proofs.Ytnhmeckhlajeaaa
open Go
set_option linter.unusedVariables false
set_option linter.unusedSimpArgs false

theorem exists_max (f : Nat → Int) : ∀ n, 0 < n → ∃ v, v < n ∧ ∀ u, u < n → f u ≤ f v
  | 1, _ => ⟨0, by omega, fun u hu => by rw [show u = 0 by omega]; exact Int.le_refl _⟩
  | n + 2, _ => by
    obtain ⟨v, hv, h⟩ := exists_max f (n + 1) (by omega)
    by_cases q : f v < f (n + 1)
    · exact ⟨n + 1, by omega, fun u hu => by
        by_cases e : u = n + 1
        · subst e; exact Int.le_refl _
        · have := h u (by omega); omega⟩
    · exact ⟨v, by omega, fun u hu => by
        by_cases e : u = n + 1
        · subst e; omega
        · exact h u (by omega)⟩
theorem dirichlet_le {n : Nat} {es : List E3} {q : Nat} (hE : EOk n es) (hC : Conn n es q) (hq : q < n) {f : Nat → Int} (h0 : f q = 0) (h : ∀ v, v < n → f v ≠ 0 → Lp n es f v = 0) : ∀ v, v < n → f v ≤ 0 := by
  intro v hv
  obtain ⟨m, hm, hmax⟩ := exists_max f n (by omega)
  by_cases hpos : 0 < f m
  · exfalso
    obtain ⟨v, u, hv, hu, hSv, hSu, hW⟩ := hC (fun x => decide (f x = f m)) (by simp; omega) ⟨m, hm, by simp⟩
    simp only [decide_eq_true_eq, decide_eq_false_iff_not] at hSv hSu
    have h1 := h v hv (by omega)
    have h2 : ∀ i, i < n → 0 ≤ W es v i * (f v - f i) := fun i hi => Int.mul_nonneg (W_nonneg hE v i) (by have := hmax i hi; omega)
    have h3 := sm_ge (f := fun i => W es v i * (f v - f i)) h2 u hu
    have h4 : 1 * 1 ≤ W es v u * (f v - f u) := Int.mul_le_mul (by omega) (by have := hmax u hu; omega) (by omega) (by omega)
    unfold Lp at h1
    omega
  · have := hmax v hv; omega
theorem dirichlet {n : Nat} {es : List E3} {q : Nat} (hE : EOk n es) (hC : Conn n es q) (hq : q < n) {f : Nat → Int} (h0 : f q = 0) (h : ∀ v, v < n → f v ≠ 0 → Lp n es f v = 0) : ∀ v, v < n → f v = 0 := by
  intro v hv
  have h1 := dirichlet_le hE hC hq h0 h v hv
  have h2 := dirichlet_le hE hC hq (f := fun i => -1 * f i) (by rw [h0]; rfl) (fun u hu hne => by rw [Lp_mul, h u hu (by omega)]; omega) v hv
  omega
theorem sm_skip (g : Nat → Int) {q : Nat} : ∀ {m : Nat}, q ≤ m → sm (m + 1) g = g q + sm m fun k => g (sk q k)
  | 0, h => by rw [show q = 0 by omega]; simp [sm]
  | m + 1, h => by
    by_cases e : q = m + 1
    · rw [sm, e, sm_congr (n := m + 1) (f := fun k => g (sk (m + 1) k)) (g := g) fun k hk => by unfold sk; rw [if_pos hk]]; omega
    · rw [sm, sm_skip g (q := q) (m := m) (by omega), sm]
      have : sk q m = m + 1 := by unfold sk; rw [if_neg (by omega)]
      rw [this]; omega
/-- The reduced Laplacian. -/
def redM (n : Nat) (es : List E3) (q : Nat) : Mat := fun i k => if i = k then deg n es (sk q i) else - W es (sk q i) (sk q k)
theorem sk_inj {q i k : Nat} (h : sk q i = sk q k) : i = k := by
  unfold sk at h
  split at h <;> split at h <;> omega
theorem redM_symm (n : Nat) (es : List E3) (q m : Nat) : Symm m (redM n es q) := fun i j _ _ => by
  unfold redM
  by_cases e : i = j
  · subst e; rfl
  · rw [if_neg e, if_neg (fun h => e h.symm), W_symm]
theorem Lp_rowf {n : Nat} {es : List E3} (s : Nat → Int) {v : Nat} (hv : v < n) : sm n (fun k => (if v = k then deg n es v else - W es v k) * s k) = Lp n es s v := by
  have e : (fun k => (if v = k then deg n es v else - W es v k) * s k) = (fun k => (if k = v then s v * deg n es v else 0) - s k * W es v k) := by
    funext k
    by_cases e : v = k
    · subst e; rw [if_pos rfl, if_pos rfl, W_self, Int.mul_comm]; omega
    · rw [if_neg e, if_neg (fun q => e q.symm), Int.mul_comm]; simp only [Int.mul_neg]; omega
  rw [Lp_ind, e, sm_sub, sm_one _ hv]
  exact congrArg _ (sm_congr fun k _ => by rw [W_symm es v k])
/-- The reduced Laplacian's rows. -/
theorem redM_row {m : Nat} {es : List E3} {q : Nat} (hq : q ≤ m) {f : Nat → Int} (h0 : f q = 0) {i : Nat} (hi : i < m) : sm m (fun k => redM (m + 1) es q i k * f (sk q k)) = Lp (m + 1) es f (sk q i) := by
  rw [← Lp_rowf f (show sk q i < m + 1 from sk_lt hi), sm_skip _ hq, h0]
  have e : sm m (fun k => redM (m + 1) es q i k * f (sk q k)) = sm m (fun k => (if sk q i = sk q k then deg (m + 1) es (sk q i) else - W es (sk q i) (sk q k)) * f (sk q k)) := sm_congr fun k _ => by
    unfold redM
    by_cases e : i = k
    · subst e; rw [if_pos rfl, if_pos rfl]
    · rw [if_neg e, if_neg (fun h => e (sk_inj h))]
  rw [e]; omega
section
variable {m : Nat} {es : List E3} {q : Nat} (hE : EOk (m + 1) es) (hC : Conn (m + 1) es q) (hq : q ≤ m)
include hE hC hq
theorem redM_inj : Inj m (redM (m + 1) es q) := by
  intro s hs t ht j hj
  let f : Nat → Int := fun v => if v ≠ q ∧ s ≤ pd q v then t (pd q v - s) else 0
  have hfs : ∀ k, k < m → f (sk q k) = if s ≤ k then t (k - s) else 0 := fun k hk => by
    have hp : pd q (sk q k) = k := sk_inj (q := q) (sk_pd (sk_ne q k))
    show ite _ _ _ = _
    rw [hp]
    by_cases e : s ≤ k
    · rw [if_pos ⟨sk_ne q k, e⟩, if_pos e]
    · rw [if_neg (fun h => e h.2), if_neg e]
  have hf0 : f q = 0 := if_neg (fun h => h.1 rfl)
  have hsplit : ∀ (s m : Nat) (g : Nat → Int), s ≤ m → (∀ k, k < s → g k = 0) → sm m g = sm (m - s) (fun k => g (k + s)) := by
    intro s m
    induction m with
    | zero => intro g h1 _; rw [show s = 0 by omega]; rfl
    | succ m ih =>
      intro g h1 h2
      by_cases e : s = m + 1
      · rw [e, show m + 1 - (m + 1) = 0 by omega, sm_congr (g := fun _ => 0) fun k hk => h2 k (by omega), sm_zero]; rfl
      · rw [sm, ih g (by omega) h2, show m + 1 - s = (m - s) + 1 by omega, sm, show m - s + s = m by omega]
  have hL : ∀ v, v < m + 1 → f v ≠ 0 → Lp (m + 1) es f v = 0 := fun v hv hne => by
    have hvq : v ≠ q := fun e => hne (by rw [e]; exact hf0)
    have hps : s ≤ pd q v := by
      by_cases e : s ≤ pd q v
      · exact e
      · exact absurd (if_neg (fun h => e h.2)) hne
    have hpl := pd_lt hvq hv (show q < m + 1 by omega)
    have hr := redM_row (es := es) hq hf0 (i := pd q v) hpl
    rw [sk_pd hvq] at hr
    rw [← hr, hsplit s m _ hs fun k hk => by rw [hfs k (by omega), if_neg (by omega)]; omega]
    have := ht (pd q v - s) (by omega)
    rw [← this]
    refine sm_congr fun k hk => ?_
    rw [hfs (k + s) (by omega), if_pos (by omega), show k + s - s = k by omega, show pd q v - s + s = pd q v by omega]
  have h := dirichlet hE hC (by omega) hf0 hL (sk q (j + s)) (sk_lt (by omega))
  rw [hfs (j + s) (by omega), if_pos (by omega), show j + s - s = j by omega] at h
  exact h
theorem redM_ne : detF m (redM (m + 1) es q) ≠ 0 := det_ne (redM_symm _ _ _ _) (redM_inj hE hC hq)
/-- Cramer's number of a vertex. -/
def xF (m : Nat) (es : List E3) (q : Nat) (d : Nat → Int) (v : Nat) : Int := detF m (repl (redM (m + 1) es q) (pd q v) fun i => d (sk q i))
omit hE hC in
theorem solve_fwd {t d : Nat → Int} (h0 : t q = 0) (h : ∀ v, v < m + 1 → v ≠ q → Lp (m + 1) es t v = d v) {v : Nat} (hv : v < m + 1) (hvq : v ≠ q) : xF m es q d v = t v * detF m (redM (m + 1) es q) := by
  have hp := pd_lt hvq hv (show q < m + 1 by omega)
  have := cramer (redM (m + 1) es q) hp (fun k => t (sk q k))
  rw [sk_pd hvq] at this
  rw [← this]
  unfold xF
  refine detF_congr fun i j hi hj => ?_
  unfold repl
  by_cases e : j = pd q v
  · rw [if_pos e, if_pos e]
    show d (sk q i) = sm m fun j => t (sk q j) * redM (m + 1) es q i j
    rw [← h _ (sk_lt hi) (sk_ne q i), ← redM_row hq h0 hi]
    exact sm_congr fun k _ => Int.mul_comm _ _
  · rw [if_neg e, if_neg e]
theorem solve_bwd {s d : Nat → Int} (h0 : s q = 0) (h : ∀ v, v < m + 1 → v ≠ q → xF m es q d v = s v * detF m (redM (m + 1) es q)) {v : Nat} (hv : v < m + 1) (hvq : v ≠ q) : Lp (m + 1) es s v = d v := by
  have hN := redM_ne hE hC hq
  have hp := pd_lt hvq hv (show q < m + 1 by omega)
  have h1 := cramer_back (redM_symm (m + 1) es q m) hN (fun i => d (sk q i)) hp
  have h2 := redM_row (es := es) hq h0 hp
  rw [sk_pd hvq] at h1 h2
  rw [← h2]
  have h3 : sm m (fun k => redM (m + 1) es q (pd q v) k * detF m (repl (redM (m + 1) es q) k fun i => d (sk q i))) = detF m (redM (m + 1) es q) * sm m (fun k => redM (m + 1) es q (pd q v) k * s (sk q k)) := by
    rw [← sm_mul]
    refine sm_congr fun k hk => ?_
    have h4 := h (sk q k) (sk_lt hk) (sk_ne q k)
    unfold xF at h4
    rw [show pd q (sk q k) = k from sk_inj (q := q) (sk_pd (sk_ne q k))] at h4
    rw [h4]; grind
  rw [h3] at h1
  have h5 : detF m (redM (m + 1) es q) * (sm m (fun k => redM (m + 1) es q (pd q v) k * s (sk q k)) - d v) = 0 := by rw [Int.mul_sub, h1, Int.mul_comm]; omega
  rcases Int.mul_eq_zero.1 h5 with h6 | h6
  · exact absurd h6 hN
  · omega
end
end Go.Proofs.Ytnhmeckhlajeaaa

/- What the references' pure forms come to: graphs and divisors. -/
namespace Go.Proofs.Ytnhmeckhlajeaaa
open Go
set_option linter.unusedVariables false
set_option linter.unusedSimpArgs false

theorem p_r17_In {k : Int} {R : Bool → Prop} (h : R (inF k)) : pf_r17_In k R := by
  unfold pf_r17_In
  refine ⟨fun h1 => ?_, fun h1 => ?_⟩
  · have e : decide (k ≤ 1048576) = inF k := by unfold inF; simp [h1]
    rw [e]; exact h
  · have e : false = inF k := by unfold inF; simp [h1]
    rw [e]; exact h
theorem p_r15_In {k : Int} {R : Bool → Prop} (h : R (inF k)) : pf_r15_In k R := by
  unfold pf_r15_In
  refine ⟨fun h1 => ?_, fun h1 => ?_⟩
  · have e : decide (k ≤ 1048576) = inF k := by unfold inF; simp [h1]
    rw [e]; exact h
  · have e : false = inF k := by unfold inF; simp [h1]
    rw [e]; exact h
theorem p_r08_Vertex {n v : Int} {es : List E3} {R : Bool → Prop} (h : R (decide (0 ≤ v ∧ v < n))) : pf_r08_Vertex n es v R := by
  unfold pf_r08_Vertex
  refine ⟨fun h1 => ?_, fun h1 => ?_⟩
  · have e : decide (v < n) = decide (0 ≤ v ∧ v < n) := by simp [h1]
    rw [e]; exact h
  · have e : false = decide (0 ≤ v ∧ v < n) := by simp [h1]
    rw [e]; exact h
theorem p_r17_Check {d : List Int} {n : Int} {R : Int → Prop} (h : R (checkF d n)) : pf_r17_Check d n R := by
  unfold pf_r17_Check
  have hout : ¬ (1 ≤ n ∧ n ≤ 12) → R 2 := fun q => by
    have : checkF d n = 2 := by unfold checkF vertsF; rw [if_neg q, if_neg (by omega)]
    rwa [this] at h
  refine ⟨1 ≤ n ∧ n ≤ 12, fun hn => ?_, fun q => hout (by omega), fun q => ⟨fun q2 => hout (by omega), fun q2 => ⟨by omega, by omega⟩⟩⟩
  have hc : checkF d n = if (d.length : Int) = n then (if d.all inF then 0 else 2) else 8 := by unfold checkF; rw [if_pos (by unfold vertsF; rw [if_pos hn])]
  rw [hc] at h
  refine ⟨fun hln => ?_, fun hln => by rwa [if_neg hln] at h⟩
  rw [if_pos hln] at h
  refine ⟨Cnt d.length (fun k => ∀ j, j < k → inF (gi d j) = true), Cnt.start (fun j hj => absurd hj (by omega)), ?_⟩
  rintro m _ ⟨k, rfl, rfl, hk, hinv⟩
  refine ⟨fun hlt => ⟨by omega, p_r17_In ⟨fun h1 => Cnt.next (by omega) (by omega) fun j hj => ?_, fun h1 => ?_⟩⟩, fun hge => ?_⟩
  · by_cases e : j = k
    · subst e; simpa using h1
    · exact hinv j (by omega)
  · rw [if_neg (fun hall => h1 ((all_iff_gi inF d).1 hall _ (by omega)))] at h; exact h
  · rw [if_pos ((all_iff_gi inF d).2 fun j hj => hinv j (by omega))] at h; exact h
theorem p_r15_Script {n : Int} {es : List E3} {s : List Int} {R : Int → Prop} (hn : 1 ≤ n ∧ n ≤ 12) (h : R (checkF s n)) : pf_r15_Script n es s R := by
  unfold pf_r15_Script
  have hc : checkF s n = if (s.length : Int) = n then (if s.all inF then 0 else 2) else 8 := by unfold checkF; rw [if_pos (by unfold vertsF; rw [if_pos hn])]
  rw [hc] at h
  refine ⟨fun hln => ?_, fun hln => by rwa [if_neg hln] at h⟩
  rw [if_pos hln] at h
  refine ⟨Cnt s.length (fun k => ∀ j, j < k → inF (gi s j) = true), Cnt.start (fun j hj => absurd hj (by omega)), ?_⟩
  rintro m _ ⟨k, rfl, rfl, hk, hinv⟩
  refine ⟨fun hlt => ⟨by omega, p_r15_In ⟨fun h1 => Cnt.next (by omega) (by omega) fun j hj => ?_, fun h1 => ?_⟩⟩, fun hge => ?_⟩
  · by_cases e : j = k
    · subst e; simpa using h1
    · exact hinv j (by omega)
  · rw [if_neg (fun hall => h1 ((all_iff_gi inF s).1 hall _ (by omega)))] at h; exact h
  · rw [if_pos ((all_iff_gi inF s).2 fun j hj => hinv j (by omega))] at h; exact h
theorem p_r17_Total {d : List Int} {R : Int → Prop} (hl : d.length ≤ 1000000) (hb : ∀ i, i < d.length → -1000000000000 ≤ gi d i ∧ gi d i ≤ 1000000000000) (h : R (dg d)) : pf_r17_Total d R := by
  unfold pf_r17_Total
  refine ⟨fun m n v => Cnt d.length (fun k => n = sm k (gi d)) m v, Cnt.start rfl, ?_⟩
  rintro m n _ ⟨k, rfl, rfl, hk, rfl⟩
  refine ⟨fun hlt => ⟨by omega, ?_, Cnt.next (by omega) (by omega) rfl⟩, fun hge => ?_⟩
  · have := sm_bound (f := gi d) (B := 1000000000000) (by omega) (n := k + 1) fun i hi => hb i (by omega)
    rw [sm] at this
    exact i64 (by simp only [Int.toNat_natCast]; omega)
  · have : k = d.length := by omega
    subst this; exact h
/-- Nothing is negative. -/
def paidF (d : List Int) : Bool := (List.range d.length).all fun v => decide (0 ≤ gi d v)
theorem paidF_iff {d : List Int} : paidF d = true ↔ ∀ v, v < d.length → 0 ≤ gi d v := by simp [paidF]
theorem p_r17_Paid {d : List Int} {R : Bool → Prop} (hl : d.length ≤ 1000000000) (h : R (paidF d)) : pf_r17_Paid d R := by
  unfold pf_r17_Paid
  refine ⟨Cnt d.length (fun k => ∀ j, j < k → 0 ≤ gi d j), Cnt.start (fun j hj => absurd hj (by omega)), ?_⟩
  rintro m _ ⟨k, rfl, rfl, hk, hinv⟩
  refine ⟨fun hlt => ⟨by omega, fun h1 => ?_, fun h1 => Cnt.next (by omega) (by omega) fun j hj => ?_⟩, fun hge => ?_⟩
  · have e : false = paidF d := by
      symm; rw [Bool.eq_false_iff]; intro q
      have := paidF_iff.1 q k (by omega)
      simp only [Int.toNat_natCast] at h1; omega
    rw [e]; exact h
  · by_cases e : j = k
    · subst e; simp only [Int.toNat_natCast] at h1; omega
    · exact hinv j (by omega)
  · have e : true = paidF d := by symm; rw [paidF_iff]; intro v hv; exact hinv v (by omega)
    rw [e]; exact h

theorem p_r08_edge {n : Int} {es : List E3} {k : Nat} {R : Int → Prop} (hk : k < es.length) (hl : es.length ≤ 1000000000) (h : R (edgeF n (pre es k).1 (pre es k).2 (ge es k))) : pf_r08_edge n es (k : Int) R := by
  unfold pf_r08_edge
  simp only [Int.toNat_natCast]
  generalize hx : ge es k = x at h ⊢
  refine ⟨by omega, (0 ≤ x.1 ∧ x.1 < n) ∧ (0 ≤ x.2.1 ∧ x.2.1 < n) ∧ 1 ≤ x.2.2 ∧ x.2.2 ≤ 50, fun hJ => ?_, ?_⟩
  · have hed : ∀ a b, edgeF n a b x = if x.1 ≤ x.2.1 ∧ pcmpF a b x.1 x.2.1 < 0 then 0 else 9 := fun a b => by unfold edgeF; rw [if_pos hJ]
    rw [hed] at h
    refine ⟨fun q => by rw [if_neg (by omega)] at h; exact h, fun q => ⟨fun h0 => ?_, fun h0 => ?_⟩⟩
    · have e1 : ((k : Int) - 1).toNat = k - 1 := by omega
      rw [e1]
      have hp : pre es k = ((ge es (k - 1)).1, (ge es (k - 1)).2.1) := by unfold pre; rw [if_neg (by omega)]
      rw [hp] at h
      have hc := pcmp_lt (ge es (k - 1)).1 (ge es (k - 1)).2.1 x.1 x.2.1
      refine ⟨i64 (by omega), by omega, fun q1 => ?_, fun q1 => ⟨fun q2 => ⟨fun q3 => ?_, fun q3 => ?_⟩, fun q2 => ?_⟩⟩
      · rw [if_neg (fun h => by have := hc.1 h.2; omega)] at h; exact h
      · rw [if_neg (fun h => by have := hc.1 h.2; omega)] at h; exact h
      · rw [if_pos ⟨by omega, hc.2 (by omega)⟩] at h; exact h
      · rw [if_pos ⟨by omega, hc.2 (by omega)⟩] at h; exact h
    · have hp : pre es k = (-1, -1) := by unfold pre; rw [if_pos (by omega)]
      rw [hp, if_pos ⟨by omega, (pcmp_lt _ _ _ _).2 (.inl (by omega))⟩] at h
      exact h
  · have hed : ¬ ((0 ≤ x.1 ∧ x.1 < n) ∧ (0 ≤ x.2.1 ∧ x.2.1 < n) ∧ 1 ≤ x.2.2 ∧ x.2.2 ≤ 50) → R 2 := fun q => by unfold edgeF at h; rwa [if_neg q] at h
    refine p_r08_Vertex ⟨fun h1 => p_r08_Vertex ⟨fun h2 => ⟨fun h3 => hed (by omega), fun h3 => ⟨fun h4 => hed (by omega), fun h4 => ?_⟩⟩, fun h2 => hed (by simp at h2; omega)⟩, fun h1 => hed (by simp at h1; omega)⟩
    simp only [decide_eq_true_eq] at h1 h2
    exact ⟨h1, h2, by omega, by omega⟩
theorem p_r08_Check {n : Int} {es : List E3} {R : Int → Prop} (hl : es.length ≤ 1000000000) (h : R (gcheckF n es)) : pf_r08_Check n es R := by
  unfold pf_r08_Check
  have hout : ¬ (1 ≤ n ∧ n ≤ 12) → R 2 := fun q => by unfold gcheckF at h; rwa [if_neg q] at h
  refine ⟨1 ≤ n ∧ n ≤ 12, fun hn => ?_, fun q => hout (by omega), fun q => ⟨fun q2 => hout (by omega), fun q2 => ⟨by omega, by omega⟩⟩⟩
  have hg : gcheckF n es = gchk n (-1) (-1) es := by unfold gcheckF; rw [if_pos hn]
  rw [hg] at h
  refine ⟨Cnt es.length (fun k => gchk n (-1) (-1) es = gchk n (pre es k).1 (pre es k).2 (es.drop k)), Cnt.start rfl, ?_⟩
  rintro m _ ⟨k, rfl, rfl, hk, hinv⟩
  refine ⟨fun hlt => p_r08_edge (by omega) hl ⟨fun h0 => Cnt.next (by omega) (by omega) ?_, fun h0 => ?_⟩, fun hge => ?_⟩
  · rw [ge_drop (by omega), gchk_cons, if_pos h0] at hinv
    rw [hinv]; simp [pre]
  · rw [ge_drop (by omega), gchk_cons, if_neg h0] at hinv
    rwa [hinv] at h
  · have hk2 : k = es.length := by omega
    rw [hinv, hk2, List.drop_length] at h
    exact h
theorem p_r08_Between' {n : Int} {es : List E3} {a b : Int} {R : Int → Prop} (hl : es.length ≤ 1000000000) (h : R (((es.find? fun x => decide (x.1 = mnF a b ∧ x.2.1 = mxF a b)).map (·.2.2)).getD 0)) : pf_r08_Between n es a b R := by
  unfold pf_r08_Between
  refine ⟨Cnt es.length (fun k => es.find? (fun x => decide (x.1 = mnF a b ∧ x.2.1 = mxF a b)) = (es.drop k).find? (fun x => decide (x.1 = mnF a b ∧ x.2.1 = mxF a b))), Cnt.start rfl, ?_⟩
  rintro m _ ⟨k, rfl, rfl, hk, hinv⟩
  refine ⟨fun hlt => ?_, fun hge => ?_⟩
  · have hlt : k < es.length := by omega
    rw [ge_drop hlt, List.find?_cons] at hinv
    simp only [Int.toNat_natCast]
    refine ⟨by omega, fun h1 => ⟨fun h2 => ?_, fun h2 => Cnt.next hlt (by omega) ?_⟩, fun h1 => Cnt.next hlt (by omega) ?_⟩
    · rw [hinv] at h; simpa [h1, h2] using h
    · rw [hinv]; simp [h2]
    · rw [hinv]; simp [h1]
  · have hk2 : k = es.length := by omega
    rw [hinv, hk2, List.drop_length] at h
    exact h
/-- The edges of a right graph are few. -/
theorem W_le50 {n : Int} {es : List E3} (hg : gcheckF n es = 0) (u v : Nat) : 0 ≤ W es u v ∧ W es u v ≤ 50 := by
  by_cases e : u = v
  · subst e; rw [W_self]; omega
  · have hok := gchk_ok es _ _ (gcheck_gchk hg)
    rw [← between_W u v e es (-1) (-1) (gcheck_gchk hg)]
    cases hf : es.find? fun x => decide (x.1 = mnF (u : Int) v ∧ x.2.1 = mxF (u : Int) v) with
    | none => simp
    | some x => have := hok x (List.mem_of_find?_eq_some hf); simp; omega
theorem p_r08_Between {n : Int} {es : List E3} {u v : Nat} {R : Int → Prop} (hl : es.length ≤ 1000000000) (hg : gcheckF n es = 0) (huv : u ≠ v) (h : R (W es u v)) : pf_r08_Between n es (u : Int) (v : Int) R :=
  p_r08_Between' hl (by rw [between_W u v huv es (-1) (-1) (gcheck_gchk hg)]; exact h)
theorem deg_bound {n : Int} {es : List E3} (hg : gcheckF n es = 0) (k v : Nat) : 0 ≤ sm k (fun u => W es v u) ∧ sm k (fun u => W es v u) ≤ k * 50 :=
  ⟨sm_nonneg fun i _ => (W_le50 hg v i).1, (sm_bound (f := fun u => W es v u) (B := 50) (by omega) fun i _ => by have := W_le50 hg v i; omega).2⟩
theorem p_r08_Valence {n : Nat} {es : List E3} {v : Nat} {R : Int → Prop} (hl : es.length ≤ 1000000000) (hg : gcheckF n es = 0) (h : R (deg n es v)) : pf_r08_Valence (n : Int) es (v : Int) R := by
  obtain ⟨hE, hn1, hn12⟩ := gcheck_ok hg
  unfold pf_r08_Valence
  refine ⟨fun m a u => Cnt n (fun k => a = sm k (fun u => W es v u)) m u, Cnt.start rfl, ?_⟩
  rintro m a _ ⟨k, rfl, rfl, hk, rfl⟩
  refine ⟨fun hlt => ⟨fun e => Cnt.next (by omega) (by omega) ?_, fun e => p_r08_Between hl hg (by omega) ?_⟩, fun hge => ?_⟩
  · have e : k = v := by omega
    subst e
    rw [sm, W_self]; omega
  · have h1 := deg_bound hg k v
    have h2 := W_le50 hg k v
    refine ⟨i64 (by omega), Cnt.next (by omega) (by omega) ?_⟩
    rw [sm, W_symm es v k]
  · have hk2 : k = n := by omega
    subst hk2; exact h
/-- The ends of all single edges. -/
def endsF (es : List E3) : List (Int × Int) := es.flatMap fun x => List.replicate x.2.2.toNat (x.1, x.2.1)
theorem endsF_take {es : List E3} {k : Nat} (hk : k < es.length) : endsF (es.take (k + 1)) = endsF (es.take k) ++ List.replicate (ge es k).2.2.toNat ((ge es k).1, (ge es k).2.1) := by
  unfold endsF
  rw [List.take_add_one, List.getElem?_eq_getElem hk, ge_of_lt hk, List.flatMap_append]
  simp
theorem endsF_length (es : List E3) (hE : ∀ x ∈ es, 1 ≤ x.2.2 ∧ x.2.2 ≤ 50) : ((endsF es).length : Int) = (es.map (·.2.2)).sum ∧ (endsF es).length ≤ 50 * es.length := by
  induction es with
  | nil => simp [endsF]
  | cons x t ih =>
    have hx := hE x (by simp)
    have := ih fun y hy => hE y (by simp [hy])
    unfold endsF at this ⊢
    rw [List.flatMap_cons, List.length_append, List.length_replicate, List.map_cons, List.sum_cons, List.length_cons]
    omega
theorem p_r08_Ends {n : Int} {es : List E3} {R : List (Int × Int) → Prop} (hl : es.length ≤ 1000) (hE : ∀ x ∈ es, 1 ≤ x.2.2 ∧ x.2.2 ≤ 50) (h : R (endsF es)) : pf_r08_Ends n es R := by
  unfold pf_r08_Ends
  have hlen : ∀ k, (endsF (es.take k)).length ≤ 50 * k := fun k => by
    have := (endsF_length (es.take k) fun x hx => hE x (List.mem_of_mem_take hx)).2
    rw [List.length_take] at this
    omega
  refine ⟨fun m out i => Cnt es.length (fun k => out = endsF (es.take k)) m i, Cnt.start (by simp [endsF]), ?_⟩
  rintro m out _ ⟨k, rfl, rfl, hk, rfl⟩
  refine ⟨fun hlt => ?_, fun hge => ?_⟩
  · have hlt : k < es.length := by omega
    have hmk := hE _ (ge_mem hlt)
    have hl2 := hlen k
    simp only [Int.toNat_natCast]
    refine ⟨fun m2 out2 j => Cnt (ge es k).2.2.toNat (fun i => out2 = endsF (es.take k) ++ List.replicate i ((ge es k).1, (ge es k).2.1)) m2 j, Cnt.start (by simp), ?_⟩
    rintro m2 out2 _ ⟨j, rfl, rfl, hj, rfl⟩
    refine ⟨by omega, fun h1 => ⟨?_, Cnt.next (by omega) (by omega) ?_⟩, fun h1 => Cnt.next hlt (by omega) ?_⟩
    · rw [List.length_append, List.length_replicate]; omega
    · rw [List.append_assoc, List.replicate_succ']
    · have : j = (ge es k).2.2.toNat := by omega
      rw [endsF_take hlt, this]
  · have hk2 : k = es.length := by omega
    rw [hk2, List.take_length]; exact h
theorem p_r08_Size {n : Int} {es : List E3} {R : Int → Prop} (hl : es.length ≤ 1000) (hE : ∀ x ∈ es, 1 ≤ x.2.2 ∧ x.2.2 ≤ 50) (h : R ((es.map (·.2.2)).sum)) : pf_r08_Size n es R :=
  p_r08_Ends hl hE (by rw [(endsF_length es hE).1]; exact h)
theorem p_r08_small {n a b : Int} {es : List E3} {R : Bool → Prop} (h : R (smallF n es a b)) : pf_r08_small n es a b R := by
  unfold pf_r08_small
  unfold smallF at h
  refine ⟨fun h1 => ?_, fun h1 => p_r08_Check (by omega) ⟨fun h2 => ⟨fun h3 => ?_, fun h3 => ?_⟩, fun h2 => ?_⟩⟩
  · rwa [decide_eq_false (by omega)] at h
  · have hE := gchk_ok es _ _ (gcheck_gchk h2)
    refine p_r08_Size (by omega) (fun x hx => (hE x hx).2.2.2.2) ?_
    have e : decide ((es.map (·.2.2)).sum ≤ b) = decide (es.length ≤ 40 ∧ (gcheckF n es = 0 → n ≤ a ∧ (es.map (·.2.2)).sum ≤ b)) := by
      rw [decide_eq_decide]; constructor
      · intro q; exact ⟨by omega, fun _ => ⟨h3, q⟩⟩
      · intro q; exact (q.2 h2).2
    rw [e]; exact h
  · rwa [decide_eq_false (fun q => h3 (q.2 h2).1)] at h
  · rwa [decide_eq_true ⟨by omega, fun q => absurd q h2⟩] at h
theorem p_r08_Few {n : Int} {es : List E3} {R : Bool → Prop} (h : R (smallF n es 6 9)) : pf_r08_Few n es R := p_r08_small h
theorem p_r25_Few {n : Int} {es : List E3} {R : Bool → Prop} (h : R (smallF n es 6 9)) : pf_r25_Few n es R := p_r08_small h
theorem p_r34_Few {n : Int} {es : List E3} {R : Bool → Prop} (h : R (smallF n es 6 9)) : pf_r34_Few n es R := p_r08_small h
end Go.Proofs.Ytnhmeckhlajeaaa
