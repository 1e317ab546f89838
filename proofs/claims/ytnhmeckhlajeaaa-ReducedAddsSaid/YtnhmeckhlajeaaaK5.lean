/- Texts laid together: Pb, PRight, PAdds, Cnt, SpA, SpB, SpC, L34, L34R, AddsP, Opn. -/
import Derived.Test.YtnhmeckhlajeaaaRows
import Derived.ProofKit
import Derived.Lib.SmallJoins
import Derived.Deep.Slices
import Derived.Below
import Derived.OpenShut
import Derived.Test.YtnhmeckhlajeaaaK4
/- Pure forms of functions, made by program (pf.py), each with the proof that the code does so. -/
namespace Go.Proofs.Ytnhmeckhlajeaaa
open Go Go.RowKit Go.Shelf
set_option linter.unusedVariables false
set_option maxRecDepth 100000
set_option maxHeartbeats 1000000
/-- slices.Equal[sandpile/api.Divisor,int]: what it computes. -/
def pf_slices_Equal_Divisor (s1 : List Int) (s2 : List Int) (R : Bool → Prop) : Prop :=
((((s1.length : Nat) : Int) = ((s2.length : Nat) : Int) →
(∃ I2 : Nat → Int → Prop, (∃ m0, I2 m0 0) ∧ ∀ (m2 : Nat) (v : Int), I2 m2 v → 
((v < ((s1.length : Nat) : Int) →
((0 ≤ v ∧ v < ((s1.length : Nat) : Int)) ∧
((0 ≤ v ∧ v < ((s2.length : Nat) : Int)) ∧
(((gi s1 v.toNat) = (gi s2 v.toNat) →
(In64 (v + 1) ∧
∃ m3, m3 < m2 ∧ I2 m3 (v + 1))) ∧
(¬ ((gi s1 v.toNat) = (gi s2 v.toNat)) →
R false))))) ∧
(¬ (v < ((s1.length : Nat) : Int)) →
R true)))) ∧
(¬ (((s1.length : Nat) : Int) = ((s2.length : Nat) : Int)) →
R false))
theorem pok_slices_Equal_Divisor {O : Nat → Prop} {w : World} {s1 : List Int} {s2 : List Int} {As1 : Option Addr} {ls1 : Nat} {cs1 : Nat} {As2 : Option Addr} {ls2 : Nat} {cs2 : Nat} {R : Bool → Prop} (h : pf_slices_Equal_Divisor s1 s2 R) (hO : ∀ k, O k → k < w.heap.size) (a0 : (FP.sl cI As1 ls1 cs1 s1).P O w) (a1 : (FP.sl cI As2 ls2 cs2 s2).P O w) :
    Calls Try.prog 19 #[(Value.slice As1 ls1 cs1), (Value.slice As2 ls2 cs2)] w fun e w' => ∃ r : Bool, e = .returned (Value.bool (r)) ∧ Sep w no O w' (rl []) ∧ R r := by
  unfold pf_slices_Equal_Divisor at h
  have hS : Sep w no O w (rl [Res.ro (FP.sl cI As1 ls1 cs1 s1), Res.ro (FP.sl cI As2 ls2 cs2 s2)]) := Sep.startl hO [(FP.sl cI As1 ls1 cs1 s1), (FP.sl cI As2 ls2 cs2 s2)] ⟨a0, a1, trivial⟩
  refine calls_sh (l := [(Value.slice As1 ls1 cs1), (Value.slice As2 ls2 cs2)]) Try.func19 rfl Try.ntmps19 (Nat.le_of_ble_eq_true rfl) ?_
  refine wt_seq ?_
  refine wl_region wd_wide ?_
  refine rl_q rfl rfl rfl (v_assign (v := (Value.bool (false))) rfl) ?_
  refine rl_end ?_
  refine wt_seq ?_
  refine wt_seq ?_
  refine wl_region wd_wide ?_
  refine rl_q rfl rfl rfl (v_move (v := (Value.slice As1 ls1 cs1)) rfl) ?_
  refine rl_q rfl rfl rfl (v_lenx (n := s1.length) rfl Try.underlying26 (rd_len (hS.rdr 0 rfl))) ?_
  refine rl_q rfl rfl rfl (v_move (v := (Value.slice As2 ls2 cs2)) rfl) ?_
  refine rl_q rfl rfl rfl (v_lenx (n := s2.length) rfl Try.underlying26 (rd_len (hS.rdr 1 rfl))) ?_
  refine rl_q rfl rfl rfl (v_neq rfl rfl) ?_
  refine rl_end ?_
  by_cases hp : ((s1.length : Nat) : Int) = ((s2.length : Nat) : Int)
  · replace h := h.1 hp
    refine wt_cond_f (congrArg Value.bool (congrArg Bool.not (decide_eq_true hp))) ?_
    refine wt_skip ?_
    refine wt_seq ?_
    refine wt_seq ?_
    refine wl_region wd_wide ?_
    refine rl_q rfl rfl rfl (v_move (v := (Value.slice As1 ls1 cs1)) rfl) ?_
    refine rl_q rfl rfl rfl (v_lenx (n := s1.length) rfl Try.underlying26 (rd_len (hS.rdr 0 rfl))) ?_
    refine rl_q rfl rfl rfl (v_move (v := (Value.int .i64 0)) rfl) ?_
    refine rl_end ?_
    refine wt_block ?_
    obtain ⟨I2, ⟨m0, h0⟩, hr⟩ := h
    refine wt_loop (fun m E ds w' => ∃ v : Int, I2 m v ∧ ds = [] ∧ E 0 = (Value.slice As1 ls1 cs1) ∧ E 1 = (Value.slice As2 ls2 cs2) ∧ E 12 = (Value.int .i64 ((s1.length : Nat) : Int)) ∧ E 13 = (Value.int .i64 v) ∧ Sep w no O w' (rl [Res.ro (FP.sl cI As1 ls1 cs1 s1), Res.ro (FP.sl cI As2 ls2 cs2 s2)])) m0 ⟨_, h0, rfl, rfl, rfl, rfl, rfl, (hS.sel [0, 1] (by decide))⟩ ?_
    clear h0 hS
    rintro m2 E ds w2 ⟨v, h, rfl, hE0, hE1, hE12, hE13, hS⟩ again
    replace h := hr m2 v h
    clear hr
    refine wt_seq ?_
    refine wl_region wd_wide ?_
    refine rl_q rfl rfl rfl (v_lss hE13 hE12) ?_
    refine rl_end ?_
    refine wt_seq ?_
    by_cases hp2 : v < ((s1.length : Nat) : Int)
    · replace h := h.1 hp2
      refine wt_cond_t (congrArg Value.bool (decide_eq_true hp2)) ?_
      refine wt_skip ?_
      refine wt_seq ?_
      refine wt_block ?_
      refine wt_seq ?_
      refine wl_region wd_wide ?_
      refine rl_q rfl rfl rfl (v_move (v := (Value.int .i64 v)) hE13) ?_
      refine rl_q rfl rfl rfl (v_assign (v := (Value.int .i64 v)) rfl) ?_
      refine rl_end ?_
      refine wt_seq ?_
      refine wp_draw [0, 1, 2, 3, 4, 5, 6, 7, 8] st0 wd_wide (by kernel_rfl) (by kernel_rfl) ?_
      replace hS := hS.drew
      refine rp_q rfl rfl rfl (v_move (v := (Value.slice As1 ls1 cs1)) hE0) ?_
      refine rp_q rfl rfl rfl (v_move (v := (Value.int .i64 v)) rfl) ?_
      obtain ⟨hx, h⟩ := h
      refine rp_q rfl rfl rfl (v_iaddr rfl rfl Try.underlying26 info_3 (rd_ix (hS.rdr 0 rfl) hx)) ?_
      refine rp_q rfl rfl rfl (v_load (v := (Value.int .i64 (gi s1 v.toNat))) rfl Try.underlying3 rfl (rd_1 (hS.rdr 0 rfl) hx (fun q => gi_some q) rfl)) ?_
      refine rp_q rfl rfl rfl (v_move (v := (Value.slice As2 ls2 cs2)) hE1) ?_
      refine rp_q rfl rfl rfl (v_move (v := (Value.int .i64 v)) rfl) ?_
      obtain ⟨hx2, h⟩ := h
      refine rp_q rfl rfl rfl (v_iaddr rfl rfl Try.underlying26 info_3 (rd_ix (hS.rdr 1 rfl) hx2)) ?_
      refine rp_q rfl rfl rfl (v_load (v := (Value.int .i64 (gi s2 v.toNat))) rfl Try.underlying3 rfl (rd_1 (hS.rdr 1 rfl) hx2 (fun q => gi_some q) rfl)) ?_
      refine rp_q rfl rfl rfl (v_neq rfl rfl) ?_
      refine rp_end ?_
      by_cases hp3 : (gi s1 v.toNat) = (gi s2 v.toNat)
      · replace h := h.1 hp3
        refine wt_cond_f (congrArg Value.bool (congrArg Bool.not (decide_eq_true hp3))) ?_
        refine wt_skip ?_
        refine wt_inBlock ?_
        refine wl_region wd_wide ?_
        obtain ⟨hi, h⟩ := h
        refine rl_q rfl rfl rfl (v_add hE13 rfl hi) ?_
        refine rl_q rfl rfl rfl (v_move (v := (Value.int .i64 (v + 1))) rfl) ?_
        refine rl_end ?_
        obtain ⟨mq, hlt, h⟩ := h
        exact again mq _ _ _ ⟨_, h, rfl, hE0, hE1, hE12, rfl, (hS.sel [0, 1] (by decide))⟩ hlt
      · replace h := h.2 hp3
        refine wt_cond_t (congrArg Value.bool (congrArg Bool.not (decide_eq_false hp3))) ?_
        refine wt_seq ?_
        refine wl_region wd_wide ?_
        refine rl_q rfl rfl rfl (v_assign (v := (Value.bool (false))) rfl) ?_
        refine rl_end ?_
        exact wt_ret1 rfl rfl ⟨_, rfl, (hS.sel [] (by decide)), h⟩
    · replace h := h.2 hp2
      refine wt_cond_f (congrArg Value.bool (decide_eq_false hp2)) ?_
      refine wt_exit rfl ?_
      refine wt_seq ?_
      refine wl_region wd_wide ?_
      refine rl_q rfl rfl rfl (v_assign (v := (Value.bool (true))) rfl) ?_
      refine rl_end ?_
      exact wt_ret1 rfl rfl ⟨_, rfl, (hS.sel [] (by decide)), h⟩
  · replace h := h.2 hp
    refine wt_cond_t (congrArg Value.bool (congrArg Bool.not (decide_eq_false hp))) ?_
    refine wt_seq ?_
    refine wl_region wd_wide ?_
    refine rl_q rfl rfl rfl (v_assign (v := (Value.bool (false))) rfl) ?_
    refine rl_end ?_
    exact wt_ret1 rfl rfl ⟨_, rfl, (hS.sel [] (by decide)), h⟩

/-- slices.Equal[sandpile/api.Script,int]: what it computes. -/
def pf_slices_Equal_Script (s1 : List Int) (s2 : List Int) (R : Bool → Prop) : Prop :=
((((s1.length : Nat) : Int) = ((s2.length : Nat) : Int) →
(∃ I2 : Nat → Int → Prop, (∃ m0, I2 m0 0) ∧ ∀ (m2 : Nat) (v : Int), I2 m2 v → 
((v < ((s1.length : Nat) : Int) →
((0 ≤ v ∧ v < ((s1.length : Nat) : Int)) ∧
((0 ≤ v ∧ v < ((s2.length : Nat) : Int)) ∧
(((gi s1 v.toNat) = (gi s2 v.toNat) →
(In64 (v + 1) ∧
∃ m3, m3 < m2 ∧ I2 m3 (v + 1))) ∧
(¬ ((gi s1 v.toNat) = (gi s2 v.toNat)) →
R false))))) ∧
(¬ (v < ((s1.length : Nat) : Int)) →
R true)))) ∧
(¬ (((s1.length : Nat) : Int) = ((s2.length : Nat) : Int)) →
R false))
theorem pok_slices_Equal_Script {O : Nat → Prop} {w : World} {s1 : List Int} {s2 : List Int} {As1 : Option Addr} {ls1 : Nat} {cs1 : Nat} {As2 : Option Addr} {ls2 : Nat} {cs2 : Nat} {R : Bool → Prop} (h : pf_slices_Equal_Script s1 s2 R) (hO : ∀ k, O k → k < w.heap.size) (a0 : (FP.sl cI As1 ls1 cs1 s1).P O w) (a1 : (FP.sl cI As2 ls2 cs2 s2).P O w) :
    Calls Try.prog 20 #[(Value.slice As1 ls1 cs1), (Value.slice As2 ls2 cs2)] w fun e w' => ∃ r : Bool, e = .returned (Value.bool (r)) ∧ Sep w no O w' (rl []) ∧ R r := by
  unfold pf_slices_Equal_Script at h
  have hS : Sep w no O w (rl [Res.ro (FP.sl cI As1 ls1 cs1 s1), Res.ro (FP.sl cI As2 ls2 cs2 s2)]) := Sep.startl hO [(FP.sl cI As1 ls1 cs1 s1), (FP.sl cI As2 ls2 cs2 s2)] ⟨a0, a1, trivial⟩
  refine calls_sh (l := [(Value.slice As1 ls1 cs1), (Value.slice As2 ls2 cs2)]) Try.func20 rfl Try.ntmps20 (Nat.le_of_ble_eq_true rfl) ?_
  refine wt_seq ?_
  refine wl_region wd_wide ?_
  refine rl_q rfl rfl rfl (v_assign (v := (Value.bool (false))) rfl) ?_
  refine rl_end ?_
  refine wt_seq ?_
  refine wt_seq ?_
  refine wl_region wd_wide ?_
  refine rl_q rfl rfl rfl (v_move (v := (Value.slice As1 ls1 cs1)) rfl) ?_
  refine rl_q rfl rfl rfl (v_lenx (n := s1.length) rfl Try.underlying30 (rd_len (hS.rdr 0 rfl))) ?_
  refine rl_q rfl rfl rfl (v_move (v := (Value.slice As2 ls2 cs2)) rfl) ?_
  refine rl_q rfl rfl rfl (v_lenx (n := s2.length) rfl Try.underlying30 (rd_len (hS.rdr 1 rfl))) ?_
  refine rl_q rfl rfl rfl (v_neq rfl rfl) ?_
  refine rl_end ?_
  by_cases hp : ((s1.length : Nat) : Int) = ((s2.length : Nat) : Int)
  · replace h := h.1 hp
    refine wt_cond_f (congrArg Value.bool (congrArg Bool.not (decide_eq_true hp))) ?_
    refine wt_skip ?_
    refine wt_seq ?_
    refine wt_seq ?_
    refine wl_region wd_wide ?_
    refine rl_q rfl rfl rfl (v_move (v := (Value.slice As1 ls1 cs1)) rfl) ?_
    refine rl_q rfl rfl rfl (v_lenx (n := s1.length) rfl Try.underlying30 (rd_len (hS.rdr 0 rfl))) ?_
    refine rl_q rfl rfl rfl (v_move (v := (Value.int .i64 0)) rfl) ?_
    refine rl_end ?_
    refine wt_block ?_
    obtain ⟨I2, ⟨m0, h0⟩, hr⟩ := h
    refine wt_loop (fun m E ds w' => ∃ v : Int, I2 m v ∧ ds = [] ∧ E 0 = (Value.slice As1 ls1 cs1) ∧ E 1 = (Value.slice As2 ls2 cs2) ∧ E 12 = (Value.int .i64 ((s1.length : Nat) : Int)) ∧ E 13 = (Value.int .i64 v) ∧ Sep w no O w' (rl [Res.ro (FP.sl cI As1 ls1 cs1 s1), Res.ro (FP.sl cI As2 ls2 cs2 s2)])) m0 ⟨_, h0, rfl, rfl, rfl, rfl, rfl, (hS.sel [0, 1] (by decide))⟩ ?_
    clear h0 hS
    rintro m2 E ds w2 ⟨v, h, rfl, hE0, hE1, hE12, hE13, hS⟩ again
    replace h := hr m2 v h
    clear hr
    refine wt_seq ?_
    refine wl_region wd_wide ?_
    refine rl_q rfl rfl rfl (v_lss hE13 hE12) ?_
    refine rl_end ?_
    refine wt_seq ?_
    by_cases hp2 : v < ((s1.length : Nat) : Int)
    · replace h := h.1 hp2
      refine wt_cond_t (congrArg Value.bool (decide_eq_true hp2)) ?_
      refine wt_skip ?_
      refine wt_seq ?_
      refine wt_block ?_
      refine wt_seq ?_
      refine wl_region wd_wide ?_
      refine rl_q rfl rfl rfl (v_move (v := (Value.int .i64 v)) hE13) ?_
      refine rl_q rfl rfl rfl (v_assign (v := (Value.int .i64 v)) rfl) ?_
      refine rl_end ?_
      refine wt_seq ?_
      refine wp_draw [0, 1, 2, 3, 4, 5, 6, 7, 8] st0 wd_wide (by kernel_rfl) (by kernel_rfl) ?_
      replace hS := hS.drew
      refine rp_q rfl rfl rfl (v_move (v := (Value.slice As1 ls1 cs1)) hE0) ?_
      refine rp_q rfl rfl rfl (v_move (v := (Value.int .i64 v)) rfl) ?_
      obtain ⟨hx, h⟩ := h
      refine rp_q rfl rfl rfl (v_iaddr rfl rfl Try.underlying30 info_3 (rd_ix (hS.rdr 0 rfl) hx)) ?_
      refine rp_q rfl rfl rfl (v_load (v := (Value.int .i64 (gi s1 v.toNat))) rfl Try.underlying3 rfl (rd_1 (hS.rdr 0 rfl) hx (fun q => gi_some q) rfl)) ?_
      refine rp_q rfl rfl rfl (v_move (v := (Value.slice As2 ls2 cs2)) hE1) ?_
      refine rp_q rfl rfl rfl (v_move (v := (Value.int .i64 v)) rfl) ?_
      obtain ⟨hx2, h⟩ := h
      refine rp_q rfl rfl rfl (v_iaddr rfl rfl Try.underlying30 info_3 (rd_ix (hS.rdr 1 rfl) hx2)) ?_
      refine rp_q rfl rfl rfl (v_load (v := (Value.int .i64 (gi s2 v.toNat))) rfl Try.underlying3 rfl (rd_1 (hS.rdr 1 rfl) hx2 (fun q => gi_some q) rfl)) ?_
      refine rp_q rfl rfl rfl (v_neq rfl rfl) ?_
      refine rp_end ?_
      by_cases hp3 : (gi s1 v.toNat) = (gi s2 v.toNat)
      · replace h := h.1 hp3
        refine wt_cond_f (congrArg Value.bool (congrArg Bool.not (decide_eq_true hp3))) ?_
        refine wt_skip ?_
        refine wt_inBlock ?_
        refine wl_region wd_wide ?_
        obtain ⟨hi, h⟩ := h
        refine rl_q rfl rfl rfl (v_add hE13 rfl hi) ?_
        refine rl_q rfl rfl rfl (v_move (v := (Value.int .i64 (v + 1))) rfl) ?_
        refine rl_end ?_
        obtain ⟨mq, hlt, h⟩ := h
        exact again mq _ _ _ ⟨_, h, rfl, hE0, hE1, hE12, rfl, (hS.sel [0, 1] (by decide))⟩ hlt
      · replace h := h.2 hp3
        refine wt_cond_t (congrArg Value.bool (congrArg Bool.not (decide_eq_false hp3))) ?_
        refine wt_seq ?_
        refine wl_region wd_wide ?_
        refine rl_q rfl rfl rfl (v_assign (v := (Value.bool (false))) rfl) ?_
        refine rl_end ?_
        exact wt_ret1 rfl rfl ⟨_, rfl, (hS.sel [] (by decide)), h⟩
    · replace h := h.2 hp2
      refine wt_cond_f (congrArg Value.bool (decide_eq_false hp2)) ?_
      refine wt_exit rfl ?_
      refine wt_seq ?_
      refine wl_region wd_wide ?_
      refine rl_q rfl rfl rfl (v_assign (v := (Value.bool (true))) rfl) ?_
      refine rl_end ?_
      exact wt_ret1 rfl rfl ⟨_, rfl, (hS.sel [] (by decide)), h⟩
  · replace h := h.2 hp
    refine wt_cond_t (congrArg Value.bool (congrArg Bool.not (decide_eq_false hp))) ?_
    refine wt_seq ?_
    refine wl_region wd_wide ?_
    refine rl_q rfl rfl rfl (v_assign (v := (Value.bool (false))) rfl) ?_
    refine rl_end ?_
    exact wt_ret1 rfl rfl ⟨_, rfl, (hS.sel [] (by decide)), h⟩

/-- slices.Equal[[]int,int]: what it computes. -/
def pf_slices_Equal_intS (s1 : List Int) (s2 : List Int) (R : Bool → Prop) : Prop :=
((((s1.length : Nat) : Int) = ((s2.length : Nat) : Int) →
(∃ I2 : Nat → Int → Prop, (∃ m0, I2 m0 0) ∧ ∀ (m2 : Nat) (v : Int), I2 m2 v → 
((v < ((s1.length : Nat) : Int) →
((0 ≤ v ∧ v < ((s1.length : Nat) : Int)) ∧
((0 ≤ v ∧ v < ((s2.length : Nat) : Int)) ∧
(((gi s1 v.toNat) = (gi s2 v.toNat) →
(In64 (v + 1) ∧
∃ m3, m3 < m2 ∧ I2 m3 (v + 1))) ∧
(¬ ((gi s1 v.toNat) = (gi s2 v.toNat)) →
R false))))) ∧
(¬ (v < ((s1.length : Nat) : Int)) →
R true)))) ∧
(¬ (((s1.length : Nat) : Int) = ((s2.length : Nat) : Int)) →
R false))
theorem pok_slices_Equal_intS {O : Nat → Prop} {w : World} {s1 : List Int} {s2 : List Int} {As1 : Option Addr} {ls1 : Nat} {cs1 : Nat} {As2 : Option Addr} {ls2 : Nat} {cs2 : Nat} {R : Bool → Prop} (h : pf_slices_Equal_intS s1 s2 R) (hO : ∀ k, O k → k < w.heap.size) (a0 : (FP.sl cI As1 ls1 cs1 s1).P O w) (a1 : (FP.sl cI As2 ls2 cs2 s2).P O w) :
    Calls Try.prog 33 #[(Value.slice As1 ls1 cs1), (Value.slice As2 ls2 cs2)] w fun e w' => ∃ r : Bool, e = .returned (Value.bool (r)) ∧ Sep w no O w' (rl []) ∧ R r := by
  unfold pf_slices_Equal_intS at h
  have hS : Sep w no O w (rl [Res.ro (FP.sl cI As1 ls1 cs1 s1), Res.ro (FP.sl cI As2 ls2 cs2 s2)]) := Sep.startl hO [(FP.sl cI As1 ls1 cs1 s1), (FP.sl cI As2 ls2 cs2 s2)] ⟨a0, a1, trivial⟩
  refine calls_sh (l := [(Value.slice As1 ls1 cs1), (Value.slice As2 ls2 cs2)]) Try.func33 rfl Try.ntmps33 (Nat.le_of_ble_eq_true rfl) ?_
  refine wt_seq ?_
  refine wl_region wd_wide ?_
  refine rl_q rfl rfl rfl (v_assign (v := (Value.bool (false))) rfl) ?_
  refine rl_end ?_
  refine wt_seq ?_
  refine wt_seq ?_
  refine wl_region wd_wide ?_
  refine rl_q rfl rfl rfl (v_move (v := (Value.slice As1 ls1 cs1)) rfl) ?_
  refine rl_q rfl rfl rfl (v_lenx (n := s1.length) rfl Try.underlying25 (rd_len (hS.rdr 0 rfl))) ?_
  refine rl_q rfl rfl rfl (v_move (v := (Value.slice As2 ls2 cs2)) rfl) ?_
  refine rl_q rfl rfl rfl (v_lenx (n := s2.length) rfl Try.underlying25 (rd_len (hS.rdr 1 rfl))) ?_
  refine rl_q rfl rfl rfl (v_neq rfl rfl) ?_
  refine rl_end ?_
  by_cases hp : ((s1.length : Nat) : Int) = ((s2.length : Nat) : Int)
  · replace h := h.1 hp
    refine wt_cond_f (congrArg Value.bool (congrArg Bool.not (decide_eq_true hp))) ?_
    refine wt_skip ?_
    refine wt_seq ?_
    refine wt_seq ?_
    refine wl_region wd_wide ?_
    refine rl_q rfl rfl rfl (v_move (v := (Value.slice As1 ls1 cs1)) rfl) ?_
    refine rl_q rfl rfl rfl (v_lenx (n := s1.length) rfl Try.underlying25 (rd_len (hS.rdr 0 rfl))) ?_
    refine rl_q rfl rfl rfl (v_move (v := (Value.int .i64 0)) rfl) ?_
    refine rl_end ?_
    refine wt_block ?_
    obtain ⟨I2, ⟨m0, h0⟩, hr⟩ := h
    refine wt_loop (fun m E ds w' => ∃ v : Int, I2 m v ∧ ds = [] ∧ E 0 = (Value.slice As1 ls1 cs1) ∧ E 1 = (Value.slice As2 ls2 cs2) ∧ E 12 = (Value.int .i64 ((s1.length : Nat) : Int)) ∧ E 13 = (Value.int .i64 v) ∧ Sep w no O w' (rl [Res.ro (FP.sl cI As1 ls1 cs1 s1), Res.ro (FP.sl cI As2 ls2 cs2 s2)])) m0 ⟨_, h0, rfl, rfl, rfl, rfl, rfl, (hS.sel [0, 1] (by decide))⟩ ?_
    clear h0 hS
    rintro m2 E ds w2 ⟨v, h, rfl, hE0, hE1, hE12, hE13, hS⟩ again
    replace h := hr m2 v h
    clear hr
    refine wt_seq ?_
    refine wl_region wd_wide ?_
    refine rl_q rfl rfl rfl (v_lss hE13 hE12) ?_
    refine rl_end ?_
    refine wt_seq ?_
    by_cases hp2 : v < ((s1.length : Nat) : Int)
    · replace h := h.1 hp2
      refine wt_cond_t (congrArg Value.bool (decide_eq_true hp2)) ?_
      refine wt_skip ?_
      refine wt_seq ?_
      refine wt_block ?_
      refine wt_seq ?_
      refine wl_region wd_wide ?_
      refine rl_q rfl rfl rfl (v_move (v := (Value.int .i64 v)) hE13) ?_
      refine rl_q rfl rfl rfl (v_assign (v := (Value.int .i64 v)) rfl) ?_
      refine rl_end ?_
      refine wt_seq ?_
      refine wp_draw [0, 1, 2, 3, 4, 5, 6, 7, 8] st0 wd_wide (by kernel_rfl) (by kernel_rfl) ?_
      replace hS := hS.drew
      refine rp_q rfl rfl rfl (v_move (v := (Value.slice As1 ls1 cs1)) hE0) ?_
      refine rp_q rfl rfl rfl (v_move (v := (Value.int .i64 v)) rfl) ?_
      obtain ⟨hx, h⟩ := h
      refine rp_q rfl rfl rfl (v_iaddr rfl rfl Try.underlying25 info_3 (rd_ix (hS.rdr 0 rfl) hx)) ?_
      refine rp_q rfl rfl rfl (v_load (v := (Value.int .i64 (gi s1 v.toNat))) rfl Try.underlying3 rfl (rd_1 (hS.rdr 0 rfl) hx (fun q => gi_some q) rfl)) ?_
      refine rp_q rfl rfl rfl (v_move (v := (Value.slice As2 ls2 cs2)) hE1) ?_
      refine rp_q rfl rfl rfl (v_move (v := (Value.int .i64 v)) rfl) ?_
      obtain ⟨hx2, h⟩ := h
      refine rp_q rfl rfl rfl (v_iaddr rfl rfl Try.underlying25 info_3 (rd_ix (hS.rdr 1 rfl) hx2)) ?_
      refine rp_q rfl rfl rfl (v_load (v := (Value.int .i64 (gi s2 v.toNat))) rfl Try.underlying3 rfl (rd_1 (hS.rdr 1 rfl) hx2 (fun q => gi_some q) rfl)) ?_
      refine rp_q rfl rfl rfl (v_neq rfl rfl) ?_
      refine rp_end ?_
      by_cases hp3 : (gi s1 v.toNat) = (gi s2 v.toNat)
      · replace h := h.1 hp3
        refine wt_cond_f (congrArg Value.bool (congrArg Bool.not (decide_eq_true hp3))) ?_
        refine wt_skip ?_
        refine wt_inBlock ?_
        refine wl_region wd_wide ?_
        obtain ⟨hi, h⟩ := h
        refine rl_q rfl rfl rfl (v_add hE13 rfl hi) ?_
        refine rl_q rfl rfl rfl (v_move (v := (Value.int .i64 (v + 1))) rfl) ?_
        refine rl_end ?_
        obtain ⟨mq, hlt, h⟩ := h
        exact again mq _ _ _ ⟨_, h, rfl, hE0, hE1, hE12, rfl, (hS.sel [0, 1] (by decide))⟩ hlt
      · replace h := h.2 hp3
        refine wt_cond_t (congrArg Value.bool (congrArg Bool.not (decide_eq_false hp3))) ?_
        refine wt_seq ?_
        refine wl_region wd_wide ?_
        refine rl_q rfl rfl rfl (v_assign (v := (Value.bool (false))) rfl) ?_
        refine rl_end ?_
        exact wt_ret1 rfl rfl ⟨_, rfl, (hS.sel [] (by decide)), h⟩
    · replace h := h.2 hp2
      refine wt_cond_f (congrArg Value.bool (decide_eq_false hp2)) ?_
      refine wt_exit rfl ?_
      refine wt_seq ?_
      refine wl_region wd_wide ?_
      refine rl_q rfl rfl rfl (v_assign (v := (Value.bool (true))) rfl) ?_
      refine rl_end ?_
      exact wt_ret1 rfl rfl ⟨_, rfl, (hS.sel [] (by decide)), h⟩
  · replace h := h.2 hp
    refine wt_cond_t (congrArg Value.bool (congrArg Bool.not (decide_eq_false hp))) ?_
    refine wt_seq ?_
    refine wl_region wd_wide ?_
    refine rl_q rfl rfl rfl (v_assign (v := (Value.bool (false))) rfl) ?_
    refine rl_end ?_
    exact wt_ret1 rfl rfl ⟨_, rfl, (hS.sel [] (by decide)), h⟩

/-- slices.Clone[sandpile/api.Divisor,int]: what it computes. -/
def pf_slices_Clone_Divisor (s : List Int) (R : (List Int) → Prop) : Prop :=
(∀ nil : Bool, (nil = true → s = []) →
((nil = true →
R ([])) ∧
(¬ (nil = true) →
(0 + s.length ≤ 1000000000 ∧
R ([] ++ s)))))
theorem pok_slices_Clone_Divisor {O : Nat → Prop} {w : World} {s : List Int} {As : Option Addr} {ls : Nat} {cs : Nat} {R : (List Int) → Prop} (h : pf_slices_Clone_Divisor s R) (hO : ∀ k, O k → k < w.heap.size) (a0 : (FP.sl cI As ls cs s).P O w) :
    Calls Try.prog 22 #[(Value.slice As ls cs)] w fun e w' => ∃ r : List Int, ∃ Ar : Option Addr, ∃ lr : Nat, ∃ cr : Nat, e = .returned (Value.slice Ar lr cr) ∧ Sep w no O w' (rl [Res.own cI 3 Ar lr cr r]) ∧ R r := by
  unfold pf_slices_Clone_Divisor at h
  have hS : Sep w no O w (rl [Res.ro (FP.sl cI As ls cs s)]) := Sep.startl hO [(FP.sl cI As ls cs s)] ⟨a0, trivial⟩
  refine calls_sh (l := [(Value.slice As ls cs)]) Try.func22 rfl Try.ntmps22 (Nat.le_of_ble_eq_true rfl) ?_
  refine wt_seq ?_
  refine wl_region wd_wide ?_
  refine rl_q rfl rfl rfl (v_assign (v := (Value.slice none 0 0)) rfl) ?_
  refine rl_end ?_
  refine wt_seq ?_
  refine wt_seq ?_
  refine wl_region wd_wide ?_
  refine rl_q rfl rfl rfl (v_move (v := (Value.slice As ls cs)) rfl) ?_
  obtain ⟨nil, hn⟩ : ∃ b, Option.isNone As = b := ⟨_, rfl⟩
  replace h := h nil (by rw [← hn]; exact rd_nil (hS.rdr 0 rfl))
  refine rl_q rfl rfl rfl (v_seqlx rfl rfl Try.underlying26 hn) ?_
  refine rl_end ?_
  by_cases hp : nil = true
  · replace h := h.1 hp
    refine wt_cond_t (congrArg Value.bool hp) ?_
    refine wt_seq ?_
    refine wl_region wd_wide ?_
    refine rl_q rfl rfl rfl (v_assign (v := (Value.slice none 0 0)) rfl) ?_
    refine rl_end ?_
    replace hS := hS.nil 1 rfl cI 3
    exact wt_ret1 rfl rfl ⟨_, _, _, _, rfl, (hS.sel [1] (by decide)), h⟩
  · replace h := h.2 hp
    refine wt_cond_f (congrArg Value.bool (Bool.eq_false_iff.2 hp)) ?_
    refine wt_skip ?_
    refine wt_seq ?_
    refine wl_region wd_wide ?_
    refine rl_n rfl rfl rfl rfl (n_bslice (l := []) (cells := []) (bp0) Try.underlying26 info_3 rfl rfl ?_)
    intro g w2 hN
    replace hS := hS.litf (n := 0) 1 rfl (fI .i64) hN ([] : List Int) rfl (by decide) rfl
    clear hN
    refine ⟨Stb.none _, ?_⟩
    refine rl_q rfl rfl rfl (v_move (v := (Value.slice As ls cs)) rfl) ?_
    obtain ⟨hx, h⟩ := h
    refine rl_n rfl rfl rfl rfl (n_app (c := cI) rfl rfl Try.underlying26 Try.underlying26 info_3 rfl rfl (by decide) hS 1 rfl (hS.yr 0 rfl) hx ?_)
    clear hS
    intro A c w3 hS
    refine ⟨Stb.none _, ?_⟩
    refine rl_q rfl rfl rfl (v_assign (v := (Value.slice A (0 + ls) c)) rfl) ?_
    refine rl_end ?_
    exact wt_ret1 rfl rfl ⟨_, _, _, _, rfl, (hS.sel [1] (by decide)), h⟩
end Go.Proofs.Ytnhmeckhlajeaaa

/- Pure forms of functions, made by program (pf.py), each with the proof that the code does so. -/
namespace Go.Proofs.Ytnhmeckhlajeaaa
open Go Go.RowKit Go.Shelf
set_option linter.unusedVariables false
set_option maxRecDepth 100000
set_option maxHeartbeats 1000000
/-- sandpile/sandpilelaw34.right: what it computes. -/
def pf_l34_right (g : Int) (g2 : List (Int × Int × Int)) (d : List Int) (R : Bool → Prop) : Prop :=
pf_r34_Few g g2 (fun (r : Bool) =>
((r = true →
pf_r25_Joined g g2 (fun (r2 : Int) =>
((r2 = 0 →
pf_r17_Check d g (fun (r3 : Int) =>
((r3 = 0 →
pf_r34_Low g g2 d (fun (r4 : Bool) =>
R r4)) ∧
(¬ (r3 = 0) →
R false)))) ∧
(¬ (r2 = 0) →
R false)))) ∧
(¬ (r = true) →
R false)))
theorem pok_l34_right {O : Nat → Prop} {w : World} {g : Int} {g2 : List (Int × Int × Int)} {d : List Int} {Ag : Option Addr} {lg : Nat} {cg : Nat} {Ad : Option Addr} {ld : Nat} {cd : Nat} {R : Bool → Prop} (h : pf_l34_right g g2 d R) (hO : ∀ k, O k → k < w.heap.size) (a0 : (FP.sl c3 Ag lg cg g2).P O w) (a1 : (FP.sl cI Ad ld cd d).P O w) :
    Calls Try.prog 21 #[(Value.agg #[(Value.int .i64 g), (Value.slice Ag lg cg)]), (Value.slice Ad ld cd)] w fun e w' => ∃ r5 : Bool, e = .returned (Value.bool (r5)) ∧ Sep w no O w' (rl []) ∧ R r5 := by
  unfold pf_l34_right at h
  have hS : Sep w no O w (rl [Res.ro (FP.sl c3 Ag lg cg g2), Res.ro (FP.sl cI Ad ld cd d)]) := Sep.startl hO [(FP.sl c3 Ag lg cg g2), (FP.sl cI Ad ld cd d)] ⟨a0, a1, trivial⟩
  refine calls_sh (l := [(Value.agg #[(Value.int .i64 g), (Value.slice Ag lg cg)]), (Value.slice Ad ld cd)]) Try.func21 rfl Try.ntmps21 (Nat.le_of_ble_eq_true rfl) ?_
  refine wt_seq ?_
  refine wl_region wd_wide ?_
  refine rl_n rfl rfl rfl rfl (n_box (v := (Value.agg #[(Value.int .i64 g), (Value.slice Ag lg cg)])) rfl ?_)
  intro g3 w2 hN
  replace hS : Sep w no O w2 (stl _ 2 (Res.box 24 g3 [(Value.int .i64 g), (Value.slice Ag lg cg)])) := hS.new 2 rfl hN
  clear hN
  refine ⟨Stb.none _, ?_⟩
  refine rl_q rfl rfl rfl (v_assign (v := (Value.bool (false))) rfl) ?_
  refine rl_end ?_
  refine wt_seq ?_
  refine wl_region wd_wide ?_
  refine rl_q rfl rfl rfl (v_loadn (vs := [(Value.int .i64 g), (Value.slice Ag lg cg)]) rfl Try.underlying24 rfl info_24 ⟨Row.cell (hS.bx 2 rfl) (i := 0) rfl, Row.cell (hS.bx 2 rfl) (i := 1) rfl, trivial⟩) ?_
  refine rl_n rfl rfl rfl rfl (n_call0 rfl (am1 rfl) enter_14 ((pok_r34_Few h (no_lt _) (hS.rdr 0 rfl)).mono ?_))
  rintro _ w3 ⟨r, rfl, hC, h⟩
  replace hS := hS.pur hC.pure
  clear hC
  refine ⟨_, rfl, ?_⟩
  refine ⟨Stb.none _, ?_⟩
  refine rl_q rfl rfl rfl (v_move (v := (Value.bool (r))) rfl) ?_
  by_cases hp : r = true
  · replace h := h.1 hp
    refine rl_q (wanted_g rfl (yE_of rfl (congrArg Value.bool hp))) rfl rfl (v_loadn (vs := [(Value.int .i64 g), (Value.slice Ag lg cg)]) rfl Try.underlying24 rfl info_24 ⟨Row.cell (hS.bx 2 rfl) (i := 0) rfl, Row.cell (hS.bx 2 rfl) (i := 1) rfl, trivial⟩) ?_
    refine rl_n (wanted_g rfl (yE_of rfl (congrArg Value.bool hp))) rfl rfl rfl (n_call0 rfl (am1 rfl) enter_70 ((pok_r25_Joined h (no_lt _) (hS.rdr 0 rfl)).mono ?_))
    rintro _ w4 ⟨r2, rfl, hC, h⟩
    replace hS := hS.pur hC.pure
    clear hC
    refine ⟨_, rfl, ?_⟩
    refine ⟨Stb.none _, ?_⟩
    refine rl_q (wanted_g rfl (yE_of rfl (congrArg Value.bool hp))) rfl rfl (v_eql rfl rfl) ?_
    refine rl_q rfl rfl rfl (v_pick_t (v := (Value.bool (decide (r2 = 0)))) (congrArg Value.bool hp) rfl) ?_
    refine rl_q rfl rfl rfl (v_move (v := (Value.bool (decide (r2 = 0)))) rfl) ?_
    by_cases hp2 : r2 = 0
    · replace h := h.1 hp2
      refine rl_q (wanted_g rfl (yE_of rfl (congrArg Value.bool (decide_eq_true hp2)))) rfl rfl (v_move (v := (Value.slice Ad ld cd)) rfl) ?_
      refine rl_q (wanted_g rfl (yE_of rfl (congrArg Value.bool (decide_eq_true hp2)))) rfl rfl (v_faddr rfl Try.underlying24 rfl info_3) ?_
      refine rl_q (wanted_g rfl (yE_of rfl (congrArg Value.bool (decide_eq_true hp2)))) rfl rfl (v_load rfl Try.underlying3 rfl (Row.cell (hS.bx 2 rfl) (i := 0) rfl)) ?_
      refine rl_n (wanted_g rfl (yE_of rfl (congrArg Value.bool (decide_eq_true hp2)))) rfl rfl rfl (n_call0 rfl (am2 rfl rfl) enter_26 ((pok_r17_Check h (no_lt _) (hS.rdr 1 rfl)).mono ?_))
      rintro _ w5 ⟨r3, rfl, hC, h⟩
      replace hS := hS.pur hC.pure
      clear hC
      refine ⟨_, rfl, ?_⟩
      refine ⟨Stb.none _, ?_⟩
      refine rl_q (wanted_g rfl (yE_of rfl (congrArg Value.bool (decide_eq_true hp2)))) rfl rfl (v_eql rfl rfl) ?_
      refine rl_q rfl rfl rfl (v_pick_t (v := (Value.bool (decide (r3 = 0)))) (congrArg Value.bool (decide_eq_true hp2)) rfl) ?_
      refine rl_q rfl rfl rfl (v_move (v := (Value.bool (decide (r3 = 0)))) rfl) ?_
      by_cases hp3 : r3 = 0
      · replace h := h.1 hp3
        refine rl_q (wanted_g rfl (yE_of rfl (congrArg Value.bool (decide_eq_true hp3)))) rfl rfl (v_loadn (vs := [(Value.int .i64 g), (Value.slice Ag lg cg)]) rfl Try.underlying24 rfl info_24 ⟨Row.cell (hS.bx 2 rfl) (i := 0) rfl, Row.cell (hS.bx 2 rfl) (i := 1) rfl, trivial⟩) ?_
        refine rl_q (wanted_g rfl (yE_of rfl (congrArg Value.bool (decide_eq_true hp3)))) rfl rfl (v_move (v := (Value.slice Ad ld cd)) rfl) ?_
        refine rl_n (wanted_g rfl (yE_of rfl (congrArg Value.bool (decide_eq_true hp3)))) rfl rfl rfl (n_call0 rfl (am2 rfl rfl) enter_15 ((pok_r34_Low h (no_lt _) (hS.rdr 0 rfl) (hS.rdr 1 rfl)).mono ?_))
        rintro _ w6 ⟨r4, rfl, hC, h⟩
        replace hS := hS.pur hC.pure
        clear hC
        refine ⟨_, rfl, ?_⟩
        refine ⟨Stb.none _, ?_⟩
        refine rl_q rfl rfl rfl (v_pick_t (v := (Value.bool (r4))) (congrArg Value.bool (decide_eq_true hp3)) rfl) ?_
        refine rl_q rfl rfl rfl (v_assign (v := (Value.bool (r4))) rfl) ?_
        refine rl_end ?_
        exact wt_ret1 rfl rfl ⟨_, rfl, (hS.sel [] (by decide)), h⟩
      · replace h := h.2 hp3
        refine rl_p (wanted_n rfl (yE_of rfl (congrArg Value.bool (decide_eq_false hp3))) rfl) rfl ?_
        refine rl_p (wanted_n rfl (yE_of rfl (congrArg Value.bool (decide_eq_false hp3))) rfl) rfl ?_
        refine rl_p (wanted_n rfl (yE_of rfl (congrArg Value.bool (decide_eq_false hp3))) rfl) rfl ?_
        refine rl_q rfl rfl rfl (v_pick_f (v := (Value.bool (false))) (congrArg Value.bool (decide_eq_false hp3)) rfl) ?_
        refine rl_q rfl rfl rfl (v_assign (v := (Value.bool (false))) rfl) ?_
        refine rl_end ?_
        exact wt_ret1 rfl rfl ⟨_, rfl, (hS.sel [] (by decide)), h⟩
    · replace h := h.2 hp2
      refine rl_p (wanted_n rfl (yE_of rfl (congrArg Value.bool (decide_eq_false hp2))) rfl) rfl ?_
      refine rl_p (wanted_n rfl (yE_of rfl (congrArg Value.bool (decide_eq_false hp2))) rfl) rfl ?_
      refine rl_p (wanted_n rfl (yE_of rfl (congrArg Value.bool (decide_eq_false hp2))) rfl) rfl ?_
      refine rl_p (wanted_n rfl (yE_of rfl (congrArg Value.bool (decide_eq_false hp2))) rfl) rfl ?_
      refine rl_p (wanted_n rfl (yE_of rfl (congrArg Value.bool (decide_eq_false hp2))) rfl) rfl ?_
      refine rl_q rfl rfl rfl (v_pick_f (v := (Value.bool (false))) (congrArg Value.bool (decide_eq_false hp2)) rfl) ?_
      refine rl_q rfl rfl rfl (v_move (v := (Value.bool (false))) rfl) ?_
      refine rl_p (wanted_n rfl (yE_of rfl rfl) rfl) rfl ?_
      refine rl_p (wanted_n rfl (yE_of rfl rfl) rfl) rfl ?_
      refine rl_p (wanted_n rfl (yE_of rfl rfl) rfl) rfl ?_
      refine rl_q rfl rfl rfl (v_pick_f (v := (Value.bool (false))) rfl rfl) ?_
      refine rl_q rfl rfl rfl (v_assign (v := (Value.bool (false))) rfl) ?_
      refine rl_end ?_
      exact wt_ret1 rfl rfl ⟨_, rfl, (hS.sel [] (by decide)), h⟩
  · replace h := h.2 hp
    refine rl_p (wanted_n rfl (yE_of rfl (congrArg Value.bool (Bool.eq_false_iff.2 hp))) rfl) rfl ?_
    refine rl_p (wanted_n rfl (yE_of rfl (congrArg Value.bool (Bool.eq_false_iff.2 hp))) rfl) rfl ?_
    refine rl_p (wanted_n rfl (yE_of rfl (congrArg Value.bool (Bool.eq_false_iff.2 hp))) rfl) rfl ?_
    refine rl_q rfl rfl rfl (v_pick_f (v := (Value.bool (false))) (congrArg Value.bool (Bool.eq_false_iff.2 hp)) rfl) ?_
    refine rl_q rfl rfl rfl (v_move (v := (Value.bool (false))) rfl) ?_
    refine rl_p (wanted_n rfl (yE_of rfl rfl) rfl) rfl ?_
    refine rl_p (wanted_n rfl (yE_of rfl rfl) rfl) rfl ?_
    refine rl_p (wanted_n rfl (yE_of rfl rfl) rfl) rfl ?_
    refine rl_p (wanted_n rfl (yE_of rfl rfl) rfl) rfl ?_
    refine rl_p (wanted_n rfl (yE_of rfl rfl) rfl) rfl ?_
    refine rl_q rfl rfl rfl (v_pick_f (v := (Value.bool (false))) rfl rfl) ?_
    refine rl_q rfl rfl rfl (v_move (v := (Value.bool (false))) rfl) ?_
    refine rl_p (wanted_n rfl (yE_of rfl rfl) rfl) rfl ?_
    refine rl_p (wanted_n rfl (yE_of rfl rfl) rfl) rfl ?_
    refine rl_p (wanted_n rfl (yE_of rfl rfl) rfl) rfl ?_
    refine rl_q rfl rfl rfl (v_pick_f (v := (Value.bool (false))) rfl rfl) ?_
    refine rl_q rfl rfl rfl (v_assign (v := (Value.bool (false))) rfl) ?_
    refine rl_end ?_
    exact wt_ret1 rfl rfl ⟨_, rfl, (hS.sel [] (by decide)), h⟩
end Go.Proofs.Ytnhmeckhlajeaaa

/- Pure forms of functions, made by program (pf.py), each with the proof that the code does so. -/
namespace Go.Proofs.Ytnhmeckhlajeaaa
open Go Go.RowKit Go.Shelf
set_option linter.unusedVariables false
set_option maxRecDepth 100000
set_option maxHeartbeats 1000000
/-- sandpile/sandpilelaw34.ReducedAdds: what it computes. -/
def pf_l34_ReducedAdds (d : Int) (d2 : List (Int × Int × Int)) (i : List Int) (a : Int) (a2 : Int) (R : Bool → Prop) : Prop :=
pf_l34_right d d2 i (fun (r : Bool) =>
((r = true →
((0 ≤ (0 : Int) ∧ (0 : Int) < 2) ∧
(In64 a ∧
(d ≠ 0 ∧
((0 ≤ (1 : Int) ∧ (1 : Int) < 2) ∧
((50 : Int) ≠ 0 ∧
(In64 (a2.tmod 50) ∧
pf_slices_Clone_Divisor i (fun (r2 : List Int) =>
((0 ≤ (a.tmod d) ∧ (a.tmod d) < ((r2.length : Nat) : Int)) ∧
(In64 ((gi r2 (a.tmod d).toNat) + (a2.tmod 50)) ∧
pf_r34_Low d d2 (r2.set (a.tmod d).toNat ((gi r2 (a.tmod d).toNat) + (a2.tmod 50))) (fun (r3 : Bool) =>
((r3 = true →
pf_reduced_Reduce d d2 (a.tmod d) i (fun (r4 : List Int) (r5 : List Int) (r6 : Int) =>
pf_reduced_Reduce d d2 (a.tmod d) (r2.set (a.tmod d).toNat ((gi r2 (a.tmod d).toNat) + (a2.tmod 50))) (fun (r7 : List Int) (r8 : List Int) (r9 : Int) =>
(∃ J2 : Prop, (J2 → (∃ I2 : Nat → Int → Prop, (∃ m0, I2 m0 0) ∧ ∀ (m2 : Nat) (v : Int), I2 m2 v → 
((v < d →
((v = (a.tmod d) →
((0 ≤ v ∧ v < ((r7.length : Nat) : Int)) ∧
((0 ≤ v ∧ v < ((r4.length : Nat) : Int)) ∧
(In64 ((gi r4 v.toNat) + (a2.tmod 50)) ∧
(((gi r7 v.toNat) = ((gi r4 v.toNat) + (a2.tmod 50)) →
(In64 (v + 1) ∧
∃ m3, m3 < m2 ∧ I2 m3 (v + 1))) ∧
(¬ ((gi r7 v.toNat) = ((gi r4 v.toNat) + (a2.tmod 50))) →
R false)))))) ∧
(¬ (v = (a.tmod d)) →
((0 ≤ v ∧ v < ((r7.length : Nat) : Int)) ∧
((0 ≤ v ∧ v < ((r4.length : Nat) : Int)) ∧
(((gi r7 v.toNat) = (gi r4 v.toNat) →
(In64 (v + 1) ∧
∃ m4, m4 < m2 ∧ I2 m4 (v + 1))) ∧
(¬ ((gi r7 v.toNat) = (gi r4 v.toNat)) →
R false))))))) ∧
(¬ (v < d) →
pf_l34_awake (fun (r10 : Bool) =>
R r10))))) ∧
((r6 = 0 →
((r9 = 0 →
((((r4.length : Nat) : Int) = d →
((((r7.length : Nat) : Int) = d →
pf_slices_Equal_Script r5 r8 (fun (r11 : Bool) =>
((r11 = true →
J2) ∧
(¬ (r11 = true) →
R false)))) ∧
(¬ (((r7.length : Nat) : Int) = d) →
R false))) ∧
(¬ (((r4.length : Nat) : Int) = d) →
R false))) ∧
(¬ (r9 = 0) →
R false))) ∧
(¬ (r6 = 0) →
R false)))))) ∧
(¬ (r3 = true) →
pf_l34_awake (fun (r12 : Bool) =>
R r12)))))))))))))) ∧
(¬ (r = true) →
pf_l34_awake (fun (r13 : Bool) =>
R r13))))
theorem pok_l34_ReducedAdds {O : Nat → Prop} {w : World} {d : Int} {d2 : List (Int × Int × Int)} {i : List Int} {a : Int} {a2 : Int} {Ad : Option Addr} {ld : Nat} {cd : Nat} {Ai : Option Addr} {li : Nat} {ci : Nat} {R : Bool → Prop} (h : pf_l34_ReducedAdds d d2 i a a2 R) (hO : ∀ k, O k → k < w.heap.size) (a0 : (FP.sl c3 Ad ld cd d2).P O w) (a1 : (FP.sl cI Ai li ci i).P O w) :
    Calls Try.prog 4 #[(Value.agg #[(Value.int .i64 d), (Value.slice Ad ld cd)]), (Value.slice Ai li ci), (Value.agg #[(Value.int .u8 a), (Value.int .u8 a2)])] w fun e w' => ∃ r14 : Bool, e = .returned (Value.bool (r14)) ∧ Sep w no O w' (rl []) ∧ R r14 := by
  unfold pf_l34_ReducedAdds at h
  have hS : Sep w no O w (rl [Res.ro (FP.sl c3 Ad ld cd d2), Res.ro (FP.sl cI Ai li ci i)]) := Sep.startl hO [(FP.sl c3 Ad ld cd d2), (FP.sl cI Ai li ci i)] ⟨a0, a1, trivial⟩
  refine calls_sh (l := [(Value.agg #[(Value.int .i64 d), (Value.slice Ad ld cd)]), (Value.slice Ai li ci), (Value.agg #[(Value.int .u8 a), (Value.int .u8 a2)])]) Try.func4 rfl Try.ntmps4 (Nat.le_of_ble_eq_true rfl) ?_
  refine wt_seq ?_
  refine wl_region wd_wide ?_
  refine rl_n rfl rfl rfl rfl (n_box (v := (Value.agg #[(Value.int .i64 d), (Value.slice Ad ld cd)])) rfl ?_)
  intro g w2 hN
  replace hS : Sep w no O w2 (stl _ 2 (Res.box 24 g [(Value.int .i64 d), (Value.slice Ad ld cd)])) := hS.new 2 rfl hN
  clear hN
  refine ⟨Stb.none _, ?_⟩
  refine rl_n rfl rfl rfl rfl (n_box (v := (Value.agg #[(Value.int .u8 a), (Value.int .u8 a2)])) rfl ?_)
  intro g2 w3 hN
  replace hS : Sep w no O w3 (stl _ 3 (Res.box 39 g2 [(Value.int .u8 a), (Value.int .u8 a2)])) := hS.new 3 rfl hN
  clear hN
  refine ⟨Stb.none _, ?_⟩
  refine rl_q rfl rfl rfl (v_assign (v := (Value.bool (false))) rfl) ?_
  refine rl_end ?_
  refine wt_seq ?_
  refine wt_seq ?_
  refine wl_region wd_wide ?_
  refine rl_q rfl rfl rfl (v_loadn (vs := [(Value.int .i64 d), (Value.slice Ad ld cd)]) rfl Try.underlying24 rfl info_24 ⟨Row.cell (hS.bx 2 rfl) (i := 0) rfl, Row.cell (hS.bx 2 rfl) (i := 1) rfl, trivial⟩) ?_
  refine rl_q rfl rfl rfl (v_move (v := (Value.slice Ai li ci)) rfl) ?_
  refine rl_n rfl rfl rfl rfl (n_call0 rfl (am2 rfl rfl) enter_21 ((pok_l34_right h (no_lt _) (hS.rdr 0 rfl) (hS.rdr 1 rfl)).mono ?_))
  rintro _ w4 ⟨r, rfl, hC, h⟩
  replace hS := hS.pur hC.pure
  clear hC
  refine ⟨_, rfl, ?_⟩
  refine ⟨Stb.none _, ?_⟩
  refine rl_q rfl rfl rfl (v_not rfl) ?_
  refine rl_end ?_
  by_cases hp : r = true
  · replace h := h.1 hp
    refine wt_cond_f (congrArg Value.bool (congrArg Bool.not hp)) ?_
    refine wt_skip ?_
    refine wt_seq ?_
    refine wp_draw [0, 1, 2, 3, 4, 5, 6, 7, 8, 9, 10, 11] st0 wd_wide (by kernel_rfl) (by kernel_rfl) ?_
    replace hS := hS.drew
    obtain ⟨hx, h⟩ := h
    refine rp_q rfl rfl rfl (v_iaddra rfl rfl Try.underlying39 info_5 hx) ?_
    refine rp_q rfl rfl rfl (v_load rfl Try.underlying5 rfl (Row.cell (hS.bx 3 rfl) (i := 0) rfl)) ?_
    obtain ⟨hi, h⟩ := h
    refine rp_q rfl rfl rfl (v_conv rfl Try.underlying5 Try.underlying3 hi) ?_
    refine rp_q rfl rfl rfl (v_faddr rfl Try.underlying24 rfl info_3) ?_
    refine rp_q rfl rfl rfl (v_load rfl Try.underlying3 rfl (Row.cell (hS.bx 2 rfl) (i := 0) rfl)) ?_
    obtain ⟨hz, h⟩ := h
    refine rp_q rfl rfl rfl (v_rem rfl rfl hz) ?_
    obtain ⟨hx2, h⟩ := h
    refine rp_q rfl rfl rfl (v_iaddra rfl rfl Try.underlying39 info_5 hx2) ?_
    refine rp_q rfl rfl rfl (v_load rfl Try.underlying5 rfl (Row.cell (hS.bx 3 rfl) (i := 1) rfl)) ?_
    obtain ⟨hz2, h⟩ := h
    refine rp_q rfl rfl rfl (v_remk rfl rfl hz2) ?_
    obtain ⟨hi2, h⟩ := h
    refine rp_q rfl rfl rfl (v_conv rfl Try.underlying5 Try.underlying3 hi2) ?_
    refine rp_q rfl rfl rfl (v_assign (v := (Value.int .i64 (a.tmod d))) rfl) ?_
    refine rp_q rfl rfl rfl (v_assign (v := (Value.int .i64 (a2.tmod 50))) rfl) ?_
    refine rp_end ?_
    refine wt_seq ?_
    refine wl_region wd_wide ?_
    refine rl_q rfl rfl rfl (v_move (v := (Value.slice Ai li ci)) rfl) ?_
    refine rl_n rfl rfl rfl rfl (n_call0 rfl (am1 rfl) enter_22 ((pok_slices_Clone_Divisor h (no_lt _) (hS.rdr 1 rfl)).mono ?_))
    rintro _ w5 ⟨r2, Ar, lr, cr, rfl, hC, h⟩
    replace hS := hS.call1 (hC.widen (flatS (flat_own (fI .i64) _ _ _ _ _) flat0) hS.blt) 4 0 rfl
    clear hC
    refine ⟨_, rfl, ?_⟩
    refine ⟨Stb.none _, ?_⟩
    refine rl_q rfl rfl rfl (v_assign (v := (Value.slice Ar lr cr)) rfl) ?_
    refine rl_end ?_
    refine wt_seq ?_
    refine wl_region wd_wide ?_
    refine rl_q rfl rfl rfl (v_move (v := (Value.slice Ar lr cr)) rfl) ?_
    refine rl_q rfl rfl rfl (v_move (v := (Value.int .i64 (a.tmod d))) rfl) ?_
    obtain ⟨hx3, h⟩ := h
    refine rl_q rfl rfl rfl (v_iaddr rfl rfl Try.underlying26 info_3 (rd_ix (hS.rdo 4 rfl) hx3)) ?_
    refine rl_q rfl rfl rfl (v_load (v := (Value.int .i64 (gi r2 (a.tmod d).toNat))) rfl Try.underlying3 rfl (rd_1 (hS.rdo 4 rfl) hx3 (fun q => gi_some q) rfl)) ?_
    refine rl_q rfl rfl rfl (v_move (v := (Value.int .i64 (a2.tmod 50))) rfl) ?_
    obtain ⟨hi3, h⟩ := h
    refine rl_q rfl rfl rfl (v_add rfl rfl hi3) ?_
    refine rl_q rfl rfl rfl (v_iaddr rfl rfl Try.underlying26 info_3 (rd_ix (hS.rdo 4 rfl) hx3)) ?_
    refine rl_n0 rfl rfl rfl (n_store (v := (Value.int .i64 ((gi r2 (a.tmod d).toNat) + (a2.tmod 50)))) rfl rfl rfl info_3 (hS.wr 4 rfl rfl hx3) ?_)
    intro w6 e1
    replace hS := hS.st 4 rfl rfl hx3 (x := (gi r2 (a.tmod d).toNat) + (a2.tmod 50)) rfl e1
    clear e1
    refine ⟨Stb.none _, ?_⟩
    refine rl_end ?_
    refine wt_seq ?_
    refine wt_seq ?_
    refine wl_region wd_wide ?_
    refine rl_q rfl rfl rfl (v_loadn (vs := [(Value.int .i64 d), (Value.slice Ad ld cd)]) rfl Try.underlying24 rfl info_24 ⟨Row.cell (hS.bx 2 rfl) (i := 0) rfl, Row.cell (hS.bx 2 rfl) (i := 1) rfl, trivial⟩) ?_
    refine rl_q rfl rfl rfl (v_move (v := (Value.slice Ar lr cr)) rfl) ?_
    refine rl_n rfl rfl rfl rfl (n_call0 rfl (am2 rfl rfl) enter_15 ((pok_r34_Low h (no_lt _) (hS.rdr 0 rfl) (hS.rdo 4 rfl)).mono ?_))
    rintro _ w7 ⟨r3, rfl, hC, h⟩
    replace hS := hS.pur hC.pure
    clear hC
    refine ⟨_, rfl, ?_⟩
    refine ⟨Stb.none _, ?_⟩
    refine rl_q rfl rfl rfl (v_not rfl) ?_
    refine rl_end ?_
    by_cases hp2 : r3 = true
    · replace h := h.1 hp2
      refine wt_cond_f (congrArg Value.bool (congrArg Bool.not hp2)) ?_
      refine wt_skip ?_
      refine wt_seq ?_
      refine wl_region wd_wide ?_
      refine rl_q rfl rfl rfl (v_loadn (vs := [(Value.int .i64 d), (Value.slice Ad ld cd)]) rfl Try.underlying24 rfl info_24 ⟨Row.cell (hS.bx 2 rfl) (i := 0) rfl, Row.cell (hS.bx 2 rfl) (i := 1) rfl, trivial⟩) ?_
      refine rl_q rfl rfl rfl (v_move (v := (Value.int .i64 (a.tmod d))) rfl) ?_
      refine rl_q rfl rfl rfl (v_move (v := (Value.slice Ai li ci)) rfl) ?_
      refine rl_n rfl rfl rfl rfl (n_call0 rfl (am3 rfl rfl rfl) enter_17 ((pok_reduced_Reduce h (no_lt _) (hS.rdr 0 rfl) (hS.rdr 1 rfl)).mono ?_))
      rintro _ w8 ⟨r4, r5, r6, Ar2, lr2, cr2, Ar3, lr3, cr3, rfl, hC, h⟩
      replace hS := hS.call2 (hC.widen (flatS (flat_own (fI .i64) _ _ _ _ _) (flatS (flat_own (fI .i64) _ _ _ _ _) flat0)) hS.blt) 5 0 6 1 rfl rfl (by decide) (by decide)
      clear hC
      refine ⟨_, rfl, ?_⟩
      refine ⟨Stb.none _, ?_⟩
      refine rl_q rfl rfl rfl (v_move (v := (Value.tuple #[(Value.slice Ar2 lr2 cr2), (Value.slice Ar3 lr3 cr3), (Value.int .i64 r6)])) rfl) ?_
      refine rl_q rfl rfl rfl (v_extract (v := (Value.slice Ar2 lr2 cr2)) rfl rfl) ?_
      refine rl_q rfl rfl rfl (v_extract (v := (Value.slice Ar3 lr3 cr3)) rfl rfl) ?_
      refine rl_q rfl rfl rfl (v_extract (v := (Value.int .i64 r6)) rfl rfl) ?_
      refine rl_q rfl rfl rfl (v_assign (v := (Value.slice Ar2 lr2 cr2)) rfl) ?_
      refine rl_q rfl rfl rfl (v_assign (v := (Value.slice Ar3 lr3 cr3)) rfl) ?_
      refine rl_q rfl rfl rfl (v_assign (v := (Value.int .i64 r6)) rfl) ?_
      refine rl_end ?_
      refine wt_seq ?_
      refine wl_region wd_wide ?_
      refine rl_q rfl rfl rfl (v_loadn (vs := [(Value.int .i64 d), (Value.slice Ad ld cd)]) rfl Try.underlying24 rfl info_24 ⟨Row.cell (hS.bx 2 rfl) (i := 0) rfl, Row.cell (hS.bx 2 rfl) (i := 1) rfl, trivial⟩) ?_
      refine rl_q rfl rfl rfl (v_move (v := (Value.int .i64 (a.tmod d))) rfl) ?_
      refine rl_q rfl rfl rfl (v_move (v := (Value.slice Ar lr cr)) rfl) ?_
      refine rl_n rfl rfl rfl rfl (n_call0 rfl (am3 rfl rfl rfl) enter_17 ((pok_reduced_Reduce h (no_lt _) (hS.rdr 0 rfl) (hS.rdo 4 rfl)).mono ?_))
      rintro _ w9 ⟨r7, r8, r9, Ar4, lr4, cr4, Ar5, lr5, cr5, rfl, hC, h⟩
      replace hS := hS.call2 (hC.widen (flatS (flat_own (fI .i64) _ _ _ _ _) (flatS (flat_own (fI .i64) _ _ _ _ _) flat0)) hS.blt) 7 0 8 1 rfl rfl (by decide) (by decide)
      clear hC
      refine ⟨_, rfl, ?_⟩
      refine ⟨Stb.none _, ?_⟩
      refine rl_q rfl rfl rfl (v_move (v := (Value.tuple #[(Value.slice Ar4 lr4 cr4), (Value.slice Ar5 lr5 cr5), (Value.int .i64 r9)])) rfl) ?_
      refine rl_q rfl rfl rfl (v_extract (v := (Value.slice Ar4 lr4 cr4)) rfl rfl) ?_
      refine rl_q rfl rfl rfl (v_extract (v := (Value.slice Ar5 lr5 cr5)) rfl rfl) ?_
      refine rl_q rfl rfl rfl (v_extract (v := (Value.int .i64 r9)) rfl rfl) ?_
      refine rl_q rfl rfl rfl (v_assign (v := (Value.slice Ar4 lr4 cr4)) rfl) ?_
      refine rl_q rfl rfl rfl (v_assign (v := (Value.slice Ar5 lr5 cr5)) rfl) ?_
      refine rl_q rfl rfl rfl (v_assign (v := (Value.int .i64 r9)) rfl) ?_
      refine rl_end ?_
      refine wt_seq ?_
      refine wt_seq ?_
      obtain ⟨J2, hJ, h⟩ := h
      refine wt_cutT1 (fun E ds w' => J2 ∧ ds = [] ∧ E 3 = (Value.pointer (some (⟨g, 0, none⟩ : Addr))) ∧ E 7 = (Value.int .i64 (a.tmod d)) ∧ E 8 = (Value.int .i64 (a2.tmod 50)) ∧ E 10 = (Value.slice Ar2 lr2 cr2) ∧ E 13 = (Value.slice Ar4 lr4 cr4) ∧ Sep w no O w' (rl [Res.box 24 g [(Value.int .i64 d), (Value.slice Ad ld cd)], Res.ro (FP.sl c3 Ad ld cd d2), Res.own cI 3 Ar2 lr2 cr2 r4, Res.own cI 3 Ar4 lr4 cr4 r7])) ?_ ?_
      · clear h hS
        rintro E ds w10 ⟨h, rfl, hE3, hE7, hE8, hE10, hE13, hS⟩
        replace h := hJ h
        refine wt_seq ?_
        refine wt_seq ?_
        refine wl_region wd_wide ?_
        refine rl_q rfl rfl rfl (v_faddr hE3 Try.underlying24 rfl info_3) ?_
        refine rl_q rfl rfl rfl (v_load rfl Try.underlying3 rfl (Row.cell (hS.bx 0 rfl) (i := 0) rfl)) ?_
        refine rl_q rfl rfl rfl (v_move (v := (Value.int .i64 0)) rfl) ?_
        refine rl_end ?_
        refine wt_block ?_
        obtain ⟨I2, ⟨m0, h0⟩, hr⟩ := h
        refine wt_loop (fun m E ds w' => ∃ v : Int, I2 m v ∧ ds = [] ∧ E 7 = (Value.int .i64 (a.tmod d)) ∧ E 8 = (Value.int .i64 (a2.tmod 50)) ∧ E 10 = (Value.slice Ar2 lr2 cr2) ∧ E 13 = (Value.slice Ar4 lr4 cr4) ∧ E 89 = (Value.int .i64 d) ∧ E 90 = (Value.int .i64 v) ∧ Sep w no O w' (rl [Res.own cI 3 Ar2 lr2 cr2 r4, Res.own cI 3 Ar4 lr4 cr4 r7])) m0 ⟨_, h0, rfl, hE7, hE8, hE10, hE13, rfl, rfl, (hS.sel [2, 3] (by decide))⟩ ?_
        clear h0 hS
        rintro m2 E ds w11 ⟨v, h, rfl, hE7, hE8, hE10, hE13, hE89, hE90, hS⟩ again
        replace h := hr m2 v h
        clear hr
        refine wt_seq ?_
        refine wl_region wd_wide ?_
        refine rl_q rfl rfl rfl (v_lss hE90 hE89) ?_
        refine rl_end ?_
        refine wt_seq ?_
        by_cases hp3 : v < d
        · replace h := h.1 hp3
          refine wt_cond_t (congrArg Value.bool (decide_eq_true hp3)) ?_
          refine wt_skip ?_
          refine wt_seq ?_
          refine wt_block ?_
          refine wt_seq ?_
          refine wl_region wd_wide ?_
          refine rl_q rfl rfl rfl (v_move (v := (Value.int .i64 v)) hE90) ?_
          refine rl_q rfl rfl rfl (v_assign (v := (Value.int .i64 v)) rfl) ?_
          refine rl_end ?_
          refine wt_seq ?_
          refine wp_draw [0, 1, 2, 3, 4, 5, 6, 7, 8, 9, 10, 11, 12, 13, 14, 15, 16, 17, 18, 19, 20, 21, 22, 23, 24, 25, 26, 27, 28, 29, 30, 31] st0 wd_wide (by kernel_rfl) (by kernel_rfl) ?_
          replace hS := hS.drew
          refine rp_q rfl rfl rfl (v_move (v := (Value.int .i64 v)) rfl) ?_
          refine rp_q rfl rfl rfl (v_move (v := (Value.int .i64 (a.tmod d))) hE7) ?_
          refine rp_q rfl rfl rfl (v_eql rfl rfl) ?_
          refine rp_q rfl rfl rfl (v_move (v := (Value.bool (decide (v = (a.tmod d))))) rfl) ?_
          by_cases hp4 : v = (a.tmod d)
          · replace h := h.1 hp4
            refine rp_q (wanted_g rfl (yE_of rfl (congrArg Value.bool (decide_eq_true hp4)))) rfl rfl (v_move (v := (Value.slice Ar4 lr4 cr4)) hE13) ?_
            refine rp_q (wanted_g rfl (yE_of rfl (congrArg Value.bool (decide_eq_true hp4)))) rfl rfl (v_move (v := (Value.int .i64 v)) rfl) ?_
            obtain ⟨hx4, h⟩ := h
            refine rp_q (wanted_g rfl (yE_of rfl (congrArg Value.bool (decide_eq_true hp4)))) rfl rfl (v_iaddr rfl rfl Try.underlying26 info_3 (rd_ix (hS.rdo 1 rfl) hx4)) ?_
            refine rp_q (wanted_g rfl (yE_of rfl (congrArg Value.bool (decide_eq_true hp4)))) rfl rfl (v_load (v := (Value.int .i64 (gi r7 v.toNat))) rfl Try.underlying3 rfl (rd_1 (hS.rdo 1 rfl) hx4 (fun q => gi_some q) rfl)) ?_
            refine rp_q (wanted_g rfl (yE_of rfl (congrArg Value.bool (decide_eq_true hp4)))) rfl rfl (v_move (v := (Value.slice Ar2 lr2 cr2)) hE10) ?_
            refine rp_q (wanted_g rfl (yE_of rfl (congrArg Value.bool (decide_eq_true hp4)))) rfl rfl (v_move (v := (Value.int .i64 v)) rfl) ?_
            obtain ⟨hx5, h⟩ := h
            refine rp_q (wanted_g rfl (yE_of rfl (congrArg Value.bool (decide_eq_true hp4)))) rfl rfl (v_iaddr rfl rfl Try.underlying26 info_3 (rd_ix (hS.rdo 0 rfl) hx5)) ?_
            refine rp_q (wanted_g rfl (yE_of rfl (congrArg Value.bool (decide_eq_true hp4)))) rfl rfl (v_load (v := (Value.int .i64 (gi r4 v.toNat))) rfl Try.underlying3 rfl (rd_1 (hS.rdo 0 rfl) hx5 (fun q => gi_some q) rfl)) ?_
            refine rp_q (wanted_g rfl (yE_of rfl (congrArg Value.bool (decide_eq_true hp4)))) rfl rfl (v_move (v := (Value.int .i64 (a2.tmod 50))) hE8) ?_
            obtain ⟨hi4, h⟩ := h
            refine rp_q (wanted_g rfl (yE_of rfl (congrArg Value.bool (decide_eq_true hp4)))) rfl rfl (v_add rfl rfl hi4) ?_
            refine rp_q (wanted_g rfl (yE_of rfl (congrArg Value.bool (decide_eq_true hp4)))) rfl rfl (v_neq rfl rfl) ?_
            refine rp_q rfl rfl rfl (v_pick_t (v := (Value.bool (!(decide ((gi r7 v.toNat) = ((gi r4 v.toNat) + (a2.tmod 50))))))) (congrArg Value.bool (decide_eq_true hp4)) rfl) ?_
            refine rp_q rfl rfl rfl (v_move (v := (Value.bool (!(decide ((gi r7 v.toNat) = ((gi r4 v.toNat) + (a2.tmod 50))))))) rfl) ?_
            by_cases hp5 : (gi r7 v.toNat) = ((gi r4 v.toNat) + (a2.tmod 50))
            · replace h := h.1 hp5
              refine rp_q (wanted_g rfl (yE_of rfl (congrArg Value.bool (congrArg Bool.not (decide_eq_true hp5))))) rfl rfl (v_move (v := (Value.int .i64 v)) rfl) ?_
              refine rp_q (wanted_g rfl (yE_of rfl (congrArg Value.bool (congrArg Bool.not (decide_eq_true hp5))))) rfl rfl (v_move (v := (Value.int .i64 (a.tmod d))) hE7) ?_
              refine rp_q (wanted_g rfl (yE_of rfl (congrArg Value.bool (congrArg Bool.not (decide_eq_true hp5))))) rfl rfl (v_neq rfl rfl) ?_
              refine rp_q (wanted_g rfl (yE_of rfl (congrArg Value.bool (congrArg Bool.not (decide_eq_true hp5))))) rfl rfl (v_move (v := (Value.bool (!(decide (v = (a.tmod d)))))) rfl) ?_
              refine rp_p (wanted_n rfl (yE_of rfl (congrArg Value.bool (congrArg Bool.not (decide_eq_true hp4)))) rfl) rfl ?_
              refine rp_p (wanted_n rfl (yE_of rfl (congrArg Value.bool (congrArg Bool.not (decide_eq_true hp4)))) rfl) rfl ?_
              refine rp_p (wanted_n rfl (yE_of rfl (congrArg Value.bool (congrArg Bool.not (decide_eq_true hp4)))) rfl) rfl ?_
              refine rp_p (wanted_n rfl (yE_of rfl (congrArg Value.bool (congrArg Bool.not (decide_eq_true hp4)))) rfl) rfl ?_
              refine rp_p (wanted_n rfl (yE_of rfl (congrArg Value.bool (congrArg Bool.not (decide_eq_true hp4)))) rfl) rfl ?_
              refine rp_p (wanted_n rfl (yE_of rfl (congrArg Value.bool (congrArg Bool.not (decide_eq_true hp4)))) rfl) rfl ?_
              refine rp_p (wanted_n rfl (yE_of rfl (congrArg Value.bool (congrArg Bool.not (decide_eq_true hp4)))) rfl) rfl ?_
              refine rp_p (wanted_n rfl (yE_of rfl (congrArg Value.bool (congrArg Bool.not (decide_eq_true hp4)))) rfl) rfl ?_
              refine rp_p (wanted_n rfl (yE_of rfl (congrArg Value.bool (congrArg Bool.not (decide_eq_true hp4)))) rfl) rfl ?_
              refine rp_q (wanted_g rfl (yE_of rfl (congrArg Value.bool (congrArg Bool.not (decide_eq_true hp5))))) rfl rfl (v_pick_f (v := (Value.bool (false))) (congrArg Value.bool (congrArg Bool.not (decide_eq_true hp4))) rfl) ?_
              refine rp_q rfl rfl rfl (v_pick_f (v := (Value.bool (false))) (congrArg Value.bool (congrArg Bool.not (decide_eq_true hp5))) rfl) ?_
              refine rp_end ?_
              refine wt_cond_f rfl ?_
              refine wt_skip ?_
              refine wt_inBlock ?_
              refine wl_region wd_wide ?_
              obtain ⟨hi5, h⟩ := h
              refine rl_q rfl rfl rfl (v_add hE90 rfl hi5) ?_
              refine rl_q rfl rfl rfl (v_move (v := (Value.int .i64 (v + 1))) rfl) ?_
              refine rl_end ?_
              obtain ⟨mq, hlt, h⟩ := h
              exact again mq _ _ _ ⟨_, h, rfl, hE7, hE8, hE10, hE13, hE89, rfl, (hS.sel [0, 1] (by decide))⟩ hlt
            · replace h := h.2 hp5
              refine rp_p (wanted_n rfl (yE_of rfl (congrArg Value.bool (congrArg Bool.not (decide_eq_false hp5)))) rfl) rfl ?_
              refine rp_p (wanted_n rfl (yE_of rfl (congrArg Value.bool (congrArg Bool.not (decide_eq_false hp5)))) rfl) rfl ?_
              refine rp_p (wanted_n rfl (yE_of rfl (congrArg Value.bool (congrArg Bool.not (decide_eq_false hp5)))) rfl) rfl ?_
              refine rp_p (wanted_n rfl (yE_of rfl (congrArg Value.bool (congrArg Bool.not (decide_eq_false hp5)))) rfl) rfl ?_
              refine rp_p (wanted_u rfl rfl) rfl ?_
              refine rp_p (wanted_u rfl rfl) rfl ?_
              refine rp_p (wanted_u rfl rfl) rfl ?_
              refine rp_p (wanted_u rfl rfl) rfl ?_
              refine rp_p (wanted_u rfl rfl) rfl ?_
              refine rp_p (wanted_u rfl rfl) rfl ?_
              refine rp_p (wanted_u rfl rfl) rfl ?_
              refine rp_p (wanted_u rfl rfl) rfl ?_
              refine rp_p (wanted_u rfl rfl) rfl ?_
              refine rp_p (wanted_n rfl (yE_of rfl (congrArg Value.bool (congrArg Bool.not (decide_eq_false hp5)))) rfl) rfl ?_
              refine rp_q rfl rfl rfl (v_pick_t (v := (Value.bool (true))) (congrArg Value.bool (congrArg Bool.not (decide_eq_false hp5))) rfl) ?_
              refine rp_end ?_
              refine wt_cond_t rfl ?_
              refine wt_seq ?_
              refine wl_region wd_wide ?_
              refine rl_q rfl rfl rfl (v_assign (v := (Value.bool (false))) rfl) ?_
              refine rl_end ?_
              exact wt_ret1 rfl rfl ⟨_, rfl, (hS.sel [] (by decide)), h⟩
          · replace h := h.2 hp4
            refine rp_p (wanted_n rfl (yE_of rfl (congrArg Value.bool (decide_eq_false hp4))) rfl) rfl ?_
            refine rp_p (wanted_n rfl (yE_of rfl (congrArg Value.bool (decide_eq_false hp4))) rfl) rfl ?_
            refine rp_p (wanted_n rfl (yE_of rfl (congrArg Value.bool (decide_eq_false hp4))) rfl) rfl ?_
            refine rp_p (wanted_n rfl (yE_of rfl (congrArg Value.bool (decide_eq_false hp4))) rfl) rfl ?_
            refine rp_p (wanted_n rfl (yE_of rfl (congrArg Value.bool (decide_eq_false hp4))) rfl) rfl ?_
            refine rp_p (wanted_n rfl (yE_of rfl (congrArg Value.bool (decide_eq_false hp4))) rfl) rfl ?_
            refine rp_p (wanted_n rfl (yE_of rfl (congrArg Value.bool (decide_eq_false hp4))) rfl) rfl ?_
            refine rp_p (wanted_n rfl (yE_of rfl (congrArg Value.bool (decide_eq_false hp4))) rfl) rfl ?_
            refine rp_p (wanted_n rfl (yE_of rfl (congrArg Value.bool (decide_eq_false hp4))) rfl) rfl ?_
            refine rp_p (wanted_n rfl (yE_of rfl (congrArg Value.bool (decide_eq_false hp4))) rfl) rfl ?_
            refine rp_p (wanted_n rfl (yE_of rfl (congrArg Value.bool (decide_eq_false hp4))) rfl) rfl ?_
            refine rp_q rfl rfl rfl (v_pick_f (v := (Value.bool (false))) (congrArg Value.bool (decide_eq_false hp4)) rfl) ?_
            refine rp_q rfl rfl rfl (v_move (v := (Value.bool (false))) rfl) ?_
            refine rp_q (wanted_g rfl (yE_of rfl rfl)) rfl rfl (v_move (v := (Value.int .i64 v)) rfl) ?_
            refine rp_q (wanted_g rfl (yE_of rfl rfl)) rfl rfl (v_move (v := (Value.int .i64 (a.tmod d))) hE7) ?_
            refine rp_q (wanted_g rfl (yE_of rfl rfl)) rfl rfl (v_neq rfl rfl) ?_
            refine rp_q (wanted_g rfl (yE_of rfl rfl)) rfl rfl (v_move (v := (Value.bool (!(decide (v = (a.tmod d)))))) rfl) ?_
            refine rp_q (wanted_g rfl (yE_of rfl (congrArg Value.bool (congrArg Bool.not (decide_eq_false hp4))))) rfl rfl (v_move (v := (Value.slice Ar4 lr4 cr4)) hE13) ?_
            refine rp_q (wanted_g rfl (yE_of rfl (congrArg Value.bool (congrArg Bool.not (decide_eq_false hp4))))) rfl rfl (v_move (v := (Value.int .i64 v)) rfl) ?_
            obtain ⟨hx6, h⟩ := h
            refine rp_q (wanted_g rfl (yE_of rfl (congrArg Value.bool (congrArg Bool.not (decide_eq_false hp4))))) rfl rfl (v_iaddr rfl rfl Try.underlying26 info_3 (rd_ix (hS.rdo 1 rfl) hx6)) ?_
            refine rp_q (wanted_g rfl (yE_of rfl (congrArg Value.bool (congrArg Bool.not (decide_eq_false hp4))))) rfl rfl (v_load (v := (Value.int .i64 (gi r7 v.toNat))) rfl Try.underlying3 rfl (rd_1 (hS.rdo 1 rfl) hx6 (fun q => gi_some q) rfl)) ?_
            refine rp_q (wanted_g rfl (yE_of rfl (congrArg Value.bool (congrArg Bool.not (decide_eq_false hp4))))) rfl rfl (v_move (v := (Value.slice Ar2 lr2 cr2)) hE10) ?_
            refine rp_q (wanted_g rfl (yE_of rfl (congrArg Value.bool (congrArg Bool.not (decide_eq_false hp4))))) rfl rfl (v_move (v := (Value.int .i64 v)) rfl) ?_
            obtain ⟨hx7, h⟩ := h
            refine rp_q (wanted_g rfl (yE_of rfl (congrArg Value.bool (congrArg Bool.not (decide_eq_false hp4))))) rfl rfl (v_iaddr rfl rfl Try.underlying26 info_3 (rd_ix (hS.rdo 0 rfl) hx7)) ?_
            refine rp_q (wanted_g rfl (yE_of rfl (congrArg Value.bool (congrArg Bool.not (decide_eq_false hp4))))) rfl rfl (v_load (v := (Value.int .i64 (gi r4 v.toNat))) rfl Try.underlying3 rfl (rd_1 (hS.rdo 0 rfl) hx7 (fun q => gi_some q) rfl)) ?_
            refine rp_q (wanted_g rfl (yE_of rfl (congrArg Value.bool (congrArg Bool.not (decide_eq_false hp4))))) rfl rfl (v_neq rfl rfl) ?_
            refine rp_q (wanted_g rfl (yE_of rfl rfl)) rfl rfl (v_pick_t (v := (Value.bool (!(decide ((gi r7 v.toNat) = (gi r4 v.toNat)))))) (congrArg Value.bool (congrArg Bool.not (decide_eq_false hp4))) rfl) ?_
            refine rp_q rfl rfl rfl (v_pick_f (v := (Value.bool (!(decide ((gi r7 v.toNat) = (gi r4 v.toNat)))))) rfl rfl) ?_
            refine rp_end ?_
            by_cases hp6 : (gi r7 v.toNat) = (gi r4 v.toNat)
            · replace h := h.1 hp6
              refine wt_cond_f (congrArg Value.bool (congrArg Bool.not (decide_eq_true hp6))) ?_
              refine wt_skip ?_
              refine wt_inBlock ?_
              refine wl_region wd_wide ?_
              obtain ⟨hi6, h⟩ := h
              refine rl_q rfl rfl rfl (v_add hE90 rfl hi6) ?_
              refine rl_q rfl rfl rfl (v_move (v := (Value.int .i64 (v + 1))) rfl) ?_
              refine rl_end ?_
              obtain ⟨mq, hlt, h⟩ := h
              exact again mq _ _ _ ⟨_, h, rfl, hE7, hE8, hE10, hE13, hE89, rfl, (hS.sel [0, 1] (by decide))⟩ hlt
            · replace h := h.2 hp6
              refine wt_cond_t (congrArg Value.bool (congrArg Bool.not (decide_eq_false hp6))) ?_
              refine wt_seq ?_
              refine wl_region wd_wide ?_
              refine rl_q rfl rfl rfl (v_assign (v := (Value.bool (false))) rfl) ?_
              refine rl_end ?_
              exact wt_ret1 rfl rfl ⟨_, rfl, (hS.sel [] (by decide)), h⟩
        · replace h := h.2 hp3
          refine wt_cond_f (congrArg Value.bool (decide_eq_false hp3)) ?_
          refine wt_exit rfl ?_
          refine wt_seq ?_
          refine wl_region wd_wide ?_
          refine rl_n rfl rfl rfl rfl (n_call0 rfl (am0) enter_16 ((pok_l34_awake h (no_lt _)).mono ?_))
          rintro _ w12 ⟨r10, rfl, hC, h⟩
          replace hS := hS.pur hC.pure
          clear hC
          refine ⟨_, rfl, ?_⟩
          refine ⟨Stb.none _, ?_⟩
          refine rl_q rfl rfl rfl (v_assign (v := (Value.bool (r10))) rfl) ?_
          refine rl_end ?_
          exact wt_ret1 rfl rfl ⟨_, rfl, (hS.sel [] (by decide)), h⟩
      clear hJ
      intro j
      refine wl_region wd_wide ?_
      refine rl_q rfl rfl rfl (v_move (v := (Value.int .i64 r6)) rfl) ?_
      refine rl_q rfl rfl rfl (v_neq rfl rfl) ?_
      refine rl_q rfl rfl rfl (v_move (v := (Value.bool (!(decide (r6 = 0))))) rfl) ?_
      by_cases hp7 : r6 = 0
      · replace h := h.1 hp7
        refine rl_q (wanted_g rfl (yE_of rfl (congrArg Value.bool (congrArg Bool.not (decide_eq_true hp7))))) rfl rfl (v_move (v := (Value.int .i64 r9)) rfl) ?_
        refine rl_q (wanted_g rfl (yE_of rfl (congrArg Value.bool (congrArg Bool.not (decide_eq_true hp7))))) rfl rfl (v_neq rfl rfl) ?_
        refine rl_q rfl rfl rfl (v_pick_f (v := (Value.bool (!(decide (r9 = 0))))) (congrArg Value.bool (congrArg Bool.not (decide_eq_true hp7))) rfl) ?_
        refine rl_q rfl rfl rfl (v_move (v := (Value.bool (!(decide (r9 = 0))))) rfl) ?_
        by_cases hp8 : r9 = 0
        · replace h := h.1 hp8
          refine rl_q (wanted_g rfl (yE_of rfl (congrArg Value.bool (congrArg Bool.not (decide_eq_true hp8))))) rfl rfl (v_move (v := (Value.slice Ar2 lr2 cr2)) rfl) ?_
          refine rl_q (wanted_g rfl (yE_of rfl (congrArg Value.bool (congrArg Bool.not (decide_eq_true hp8))))) rfl rfl (v_lenx (n := r4.length) rfl Try.underlying26 (rd_len (hS.rdo 5 rfl))) ?_
          refine rl_q (wanted_g rfl (yE_of rfl (congrArg Value.bool (congrArg Bool.not (decide_eq_true hp8))))) rfl rfl (v_faddr rfl Try.underlying24 rfl info_3) ?_
          refine rl_q (wanted_g rfl (yE_of rfl (congrArg Value.bool (congrArg Bool.not (decide_eq_true hp8))))) rfl rfl (v_load rfl Try.underlying3 rfl (Row.cell (hS.bx 2 rfl) (i := 0) rfl)) ?_
          refine rl_q (wanted_g rfl (yE_of rfl (congrArg Value.bool (congrArg Bool.not (decide_eq_true hp8))))) rfl rfl (v_neq rfl rfl) ?_
          refine rl_q rfl rfl rfl (v_pick_f (v := (Value.bool (!(decide (((r4.length : Nat) : Int) = d))))) (congrArg Value.bool (congrArg Bool.not (decide_eq_true hp8))) rfl) ?_
          refine rl_q rfl rfl rfl (v_move (v := (Value.bool (!(decide (((r4.length : Nat) : Int) = d))))) rfl) ?_
          by_cases hp9 : ((r4.length : Nat) : Int) = d
          · replace h := h.1 hp9
            refine rl_q (wanted_g rfl (yE_of rfl (congrArg Value.bool (congrArg Bool.not (decide_eq_true hp9))))) rfl rfl (v_move (v := (Value.slice Ar4 lr4 cr4)) rfl) ?_
            refine rl_q (wanted_g rfl (yE_of rfl (congrArg Value.bool (congrArg Bool.not (decide_eq_true hp9))))) rfl rfl (v_lenx (n := r7.length) rfl Try.underlying26 (rd_len (hS.rdo 7 rfl))) ?_
            refine rl_q (wanted_g rfl (yE_of rfl (congrArg Value.bool (congrArg Bool.not (decide_eq_true hp9))))) rfl rfl (v_faddr rfl Try.underlying24 rfl info_3) ?_
            refine rl_q (wanted_g rfl (yE_of rfl (congrArg Value.bool (congrArg Bool.not (decide_eq_true hp9))))) rfl rfl (v_load rfl Try.underlying3 rfl (Row.cell (hS.bx 2 rfl) (i := 0) rfl)) ?_
            refine rl_q (wanted_g rfl (yE_of rfl (congrArg Value.bool (congrArg Bool.not (decide_eq_true hp9))))) rfl rfl (v_neq rfl rfl) ?_
            refine rl_q rfl rfl rfl (v_pick_f (v := (Value.bool (!(decide (((r7.length : Nat) : Int) = d))))) (congrArg Value.bool (congrArg Bool.not (decide_eq_true hp9))) rfl) ?_
            refine rl_q rfl rfl rfl (v_move (v := (Value.bool (!(decide (((r7.length : Nat) : Int) = d))))) rfl) ?_
            by_cases hp10 : ((r7.length : Nat) : Int) = d
            · replace h := h.1 hp10
              refine rl_q (wanted_g rfl (yE_of rfl (congrArg Value.bool (congrArg Bool.not (decide_eq_true hp10))))) rfl rfl (v_move (v := (Value.slice Ar3 lr3 cr3)) rfl) ?_
              refine rl_q (wanted_g rfl (yE_of rfl (congrArg Value.bool (congrArg Bool.not (decide_eq_true hp10))))) rfl rfl (v_move (v := (Value.slice Ar5 lr5 cr5)) rfl) ?_
              refine rl_n (wanted_g rfl (yE_of rfl (congrArg Value.bool (congrArg Bool.not (decide_eq_true hp10))))) rfl rfl rfl (n_call0 rfl (am2 rfl rfl) enter_20 ((pok_slices_Equal_Script h (no_lt _) (hS.rdo 6 rfl) (hS.rdo 8 rfl)).mono ?_))
              rintro _ w13 ⟨r11, rfl, hC, h⟩
              replace hS := hS.pur hC.pure
              clear hC
              refine ⟨_, rfl, ?_⟩
              refine ⟨Stb.none _, ?_⟩
              refine rl_q (wanted_g rfl (yE_of rfl (congrArg Value.bool (congrArg Bool.not (decide_eq_true hp10))))) rfl rfl (v_not rfl) ?_
              refine rl_q rfl rfl rfl (v_pick_f (v := (Value.bool (!(r11)))) (congrArg Value.bool (congrArg Bool.not (decide_eq_true hp10))) rfl) ?_
              refine rl_end ?_
              by_cases hp11 : r11 = true
              · replace h := h.1 hp11
                refine wt_cond_f (congrArg Value.bool (congrArg Bool.not hp11)) ?_
                refine wt_skip ?_
                exact j _ _ _ ⟨h, rfl, rfl, rfl, rfl, rfl, rfl, (hS.sel [2, 0, 5, 7] (by decide))⟩
              · replace h := h.2 hp11
                refine wt_cond_t (congrArg Value.bool (congrArg Bool.not (Bool.eq_false_iff.2 hp11))) ?_
                refine wt_seq ?_
                refine wl_region wd_wide ?_
                refine rl_q rfl rfl rfl (v_assign (v := (Value.bool (false))) rfl) ?_
                refine rl_end ?_
                exact wt_ret1 rfl rfl ⟨_, rfl, (hS.sel [] (by decide)), h⟩
            · replace h := h.2 hp10
              refine rl_p (wanted_n rfl (yE_of rfl (congrArg Value.bool (congrArg Bool.not (decide_eq_false hp10)))) rfl) rfl ?_
              refine rl_p (wanted_n rfl (yE_of rfl (congrArg Value.bool (congrArg Bool.not (decide_eq_false hp10)))) rfl) rfl ?_
              refine rl_p (wanted_n rfl (yE_of rfl (congrArg Value.bool (congrArg Bool.not (decide_eq_false hp10)))) rfl) rfl ?_
              refine rl_p (wanted_n rfl (yE_of rfl (congrArg Value.bool (congrArg Bool.not (decide_eq_false hp10)))) rfl) rfl ?_
              refine rl_q rfl rfl rfl (v_pick_t (v := (Value.bool (true))) (congrArg Value.bool (congrArg Bool.not (decide_eq_false hp10))) rfl) ?_
              refine rl_end ?_
              refine wt_cond_t rfl ?_
              refine wt_seq ?_
              refine wl_region wd_wide ?_
              refine rl_q rfl rfl rfl (v_assign (v := (Value.bool (false))) rfl) ?_
              refine rl_end ?_
              exact wt_ret1 rfl rfl ⟨_, rfl, (hS.sel [] (by decide)), h⟩
          · replace h := h.2 hp9
            refine rl_p (wanted_n rfl (yE_of rfl (congrArg Value.bool (congrArg Bool.not (decide_eq_false hp9)))) rfl) rfl ?_
            refine rl_p (wanted_n rfl (yE_of rfl (congrArg Value.bool (congrArg Bool.not (decide_eq_false hp9)))) rfl) rfl ?_
            refine rl_p (wanted_n rfl (yE_of rfl (congrArg Value.bool (congrArg Bool.not (decide_eq_false hp9)))) rfl) rfl ?_
            refine rl_p (wanted_n rfl (yE_of rfl (congrArg Value.bool (congrArg Bool.not (decide_eq_false hp9)))) rfl) rfl ?_
            refine rl_p (wanted_n rfl (yE_of rfl (congrArg Value.bool (congrArg Bool.not (decide_eq_false hp9)))) rfl) rfl ?_
            refine rl_q rfl rfl rfl (v_pick_t (v := (Value.bool (true))) (congrArg Value.bool (congrArg Bool.not (decide_eq_false hp9))) rfl) ?_
            refine rl_q rfl rfl rfl (v_move (v := (Value.bool (true))) rfl) ?_
            refine rl_p (wanted_n rfl (yE_of rfl rfl) rfl) rfl ?_
            refine rl_p (wanted_n rfl (yE_of rfl rfl) rfl) rfl ?_
            refine rl_p (wanted_n rfl (yE_of rfl rfl) rfl) rfl ?_
            refine rl_p (wanted_n rfl (yE_of rfl rfl) rfl) rfl ?_
            refine rl_q rfl rfl rfl (v_pick_t (v := (Value.bool (true))) rfl rfl) ?_
            refine rl_end ?_
            refine wt_cond_t rfl ?_
            refine wt_seq ?_
            refine wl_region wd_wide ?_
            refine rl_q rfl rfl rfl (v_assign (v := (Value.bool (false))) rfl) ?_
            refine rl_end ?_
            exact wt_ret1 rfl rfl ⟨_, rfl, (hS.sel [] (by decide)), h⟩
        · replace h := h.2 hp8
          refine rl_p (wanted_n rfl (yE_of rfl (congrArg Value.bool (congrArg Bool.not (decide_eq_false hp8)))) rfl) rfl ?_
          refine rl_p (wanted_n rfl (yE_of rfl (congrArg Value.bool (congrArg Bool.not (decide_eq_false hp8)))) rfl) rfl ?_
          refine rl_p (wanted_n rfl (yE_of rfl (congrArg Value.bool (congrArg Bool.not (decide_eq_false hp8)))) rfl) rfl ?_
          refine rl_p (wanted_n rfl (yE_of rfl (congrArg Value.bool (congrArg Bool.not (decide_eq_false hp8)))) rfl) rfl ?_
          refine rl_p (wanted_n rfl (yE_of rfl (congrArg Value.bool (congrArg Bool.not (decide_eq_false hp8)))) rfl) rfl ?_
          refine rl_q rfl rfl rfl (v_pick_t (v := (Value.bool (true))) (congrArg Value.bool (congrArg Bool.not (decide_eq_false hp8))) rfl) ?_
          refine rl_q rfl rfl rfl (v_move (v := (Value.bool (true))) rfl) ?_
          refine rl_p (wanted_n rfl (yE_of rfl rfl) rfl) rfl ?_
          refine rl_p (wanted_n rfl (yE_of rfl rfl) rfl) rfl ?_
          refine rl_p (wanted_n rfl (yE_of rfl rfl) rfl) rfl ?_
          refine rl_p (wanted_n rfl (yE_of rfl rfl) rfl) rfl ?_
          refine rl_p (wanted_n rfl (yE_of rfl rfl) rfl) rfl ?_
          refine rl_q rfl rfl rfl (v_pick_t (v := (Value.bool (true))) rfl rfl) ?_
          refine rl_q rfl rfl rfl (v_move (v := (Value.bool (true))) rfl) ?_
          refine rl_p (wanted_n rfl (yE_of rfl rfl) rfl) rfl ?_
          refine rl_p (wanted_n rfl (yE_of rfl rfl) rfl) rfl ?_
          refine rl_p (wanted_n rfl (yE_of rfl rfl) rfl) rfl ?_
          refine rl_p (wanted_n rfl (yE_of rfl rfl) rfl) rfl ?_
          refine rl_q rfl rfl rfl (v_pick_t (v := (Value.bool (true))) rfl rfl) ?_
          refine rl_end ?_
          refine wt_cond_t rfl ?_
          refine wt_seq ?_
          refine wl_region wd_wide ?_
          refine rl_q rfl rfl rfl (v_assign (v := (Value.bool (false))) rfl) ?_
          refine rl_end ?_
          exact wt_ret1 rfl rfl ⟨_, rfl, (hS.sel [] (by decide)), h⟩
      · replace h := h.2 hp7
        refine rl_p (wanted_n rfl (yE_of rfl (congrArg Value.bool (congrArg Bool.not (decide_eq_false hp7)))) rfl) rfl ?_
        refine rl_p (wanted_n rfl (yE_of rfl (congrArg Value.bool (congrArg Bool.not (decide_eq_false hp7)))) rfl) rfl ?_
        refine rl_q rfl rfl rfl (v_pick_t (v := (Value.bool (true))) (congrArg Value.bool (congrArg Bool.not (decide_eq_false hp7))) rfl) ?_
        refine rl_q rfl rfl rfl (v_move (v := (Value.bool (true))) rfl) ?_
        refine rl_p (wanted_n rfl (yE_of rfl rfl) rfl) rfl ?_
        refine rl_p (wanted_n rfl (yE_of rfl rfl) rfl) rfl ?_
        refine rl_p (wanted_n rfl (yE_of rfl rfl) rfl) rfl ?_
        refine rl_p (wanted_n rfl (yE_of rfl rfl) rfl) rfl ?_
        refine rl_p (wanted_n rfl (yE_of rfl rfl) rfl) rfl ?_
        refine rl_q rfl rfl rfl (v_pick_t (v := (Value.bool (true))) rfl rfl) ?_
        refine rl_q rfl rfl rfl (v_move (v := (Value.bool (true))) rfl) ?_
        refine rl_p (wanted_n rfl (yE_of rfl rfl) rfl) rfl ?_
        refine rl_p (wanted_n rfl (yE_of rfl rfl) rfl) rfl ?_
        refine rl_p (wanted_n rfl (yE_of rfl rfl) rfl) rfl ?_
        refine rl_p (wanted_n rfl (yE_of rfl rfl) rfl) rfl ?_
        refine rl_p (wanted_n rfl (yE_of rfl rfl) rfl) rfl ?_
        refine rl_q rfl rfl rfl (v_pick_t (v := (Value.bool (true))) rfl rfl) ?_
        refine rl_q rfl rfl rfl (v_move (v := (Value.bool (true))) rfl) ?_
        refine rl_p (wanted_n rfl (yE_of rfl rfl) rfl) rfl ?_
        refine rl_p (wanted_n rfl (yE_of rfl rfl) rfl) rfl ?_
        refine rl_p (wanted_n rfl (yE_of rfl rfl) rfl) rfl ?_
        refine rl_p (wanted_n rfl (yE_of rfl rfl) rfl) rfl ?_
        refine rl_q rfl rfl rfl (v_pick_t (v := (Value.bool (true))) rfl rfl) ?_
        refine rl_end ?_
        refine wt_cond_t rfl ?_
        refine wt_seq ?_
        refine wl_region wd_wide ?_
        refine rl_q rfl rfl rfl (v_assign (v := (Value.bool (false))) rfl) ?_
        refine rl_end ?_
        exact wt_ret1 rfl rfl ⟨_, rfl, (hS.sel [] (by decide)), h⟩
    · replace h := h.2 hp2
      refine wt_cond_t (congrArg Value.bool (congrArg Bool.not (Bool.eq_false_iff.2 hp2))) ?_
      refine wt_seq ?_
      refine wl_region wd_wide ?_
      refine rl_n rfl rfl rfl rfl (n_call0 rfl (am0) enter_16 ((pok_l34_awake h (no_lt _)).mono ?_))
      rintro _ w14 ⟨r12, rfl, hC, h⟩
      replace hS := hS.pur hC.pure
      clear hC
      refine ⟨_, rfl, ?_⟩
      refine ⟨Stb.none _, ?_⟩
      refine rl_q rfl rfl rfl (v_assign (v := (Value.bool (r12))) rfl) ?_
      refine rl_end ?_
      exact wt_ret1 rfl rfl ⟨_, rfl, (hS.sel [] (by decide)), h⟩
  · replace h := h.2 hp
    refine wt_cond_t (congrArg Value.bool (congrArg Bool.not (Bool.eq_false_iff.2 hp))) ?_
    refine wt_seq ?_
    refine wl_region wd_wide ?_
    refine rl_n rfl rfl rfl rfl (n_call0 rfl (am0) enter_16 ((pok_l34_awake h (no_lt _)).mono ?_))
    rintro _ w15 ⟨r13, rfl, hC, h⟩
    replace hS := hS.pur hC.pure
    clear hC
    refine ⟨_, rfl, ?_⟩
    refine ⟨Stb.none _, ?_⟩
    refine rl_q rfl rfl rfl (v_assign (v := (Value.bool (r13))) rfl) ?_
    refine rl_end ?_
    exact wt_ret1 rfl rfl ⟨_, rfl, (hS.sel [] (by decide)), h⟩
end Go.Proofs.Ytnhmeckhlajeaaa

/- Words for proofs from pure forms: loops that count up, lists that are filled from the left. No program in sight. -/
namespace Go.Proofs.Ytnhmeckhlajeaaa
open Go
set_option linter.unusedVariables false

/-- A loop that counts up to N: P holds at each count. -/
def Cnt (N : Nat) (P : Nat → Prop) (m : Nat) (v : Int) : Prop := ∃ k : Nat, m = N - k ∧ v = (k : Int) ∧ k ≤ N ∧ P k
theorem Cnt.start {N : Nat} {P : Nat → Prop} (h : P 0) : ∃ m0, Cnt N P m0 0 := ⟨N, 0, rfl, rfl, Nat.zero_le _, h⟩
theorem Cnt.next {N : Nat} {P : Nat → Prop} {k : Nat} (hk : k < N) (hN : N ≤ 1000000000000) (h : P (k + 1)) : In64 ((k : Int) + 1) ∧ ∃ m', m' < N - k ∧ Cnt N P m' ((k : Int) + 1) :=
  ⟨⟨by omega, by omega⟩, N - (k + 1), by omega, k + 1, rfl, by omega, by omega, h⟩
theorem Cnt.next' {N : Nat} {P : Nat → Prop} {k : Nat} (hk : k < N) (h : P (k + 1)) : ∃ m', m' < N - k ∧ Cnt N P m' ((k : Int) + 1) :=
  ⟨N - (k + 1), by omega, k + 1, rfl, by omega, by omega, h⟩
theorem Cnt.in {N k : Nat} (hk : k < N) (hN : N ≤ 1000000000000) : In64 ((k : Int) + 1) := ⟨by omega, by omega⟩

theorem i64 {a : Int} (h : -9000000000000000000 ≤ a ∧ a ≤ 9000000000000000000) : In64 a := ⟨by omega, by omega⟩
theorem rep_len {τ : Type} (n : Nat) (x : τ) : (List.replicate n x).length = n := List.length_replicate

/-- The list of f's values whose first k places are filled. -/
def upto (f : Nat → Int) (k n : Nat) : List Int := (List.range n).map fun i => if i < k then f i else 0
theorem upto_length (f : Nat → Int) (k n : Nat) : (upto f k n).length = n := by simp [upto]
theorem gi_upto (f : Nat → Int) (k n i : Nat) (hi : i < n) : gi (upto f k n) i = if i < k then f i else 0 := by
  rw [gi_of_lt (by rw [upto_length]; exact hi)]; simp [upto]
theorem upto_zero (f : Nat → Int) (n : Nat) : upto f 0 n = List.replicate n 0 := by
  refine List.ext_getElem (by simp [upto_length]) fun i h1 h2 => ?_
  simp [upto]
theorem upto_set (f : Nat → Int) {k n : Nat} (hk : k < n) : (upto f k n).set k (f k) = upto f (k + 1) n := by
  refine gi_ext (by simp [upto_length]) fun i hi => ?_
  rw [List.length_set, upto_length] at hi
  rw [gi_set (by rw [upto_length]; exact hk), gi_upto _ _ _ _ hi, gi_upto _ _ _ _ hi]
  by_cases e : i = k
  · subst e; simp
  · rw [if_neg e]
    by_cases h : i < k
    · rw [if_pos h, if_pos (by omega)]
    · rw [if_neg h, if_neg (by omega)]
/-- The list of f's first n values. -/
def tab (f : Nat → Int) (n : Nat) : List Int := (List.range n).map f
theorem tab_length (f : Nat → Int) (n : Nat) : (tab f n).length = n := by simp [tab]
theorem gi_tab (f : Nat → Int) {n i : Nat} (hi : i < n) : gi (tab f n) i = f i := by rw [gi_of_lt (by rw [tab_length]; exact hi)]; simp [tab]
theorem upto_all (f : Nat → Int) (n : Nat) : upto f n n = tab f n := by
  refine gi_ext (by simp [upto_length, tab_length]) fun i hi => ?_
  rw [upto_length] at hi
  rw [gi_upto _ _ _ _ hi, if_pos hi, gi_tab _ hi]
theorem tab_congr {f g : Nat → Int} {n : Nat} (h : ∀ i, i < n → f i = g i) : tab f n = tab g n := by
  refine gi_ext (by simp [tab_length]) fun i hi => ?_
  rw [tab_length] at hi
  rw [gi_tab _ hi, gi_tab _ hi, h i hi]
theorem tab_self {l : List Int} : tab (gi l) l.length = l := by
  refine gi_ext (by simp [tab_length]) fun i hi => ?_
  rw [tab_length] at hi
  rw [gi_tab _ hi]
theorem eq_tab {l : List Int} {n : Nat} (hl : l.length = n) (f : Nat → Int) (h : ∀ i, i < n → gi l i = f i) : l = tab f n := by
  subst hl
  refine gi_ext (by simp [tab_length]) fun i hi => ?_
  rw [h i hi, gi_tab _ hi]

theorem sm_bound {f : Nat → Int} {B : Int} (hB : 0 ≤ B) : ∀ {n : Nat}, (∀ i, i < n → -B ≤ f i ∧ f i ≤ B) → -(n * B) ≤ sm n f ∧ sm n f ≤ n * B
  | 0, _ => by simp [sm]
  | n + 1, h => by
    have ih := sm_bound hB (n := n) fun i hi => h i (by omega)
    have := h n (by omega)
    rw [sm, show ((n + 1 : Nat) : Int) * B = n * B + B by rw [Int.natCast_add, Int.add_mul]; simp]
    omega
/-- The degree. -/
def dg (d : List Int) : Int := sm d.length (gi d)
end Go.Proofs.Ytnhmeckhlajeaaa

/- What the references' pure forms come to: graphs and divisors. -/
namespace Go.Proofs.Ytnhmeckhlajeaaa
open Go
set_option linter.unusedVariables false
set_option linter.unusedSimpArgs false

theorem p_r17_In {k : Int} {R : Bool → Prop} (h : R (inF k)) : pf_r17_In k R := by
  unfold pf_r17_In
  refine ⟨fun h1 => ?_, fun h1 => ?_⟩
  · have e : decide (k ≤ 1048576) = inF k := by unfold inF; simp [h1]
    rw [e]; exact h
  · have e : false = inF k := by unfold inF; simp [h1]
    rw [e]; exact h
theorem p_r15_In {k : Int} {R : Bool → Prop} (h : R (inF k)) : pf_r15_In k R := by
  unfold pf_r15_In
  refine ⟨fun h1 => ?_, fun h1 => ?_⟩
  · have e : decide (k ≤ 1048576) = inF k := by unfold inF; simp [h1]
    rw [e]; exact h
  · have e : false = inF k := by unfold inF; simp [h1]
    rw [e]; exact h
theorem p_r08_Vertex {n v : Int} {es : List E3} {R : Bool → Prop} (h : R (decide (0 ≤ v ∧ v < n))) : pf_r08_Vertex n es v R := by
  unfold pf_r08_Vertex
  refine ⟨fun h1 => ?_, fun h1 => ?_⟩
  · have e : decide (v < n) = decide (0 ≤ v ∧ v < n) := by simp [h1]
    rw [e]; exact h
  · have e : false = decide (0 ≤ v ∧ v < n) := by simp [h1]
    rw [e]; exact h
theorem p_r17_Check {d : List Int} {n : Int} {R : Int → Prop} (h : R (checkF d n)) : pf_r17_Check d n R := by
  unfold pf_r17_Check
  have hout : ¬ (1 ≤ n ∧ n ≤ 12) → R 2 := fun q => by
    have : checkF d n = 2 := by unfold checkF vertsF; rw [if_neg q, if_neg (by omega)]
    rwa [this] at h
  refine ⟨1 ≤ n ∧ n ≤ 12, fun hn => ?_, fun q => hout (by omega), fun q => ⟨fun q2 => hout (by omega), fun q2 => ⟨by omega, by omega⟩⟩⟩
  have hc : checkF d n = if (d.length : Int) = n then (if d.all inF then 0 else 2) else 8 := by unfold checkF; rw [if_pos (by unfold vertsF; rw [if_pos hn])]
  rw [hc] at h
  refine ⟨fun hln => ?_, fun hln => by rwa [if_neg hln] at h⟩
  rw [if_pos hln] at h
  refine ⟨Cnt d.length (fun k => ∀ j, j < k → inF (gi d j) = true), Cnt.start (fun j hj => absurd hj (by omega)), ?_⟩
  rintro m _ ⟨k, rfl, rfl, hk, hinv⟩
  refine ⟨fun hlt => ⟨by omega, p_r17_In ⟨fun h1 => Cnt.next (by omega) (by omega) fun j hj => ?_, fun h1 => ?_⟩⟩, fun hge => ?_⟩
  · by_cases e : j = k
    · subst e; simpa using h1
    · exact hinv j (by omega)
  · rw [if_neg (fun hall => h1 ((all_iff_gi inF d).1 hall _ (by omega)))] at h; exact h
  · rw [if_pos ((all_iff_gi inF d).2 fun j hj => hinv j (by omega))] at h; exact h
theorem p_r15_Script {n : Int} {es : List E3} {s : List Int} {R : Int → Prop} (hn : 1 ≤ n ∧ n ≤ 12) (h : R (checkF s n)) : pf_r15_Script n es s R := by
  unfold pf_r15_Script
  have hc : checkF s n = if (s.length : Int) = n then (if s.all inF then 0 else 2) else 8 := by unfold checkF; rw [if_pos (by unfold vertsF; rw [if_pos hn])]
  rw [hc] at h
  refine ⟨fun hln => ?_, fun hln => by rwa [if_neg hln] at h⟩
  rw [if_pos hln] at h
  refine ⟨Cnt s.length (fun k => ∀ j, j < k → inF (gi s j) = true), Cnt.start (fun j hj => absurd hj (by omega)), ?_⟩
  rintro m _ ⟨k, rfl, rfl, hk, hinv⟩
  refine ⟨fun hlt => ⟨by omega, p_r15_In ⟨fun h1 => Cnt.next (by omega) (by omega) fun j hj => ?_, fun h1 => ?_⟩⟩, fun hge => ?_⟩
  · by_cases e : j = k
    · subst e; simpa using h1
    · exact hinv j (by omega)
  · rw [if_neg (fun hall => h1 ((all_iff_gi inF s).1 hall _ (by omega)))] at h; exact h
  · rw [if_pos ((all_iff_gi inF s).2 fun j hj => hinv j (by omega))] at h; exact h
theorem p_r17_Total {d : List Int} {R : Int → Prop} (hl : d.length ≤ 1000000) (hb : ∀ i, i < d.length → -1000000000000 ≤ gi d i ∧ gi d i ≤ 1000000000000) (h : R (dg d)) : pf_r17_Total d R := by
  unfold pf_r17_Total
  refine ⟨fun m n v => Cnt d.length (fun k => n = sm k (gi d)) m v, Cnt.start rfl, ?_⟩
  rintro m n _ ⟨k, rfl, rfl, hk, rfl⟩
  refine ⟨fun hlt => ⟨by omega, ?_, Cnt.next (by omega) (by omega) rfl⟩, fun hge => ?_⟩
  · have := sm_bound (f := gi d) (B := 1000000000000) (by omega) (n := k + 1) fun i hi => hb i (by omega)
    rw [sm] at this
    exact i64 (by simp only [Int.toNat_natCast]; omega)
  · have : k = d.length := by omega
    subst this; exact h
/-- Nothing is negative. -/
def paidF (d : List Int) : Bool := (List.range d.length).all fun v => decide (0 ≤ gi d v)
theorem paidF_iff {d : List Int} : paidF d = true ↔ ∀ v, v < d.length → 0 ≤ gi d v := by simp [paidF]
theorem p_r17_Paid {d : List Int} {R : Bool → Prop} (hl : d.length ≤ 1000000000) (h : R (paidF d)) : pf_r17_Paid d R := by
  unfold pf_r17_Paid
  refine ⟨Cnt d.length (fun k => ∀ j, j < k → 0 ≤ gi d j), Cnt.start (fun j hj => absurd hj (by omega)), ?_⟩
  rintro m _ ⟨k, rfl, rfl, hk, hinv⟩
  refine ⟨fun hlt => ⟨by omega, fun h1 => ?_, fun h1 => Cnt.next (by omega) (by omega) fun j hj => ?_⟩, fun hge => ?_⟩
  · have e : false = paidF d := by
      symm; rw [Bool.eq_false_iff]; intro q
      have := paidF_iff.1 q k (by omega)
      simp only [Int.toNat_natCast] at h1; omega
    rw [e]; exact h
  · by_cases e : j = k
    · subst e; simp only [Int.toNat_natCast] at h1; omega
    · exact hinv j (by omega)
  · have e : true = paidF d := by symm; rw [paidF_iff]; intro v hv; exact hinv v (by omega)
    rw [e]; exact h

theorem p_r08_edge {n : Int} {es : List E3} {k : Nat} {R : Int → Prop} (hk : k < es.length) (hl : es.length ≤ 1000000000) (h : R (edgeF n (pre es k).1 (pre es k).2 (ge es k))) : pf_r08_edge n es (k : Int) R := by
  unfold pf_r08_edge
  simp only [Int.toNat_natCast]
  generalize hx : ge es k = x at h ⊢
  refine ⟨by omega, (0 ≤ x.1 ∧ x.1 < n) ∧ (0 ≤ x.2.1 ∧ x.2.1 < n) ∧ 1 ≤ x.2.2 ∧ x.2.2 ≤ 50, fun hJ => ?_, ?_⟩
  · have hed : ∀ a b, edgeF n a b x = if x.1 ≤ x.2.1 ∧ pcmpF a b x.1 x.2.1 < 0 then 0 else 9 := fun a b => by unfold edgeF; rw [if_pos hJ]
    rw [hed] at h
    refine ⟨fun q => by rw [if_neg (by omega)] at h; exact h, fun q => ⟨fun h0 => ?_, fun h0 => ?_⟩⟩
    · have e1 : ((k : Int) - 1).toNat = k - 1 := by omega
      rw [e1]
      have hp : pre es k = ((ge es (k - 1)).1, (ge es (k - 1)).2.1) := by unfold pre; rw [if_neg (by omega)]
      rw [hp] at h
      have hc := pcmp_lt (ge es (k - 1)).1 (ge es (k - 1)).2.1 x.1 x.2.1
      refine ⟨i64 (by omega), by omega, fun q1 => ?_, fun q1 => ⟨fun q2 => ⟨fun q3 => ?_, fun q3 => ?_⟩, fun q2 => ?_⟩⟩
      · rw [if_neg (fun h => by have := hc.1 h.2; omega)] at h; exact h
      · rw [if_neg (fun h => by have := hc.1 h.2; omega)] at h; exact h
      · rw [if_pos ⟨by omega, hc.2 (by omega)⟩] at h; exact h
      · rw [if_pos ⟨by omega, hc.2 (by omega)⟩] at h; exact h
    · have hp : pre es k = (-1, -1) := by unfold pre; rw [if_pos (by omega)]
      rw [hp, if_pos ⟨by omega, (pcmp_lt _ _ _ _).2 (.inl (by omega))⟩] at h
      exact h
  · have hed : ¬ ((0 ≤ x.1 ∧ x.1 < n) ∧ (0 ≤ x.2.1 ∧ x.2.1 < n) ∧ 1 ≤ x.2.2 ∧ x.2.2 ≤ 50) → R 2 := fun q => by unfold edgeF at h; rwa [if_neg q] at h
    refine p_r08_Vertex ⟨fun h1 => p_r08_Vertex ⟨fun h2 => ⟨fun h3 => hed (by omega), fun h3 => ⟨fun h4 => hed (by omega), fun h4 => ?_⟩⟩, fun h2 => hed (by simp at h2; omega)⟩, fun h1 => hed (by simp at h1; omega)⟩
    simp only [decide_eq_true_eq] at h1 h2
    exact ⟨h1, h2, by omega, by omega⟩
theorem p_r08_Check {n : Int} {es : List E3} {R : Int → Prop} (hl : es.length ≤ 1000000000) (h : R (gcheckF n es)) : pf_r08_Check n es R := by
  unfold pf_r08_Check
  have hout : ¬ (1 ≤ n ∧ n ≤ 12) → R 2 := fun q => by unfold gcheckF at h; rwa [if_neg q] at h
  refine ⟨1 ≤ n ∧ n ≤ 12, fun hn => ?_, fun q => hout (by omega), fun q => ⟨fun q2 => hout (by omega), fun q2 => ⟨by omega, by omega⟩⟩⟩
  have hg : gcheckF n es = gchk n (-1) (-1) es := by unfold gcheckF; rw [if_pos hn]
  rw [hg] at h
  refine ⟨Cnt es.length (fun k => gchk n (-1) (-1) es = gchk n (pre es k).1 (pre es k).2 (es.drop k)), Cnt.start rfl, ?_⟩
  rintro m _ ⟨k, rfl, rfl, hk, hinv⟩
  refine ⟨fun hlt => p_r08_edge (by omega) hl ⟨fun h0 => Cnt.next (by omega) (by omega) ?_, fun h0 => ?_⟩, fun hge => ?_⟩
  · rw [ge_drop (by omega), gchk_cons, if_pos h0] at hinv
    rw [hinv]; simp [pre]
  · rw [ge_drop (by omega), gchk_cons, if_neg h0] at hinv
    rwa [hinv] at h
  · have hk2 : k = es.length := by omega
    rw [hinv, hk2, List.drop_length] at h
    exact h
theorem p_r08_Between' {n : Int} {es : List E3} {a b : Int} {R : Int → Prop} (hl : es.length ≤ 1000000000) (h : R (((es.find? fun x => decide (x.1 = mnF a b ∧ x.2.1 = mxF a b)).map (·.2.2)).getD 0)) : pf_r08_Between n es a b R := by
  unfold pf_r08_Between
  refine ⟨Cnt es.length (fun k => es.find? (fun x => decide (x.1 = mnF a b ∧ x.2.1 = mxF a b)) = (es.drop k).find? (fun x => decide (x.1 = mnF a b ∧ x.2.1 = mxF a b))), Cnt.start rfl, ?_⟩
  rintro m _ ⟨k, rfl, rfl, hk, hinv⟩
  refine ⟨fun hlt => ?_, fun hge => ?_⟩
  · have hlt : k < es.length := by omega
    rw [ge_drop hlt, List.find?_cons] at hinv
    simp only [Int.toNat_natCast]
    refine ⟨by omega, fun h1 => ⟨fun h2 => ?_, fun h2 => Cnt.next hlt (by omega) ?_⟩, fun h1 => Cnt.next hlt (by omega) ?_⟩
    · rw [hinv] at h; simpa [h1, h2] using h
    · rw [hinv]; simp [h2]
    · rw [hinv]; simp [h1]
  · have hk2 : k = es.length := by omega
    rw [hinv, hk2, List.drop_length] at h
    exact h
/-- The edges of a right graph are few. -/
theorem W_le50 {n : Int} {es : List E3} (hg : gcheckF n es = 0) (u v : Nat) : 0 ≤ W es u v ∧ W es u v ≤ 50 := by
  by_cases e : u = v
  · subst e; rw [W_self]; omega
  · have hok := gchk_ok es _ _ (gcheck_gchk hg)
    rw [← between_W u v e es (-1) (-1) (gcheck_gchk hg)]
    cases hf : es.find? fun x => decide (x.1 = mnF (u : Int) v ∧ x.2.1 = mxF (u : Int) v) with
    | none => simp
    | some x => have := hok x (List.mem_of_find?_eq_some hf); simp; omega
theorem p_r08_Between {n : Int} {es : List E3} {u v : Nat} {R : Int → Prop} (hl : es.length ≤ 1000000000) (hg : gcheckF n es = 0) (huv : u ≠ v) (h : R (W es u v)) : pf_r08_Between n es (u : Int) (v : Int) R :=
  p_r08_Between' hl (by rw [between_W u v huv es (-1) (-1) (gcheck_gchk hg)]; exact h)
theorem deg_bound {n : Int} {es : List E3} (hg : gcheckF n es = 0) (k v : Nat) : 0 ≤ sm k (fun u => W es v u) ∧ sm k (fun u => W es v u) ≤ k * 50 :=
  ⟨sm_nonneg fun i _ => (W_le50 hg v i).1, (sm_bound (f := fun u => W es v u) (B := 50) (by omega) fun i _ => by have := W_le50 hg v i; omega).2⟩
theorem p_r08_Valence {n : Nat} {es : List E3} {v : Nat} {R : Int → Prop} (hl : es.length ≤ 1000000000) (hg : gcheckF n es = 0) (h : R (deg n es v)) : pf_r08_Valence (n : Int) es (v : Int) R := by
  obtain ⟨hE, hn1, hn12⟩ := gcheck_ok hg
  unfold pf_r08_Valence
  refine ⟨fun m a u => Cnt n (fun k => a = sm k (fun u => W es v u)) m u, Cnt.start rfl, ?_⟩
  rintro m a _ ⟨k, rfl, rfl, hk, rfl⟩
  refine ⟨fun hlt => ⟨fun e => Cnt.next (by omega) (by omega) ?_, fun e => p_r08_Between hl hg (by omega) ?_⟩, fun hge => ?_⟩
  · have e : k = v := by omega
    subst e
    rw [sm, W_self]; omega
  · have h1 := deg_bound hg k v
    have h2 := W_le50 hg k v
    refine ⟨i64 (by omega), Cnt.next (by omega) (by omega) ?_⟩
    rw [sm, W_symm es v k]
  · have hk2 : k = n := by omega
    subst hk2; exact h
/-- The ends of all single edges. -/
def endsF (es : List E3) : List (Int × Int) := es.flatMap fun x => List.replicate x.2.2.toNat (x.1, x.2.1)
theorem endsF_take {es : List E3} {k : Nat} (hk : k < es.length) : endsF (es.take (k + 1)) = endsF (es.take k) ++ List.replicate (ge es k).2.2.toNat ((ge es k).1, (ge es k).2.1) := by
  unfold endsF
  rw [List.take_add_one, List.getElem?_eq_getElem hk, ge_of_lt hk, List.flatMap_append]
  simp
theorem endsF_length (es : List E3) (hE : ∀ x ∈ es, 1 ≤ x.2.2 ∧ x.2.2 ≤ 50) : ((endsF es).length : Int) = (es.map (·.2.2)).sum ∧ (endsF es).length ≤ 50 * es.length := by
  induction es with
  | nil => simp [endsF]
  | cons x t ih =>
    have hx := hE x (by simp)
    have := ih fun y hy => hE y (by simp [hy])
    unfold endsF at this ⊢
    rw [List.flatMap_cons, List.length_append, List.length_replicate, List.map_cons, List.sum_cons, List.length_cons]
    omega
theorem p_r08_Ends {n : Int} {es : List E3} {R : List (Int × Int) → Prop} (hl : es.length ≤ 1000) (hE : ∀ x ∈ es, 1 ≤ x.2.2 ∧ x.2.2 ≤ 50) (h : R (endsF es)) : pf_r08_Ends n es R := by
  unfold pf_r08_Ends
  have hlen : ∀ k, (endsF (es.take k)).length ≤ 50 * k := fun k => by
    have := (endsF_length (es.take k) fun x hx => hE x (List.mem_of_mem_take hx)).2
    rw [List.length_take] at this
    omega
  refine ⟨fun m out i => Cnt es.length (fun k => out = endsF (es.take k)) m i, Cnt.start (by simp [endsF]), ?_⟩
  rintro m out _ ⟨k, rfl, rfl, hk, rfl⟩
  refine ⟨fun hlt => ?_, fun hge => ?_⟩
  · have hlt : k < es.length := by omega
    have hmk := hE _ (ge_mem hlt)
    have hl2 := hlen k
    simp only [Int.toNat_natCast]
    refine ⟨fun m2 out2 j => Cnt (ge es k).2.2.toNat (fun i => out2 = endsF (es.take k) ++ List.replicate i ((ge es k).1, (ge es k).2.1)) m2 j, Cnt.start (by simp), ?_⟩
    rintro m2 out2 _ ⟨j, rfl, rfl, hj, rfl⟩
    refine ⟨by omega, fun h1 => ⟨?_, Cnt.next (by omega) (by omega) ?_⟩, fun h1 => Cnt.next hlt (by omega) ?_⟩
    · rw [List.length_append, List.length_replicate]; omega
    · rw [List.append_assoc, List.replicate_succ']
    · have : j = (ge es k).2.2.toNat := by omega
      rw [endsF_take hlt, this]
  · have hk2 : k = es.length := by omega
    rw [hk2, List.take_length]; exact h
theorem p_r08_Size {n : Int} {es : List E3} {R : Int → Prop} (hl : es.length ≤ 1000) (hE : ∀ x ∈ es, 1 ≤ x.2.2 ∧ x.2.2 ≤ 50) (h : R ((es.map (·.2.2)).sum)) : pf_r08_Size n es R :=
  p_r08_Ends hl hE (by rw [(endsF_length es hE).1]; exact h)
theorem p_r08_small {n a b : Int} {es : List E3} {R : Bool → Prop} (h : R (smallF n es a b)) : pf_r08_small n es a b R := by
  unfold pf_r08_small
  unfold smallF at h
  refine ⟨fun h1 => ?_, fun h1 => p_r08_Check (by omega) ⟨fun h2 => ⟨fun h3 => ?_, fun h3 => ?_⟩, fun h2 => ?_⟩⟩
  · rwa [decide_eq_false (by omega)] at h
  · have hE := gchk_ok es _ _ (gcheck_gchk h2)
    refine p_r08_Size (by omega) (fun x hx => (hE x hx).2.2.2.2) ?_
    have e : decide ((es.map (·.2.2)).sum ≤ b) = decide (es.length ≤ 40 ∧ (gcheckF n es = 0 → n ≤ a ∧ (es.map (·.2.2)).sum ≤ b)) := by
      rw [decide_eq_decide]; constructor
      · intro q; exact ⟨by omega, fun _ => ⟨h3, q⟩⟩
      · intro q; exact (q.2 h2).2
    rw [e]; exact h
  · rwa [decide_eq_false (fun q => h3 (q.2 h2).1)] at h
  · rwa [decide_eq_true ⟨by omega, fun q => absurd q h2⟩] at h
theorem p_r08_Few {n : Int} {es : List E3} {R : Bool → Prop} (h : R (smallF n es 6 9)) : pf_r08_Few n es R := p_r08_small h
theorem p_r25_Few {n : Int} {es : List E3} {R : Bool → Prop} (h : R (smallF n es 6 9)) : pf_r25_Few n es R := p_r08_small h
theorem p_r34_Few {n : Int} {es : List E3} {R : Bool → Prop} (h : R (smallF n es 6 9)) : pf_r34_Few n es R := p_r08_small h
end Go.Proofs.Ytnhmeckhlajeaaa

/- What the references' pure forms come to: connectedness, errors, scripts. -/
namespace Go.Proofs.Ytnhmeckhlajeaaa
open Go
set_option linter.unusedVariables false
set_option linter.unusedSimpArgs false

section
variable {n : Nat} {es : List E3}
theorem p_r08_Reached {v : Nat} {R : List Bool → Prop} (hl : es.length ≤ 1000000000) (hg : gcheckF n es = 0) (hv : v < n) (h : ∀ o : List Bool, o.length = n → (∀ u, u < n → gb o u = decide (root (joinedF es) u = root (joinedF es) v)) → R o) : pf_r08_Reached (n : Int) es (v : Int) R := by
  obtain ⟨hE, hn1, hn12⟩ := gcheck_ok hg
  unfold pf_r08_Reached
  simp only [Int.toNat_natCast]
  refine ⟨by omega, by simp; omega, ?_⟩
  let Q : List Bool → Prop := fun o => o.length = n ∧ gb o v = true ∧ ∀ u, u < n → gb o u = true → root (joinedF es) u = root (joinedF es) v
  let Z : List Bool → List Bool → Prop := fun o0 o => (Cl n es o0 → o = o0) ∧ (o = o0 ∨ cf o < cf o0) ∧ ∀ a, gb o0 a = true → gb o a = true
  have hq4 : Q ((List.replicate n false).set v true) := by
    refine ⟨by simp, by rw [gb_set (by simpa using hv), if_pos rfl], fun u hu h => ?_⟩
    rw [gb_set (by simpa using hv)] at h
    split at h
    · rename_i e; rw [e]
    · rw [gb_rep] at h; cases h
  have hcf0 : cf ((List.replicate n false).set v true) + 1 = n := by
    rw [cf_set (by simpa using hv) (gb_rep n v)]
    unfold cf
    rw [List.filter_eq_self.2 (fun x hx => by rw [(List.mem_replicate.1 hx).2]; rfl)]
    simp
  have hsetQ : ∀ {o : List Bool} {b : Nat}, Q o → b < n → root (joinedF es) b = root (joinedF es) v → Q (o.set b true) := by
    rintro o b ⟨q1, q4, q5⟩ hb hr
    have hbl : b < o.length := by omega
    refine ⟨by simpa using q1, ?_, fun u hu h => ?_⟩
    · rw [gb_set hbl]; split <;> first | rfl | exact q4
    · rw [gb_set hbl] at h
      split at h
      · rename_i e; rw [e]; exact hr
      · exact q5 u hu h
  refine ⟨fun m i o => Cnt n (fun k => Q o ∧ (Cl n es o ∨ cf o + k + 1 ≤ n)) m i, Cnt.start ⟨hq4, .inr (by omega)⟩, ?_⟩
  rintro m _ o0 ⟨k, rfl, rfl, hk, hq5, hpr⟩
  refine ⟨fun hlt => ?_, fun hge => ?_⟩
  · refine ⟨fun m i o => Cnt n (fun a => Q o ∧ Z o0 o ∧ ∀ a', a' < a → gb o0 a' = true → ∀ b, b < n → 0 < W es a' b → gb o b = true) m i, Cnt.start ⟨hq5, ⟨fun _ => rfl, .inl rfl, fun _ h => h⟩, fun a' h => absurd h (by omega)⟩, ?_⟩
    rintro m _ o ⟨a, rfl, rfl, ha, hq6, hz, hdone⟩
    refine ⟨fun hlta => ?_, fun hgea => ?_⟩
    · refine ⟨fun m i o => Cnt n (fun b => Q o ∧ Z o0 o ∧ (∀ a', a' < a → gb o0 a' = true → ∀ b, b < n → 0 < W es a' b → gb o b = true) ∧ (gb o0 a = true → ∀ b', b' < b → 0 < W es a b' → gb o b' = true)) m i, Cnt.start ⟨hq6, hz, hdone, fun _ b' h => absurd h (by omega)⟩, ?_⟩
      clear hq6 hz hdone hq5
      rintro m _ o ⟨b, rfl, rfl, hb, hq7, hz, hdone, hnow⟩
      have hol := hq7.1
      refine ⟨fun hltb => ⟨by omega, fun hx => ?_, fun hx => Cnt.next (by omega) (by omega) ⟨hq7, hz, hdone, fun h => absurd (hz.2.2 a h) (by simpa using hx)⟩⟩, fun hgeb => ?_⟩
      · simp only [Int.toNat_natCast] at hx ⊢
        have hstep : (a ≠ b → 0 < W es a b) → Q (o.set b true) ∧ Z o0 (o.set b true) ∧ (∀ a', a' < a → gb o0 a' = true → ∀ b', b' < n → 0 < W es a' b' → gb (o.set b true) b' = true) ∧ (gb o0 a = true → ∀ b', b' < b + 1 → 0 < W es a b' → gb (o.set b true) b' = true) := by
          intro hW
          have hbl : b < o.length := by omega
          have hup : ∀ x, gb o x = true → gb (o.set b true) x = true := fun x h => by rw [gb_set hbl]; split <;> first | rfl | exact h
          have hrb : root (joinedF es) b = root (joinedF es) v := by
            have h1 := hq7.2.2 a (by omega) hx
            by_cases eab : a = b
            · rw [← eab]; exact h1
            · rw [← root_W hE hn1 hn12 (hW eab)]; exact h1
          refine ⟨hsetQ hq7 (by omega) hrb, ⟨fun hcl => ?_, ?_, fun x h => hup x (hz.2.2 x h)⟩, fun a' h1 h2 b' h3 h4 => hup _ (hdone a' h1 h2 b' h3 h4), fun h1 b' h2 h3 => ?_⟩
          · have e0 := hz.1 hcl
            subst e0
            refine set_same ?_
            by_cases eab : a = b
            · rw [← eab]; exact hx
            · exact hcl a b (by omega) (by omega) hx (hW eab)
          · cases hob : gb o b with
            | true => rw [set_same hob]; exact hz.2.1
            | false =>
              have := cf_set hbl hob
              rcases hz.2.1 with h | h
              · right; rw [← h]; omega
              · right; omega
          · by_cases e2 : b' = b
            · subst e2; rw [gb_set hbl, if_pos rfl]
            · exact hup _ (hnow h1 b' (by omega) h3)
        have hpass : ¬ 0 < W es a b → (gb o0 a = true → ∀ b', b' < b + 1 → 0 < W es a b' → gb o b' = true) := fun h h1 b' h2 h3 => by
          by_cases e2 : b' = b
          · subst e2; exact absurd h3 h
          · exact hnow h1 b' (by omega) h3
        by_cases eab : a = b
        · subst eab
          refine p_r08_Between' hl ⟨fun h => ⟨by omega, Cnt.next (by omega) (by omega) (hstep fun h => absurd rfl h)⟩, fun h => Cnt.next (by omega) (by omega) ⟨hq7, hz, hdone, hpass (by rw [show W es a a = 0 from W_self es a]; omega)⟩⟩
        · refine p_r08_Between hl hg eab ⟨fun h => ⟨by omega, Cnt.next (by omega) (by omega) (hstep fun _ => h)⟩, fun h => Cnt.next (by omega) (by omega) ⟨hq7, hz, hdone, hpass h⟩⟩
      · have hbn : b = n := by omega
        subst hbn
        refine Cnt.next (by omega) (by omega) ⟨hq7, hz, fun a' h1 h2 b' h3 h4 => ?_⟩
        by_cases e2 : a' = a
        · subst e2; exact hnow h2 b' h3 h4
        · exact hdone a' (by omega) h2 b' h3 h4
    · have han : a = n := by omega
      subst han
      refine Cnt.next (by omega) (by omega) ⟨hq6, ?_⟩
      by_cases hcl : Cl a es o0
      · rw [hz.1 hcl]; exact .inl hcl
      · rcases hz.2.1 with h | h
        · exfalso
          subst h
          exact hcl fun x y hx hy h1 h2 => hdone x hx h1 y hy h2
        · rcases hpr with h2 | h2
          · exact absurd h2 hcl
          · right; omega
  · have hkn : k = n := by omega
    subst hkn
    rcases hpr with q | q
    · exact h o0 hq5.1 (cl_root hE hn1 hn12 q hv hq5.2.1 hq5.2.2)
    · omega
theorem p_r08_Parts {R : Int → Prop} (hl : es.length ≤ 1000000000) (hg : gcheckF n es = 0) (h : ∀ k : Int, (k = 1 ↔ connF n es = true) → R k) : pf_r08_Parts (n : Int) es R := by
  obtain ⟨hE, hn1, hn12⟩ := gcheck_ok hg
  have hcr := conn_root hE hn1 hn12
  unfold pf_r08_Parts
  simp only [Int.toNat_natCast]
  refine ⟨by omega, ?_⟩
  refine ⟨fun m k i o => Cnt n (fun v => 0 ≤ k ∧ k ≤ v ∧ (v = 0 → k = 0) ∧ (0 < v → 1 ≤ k ∧ (k = 1 ↔ ∀ x, x < v → root (joinedF es) x = root (joinedF es) 0)) ∧ o.length = n ∧ (∀ u, u < n → (gb o u = true ↔ ∃ x, x < v ∧ root (joinedF es) u = root (joinedF es) x))) m i,
    Cnt.start ⟨by omega, by omega, fun _ => rfl, fun h => absurd h (by omega), by simp, fun u _ => by rw [gb_rep]; simp⟩, ?_⟩
  rintro m k _ o ⟨v, rfl, rfl, hv, k0, k1, k2, k3, hol, hseen⟩
  refine ⟨fun hlt => ?_, fun hge => ?_⟩
  · have hlt : v < n := by omega
    simp only [Int.toNat_natCast]
    refine ⟨by omega, fun hx => ?_, fun hx => ⟨i64 (by omega), p_r08_Reached hl hg hlt fun ro hrl hro => ?_⟩⟩
    · obtain ⟨x, hxv, hxr⟩ := (hseen v hlt).1 hx
      refine Cnt.next hlt (by omega) ⟨k0, by omega, fun h => absurd h (by omega), fun _ => ?_, hol, fun u hu => ?_⟩
      · have h3 := k3 (by omega)
        refine ⟨h3.1, ?_⟩
        rw [h3.2]
        constructor
        · intro h y hy
          by_cases e : y = v
          · subst e; rw [hxr]; exact h x hxv
          · exact h y (by omega)
        · intro h y hy; exact h y (by omega)
      · rw [hseen u hu]
        constructor
        · rintro ⟨y, hy, hyr⟩; exact ⟨y, by omega, hyr⟩
        · rintro ⟨y, hy, hyr⟩
          by_cases e : y = v
          · subst e; exact ⟨x, hxv, hyr.trans hxr⟩
          · exact ⟨y, by omega, hyr⟩
    · refine ⟨fun m i o' => Cnt n (fun u => o'.length = n ∧ (∀ x, x < n → (gb o' x = true ↔ (gb o x = true ∨ (x < u ∧ gb ro x = true))))) m i, Cnt.start ⟨hol, fun x _ => by simp⟩, ?_⟩
      rintro m _ o' ⟨u, rfl, rfl, hu, hol', hor⟩
      refine ⟨fun hltu => ?_, fun hgeu => ?_⟩
      · have hltu : u < n := by omega
        simp only [Int.toNat_natCast]
        have hou := hor u hltu
        have st : ∀ b : Bool, (b = true ↔ (gb o u = true ∨ gb ro u = true)) → (o'.set u b).length = n ∧ (∀ x, x < n → (gb (o'.set u b) x = true ↔ (gb o x = true ∨ (x < u + 1 ∧ gb ro x = true)))) := fun b hbb => by
          refine ⟨by simpa using hol', fun x hx => ?_⟩
          rw [gb_set (by omega)]
          by_cases e : x = u
          · subst e
            rw [if_pos rfl, hbb]
            constructor
            · rintro (h | h)
              · exact .inl h
              · exact .inr ⟨by omega, h⟩
            · rintro (h | h)
              · exact .inl h
              · exact .inr h.2
          · rw [if_neg e, hor x hx]
            constructor
            · rintro (h | h)
              · exact .inl h
              · exact .inr ⟨by omega, h.2⟩
            · rintro (h | h)
              · exact .inl h
              · exact .inr ⟨by omega, h.2⟩
        refine ⟨by omega, fun hx2 => Cnt.next hltu (by omega) (st true ?_), fun hx2 => ⟨by omega, Cnt.next hltu (by omega) (st _ ?_)⟩⟩
        · have := hou.1 hx2
          constructor
          · intro _; rcases this with h | h
            · exact .inl h
            · exact .inr h.2
          · intro _; rfl
        · constructor
          · intro h; exact .inr h
          · rintro (h | h)
            · exact absurd (hou.2 (.inl h)) hx2
            · exact h
      · have hun : u = n := by omega
        subst hun
        have hnew : ¬ ∃ x, x < v ∧ root (joinedF es) v = root (joinedF es) x := fun h => hx ((hseen v hlt).2 h)
        refine Cnt.next (by omega) (by omega) ⟨by omega, by omega, fun h => absurd h (by omega), fun _ => ⟨by omega, ?_⟩, hol', fun x hxn => ?_⟩
        · by_cases e0 : v = 0
          · subst e0
            have := k2 rfl
            subst this
            constructor
            · intro _ y hy; rw [show y = 0 by omega]
            · intro _; rfl
          · have h3 := k3 (by omega)
            constructor
            · intro h; omega
            · intro h; exact absurd ⟨0, by omega, h v (by omega)⟩ hnew
        · rw [hor x hxn, hseen x hxn, hro x hxn, decide_eq_true_eq]
          constructor
          · rintro (⟨y, hy, hyr⟩ | h)
            · exact ⟨y, by omega, hyr⟩
            · exact ⟨v, by omega, h.2⟩
          · rintro ⟨y, hy, hyr⟩
            by_cases e : y = v
            · subst e; exact .inr ⟨hxn, hyr⟩
            · exact .inl ⟨y, by omega, hyr⟩
  · have hvn : v = n := by omega
    subst hvn
    refine h k ?_
    rw [(k3 (by omega)).2, hcr]
theorem p_r08_Connected {R : Bool → Prop} (hl : es.length ≤ 1000000000) (hg : gcheckF n es = 0) (h : R (connF n es)) : pf_r08_Connected (n : Int) es R :=
  p_r08_Parts hl hg fun k hk => by
    have e : decide (k = 1) = connF n es := by rw [Bool.eq_iff_iff, decide_eq_true_eq]; exact hk
    rw [e]; exact h
end
section
variable {n q : Int} {es : List E3} {d s : List Int}
theorem p_r25_Joined {R : Int → Prop} (hl : es.length ≤ 1000000000) (h : R (joinedE n es)) : pf_r25_Joined n es R := by
  unfold pf_r25_Joined
  unfold joinedE at h
  refine p_r08_Check hl ⟨fun h0 => ?_, fun h0 => by rwa [if_neg h0] at h⟩
  rw [if_pos h0] at h
  have hn : 1 ≤ n ∧ n ≤ 12 := by
    unfold gcheckF at h0
    split at h0
    · assumption
    · omega
  obtain ⟨n, rfl⟩ : ∃ n' : Nat, n = (n' : Int) := ⟨n.toNat, by omega⟩
  exact p_r08_Connected hl h0 ⟨fun h1 => by rwa [if_pos h1] at h, fun h1 => by rwa [if_neg h1] at h⟩
def sinkE (n : Int) (es : List E3) (q : Int) : Int := if joinedE n es = 0 then (if 0 ≤ q ∧ q < n then 0 else 2) else joinedE n es
theorem p_r25_Sink {R : Int → Prop} (hl : es.length ≤ 1000000000) (h : R (sinkE n es q)) : pf_r25_Sink n es q R := by
  unfold pf_r25_Sink
  unfold sinkE at h
  refine p_r25_Joined hl ⟨fun h0 => ?_, fun h0 => by rwa [if_neg h0] at h⟩
  rw [if_pos h0] at h
  exact p_r08_Vertex ⟨fun h1 => by rwa [if_pos (by simpa using h1)] at h, fun h1 => by rwa [if_neg (by simpa using h1)] at h⟩
theorem given_sink : givenF n es q d = if sinkE n es q = 0 then checkF d n else sinkE n es q := by
  unfold givenF sinkE joinedE
  by_cases h1 : gcheckF n es = 0
  · rw [if_pos h1, if_pos h1]
    by_cases h2 : connF n es = true
    · rw [if_pos h2, if_pos h2, if_pos rfl]
      by_cases h3 : 0 ≤ q ∧ q < n
      · rw [if_pos h3, if_pos h3, if_pos rfl]
      · rw [if_neg h3, if_neg h3, if_neg (by omega)]
    · rw [if_neg h2, if_neg h2, if_neg (by omega), if_neg (by omega)]
  · rw [if_neg h1, if_neg h1, if_neg h1, if_neg h1]
theorem p_r34_Given {R : Int → Prop} (hl : es.length ≤ 1000000000) (h : R (givenF n es q d)) : pf_r34_Given n es q d R := by
  unfold pf_r34_Given
  rw [given_sink] at h
  exact p_r25_Sink hl ⟨fun h0 => p_r17_Check (by rwa [if_pos h0] at h), fun h0 => by rwa [if_neg h0] at h⟩
/-- Few chips, or an error. -/
def lowF (n : Int) (d : List Int) : Bool := decide (d.length ≤ 100 ∧ (checkF d n = 0 → ∀ j, j < d.length → -100 ≤ gi d j ∧ gi d j ≤ 100))
theorem lowF_iff : lowF n d = true ↔ d.length ≤ 100 ∧ (checkF d n = 0 → ∀ j, j < d.length → -100 ≤ gi d j ∧ gi d j ≤ 100) := by unfold lowF; exact decide_eq_true_iff
theorem p_r34_Low {R : Bool → Prop} (h : R (lowF n d)) : pf_r34_Low n es d R := by
  unfold pf_r34_Low
  have ht : (d.length ≤ 100 ∧ (checkF d n = 0 → ∀ j, j < d.length → -100 ≤ gi d j ∧ gi d j ≤ 100)) → R true := fun q => by rwa [lowF_iff.2 q] at h
  have hf : ¬ (d.length ≤ 100 ∧ (checkF d n = 0 → ∀ j, j < d.length → -100 ≤ gi d j ∧ gi d j ≤ 100)) → R false := fun q => by
    have : lowF n d = false := by rw [Bool.eq_false_iff]; exact fun q2 => q (lowF_iff.1 q2)
    rwa [this] at h
  refine ⟨fun h1 => hf (by omega), fun h1 => p_r17_Check ⟨fun h2 => ?_, fun h2 => ht ⟨by omega, fun q => absurd q h2⟩⟩⟩
  refine ⟨Cnt d.length (fun k => ∀ j, j < k → -100 ≤ gi d j ∧ gi d j ≤ 100), Cnt.start (fun j hj => absurd hj (by omega)), ?_⟩
  rintro m _ ⟨k, rfl, rfl, hk, hinv⟩
  simp only [Int.toNat_natCast]
  refine ⟨fun hlt => ⟨by omega, fun h3 => hf fun q => ?_, fun h3 => ⟨fun h4 => hf fun q => ?_, fun h4 => Cnt.next (by omega) (by omega) fun j hj => ?_⟩⟩, fun hge => ht ⟨by omega, fun _ j hj => hinv j (by omega)⟩⟩
  · have := q.2 h2 k (by omega); omega
  · have := q.2 h2 k (by omega); omega
  · by_cases e : j = k
    · subst e; omega
    · exact hinv j (by omega)
theorem p_r34_Debt {R : Bool → Prop} (hdl : d.length ≤ 1000000000) (h : R (owesF q d)) : pf_r34_Debt d q R := by
  unfold pf_r34_Debt
  refine ⟨Cnt d.length (fun k => ∀ j : Nat, j < k → ¬ ((j : Int) ≠ q ∧ gi d j < 0)), Cnt.start (fun j hj => absurd hj (by omega)), ?_⟩
  rintro m _ ⟨k, rfl, rfl, hk, hinv⟩
  simp only [Int.toNat_natCast]
  have hnx : ¬ ((k : Int) ≠ q ∧ gi d k < 0) → ∀ j : Nat, j < k + 1 → ¬ ((j : Int) ≠ q ∧ gi d j < 0) := fun h1 j hj => by
    by_cases e : j = k
    · subst e; exact h1
    · exact hinv j (by omega)
  refine ⟨fun hlt => ⟨fun h1 => Cnt.next (by omega) (by omega) (hnx (by omega)), fun h1 => ⟨by omega, fun h2 => ?_, fun h2 => Cnt.next (by omega) (by omega) (hnx (by omega))⟩⟩, fun hge => ?_⟩
  · have e : true = owesF q d := by
      symm; unfold owesF; rw [List.any_eq_true]
      exact ⟨k, by simp; omega, by simp; exact ⟨h1, h2⟩⟩
    rw [e]; exact h
  · have e : false = owesF q d := by
      symm; rw [Bool.eq_false_iff]; unfold owesF; rw [Ne, List.any_eq_true]
      rintro ⟨j, hj, h2⟩
      simp at hj h2
      exact hinv j (by omega) h2
    rw [e]; exact h
/-- The Laplacian of a script, as a list. -/
def lpL (n : Nat) (es : List E3) (s : List Int) : List Int := tab (fun v => Lp n es (gi s) v) n
theorem Lp_row {n : Nat} {es : List E3} (s : List Int) {v : Nat} (hv : v < n) : sm n (fun k => (if v = k then deg n es v else - W es v k) * gi s k) = Lp n es (gi s) v := by
  have e : (fun k => (if v = k then deg n es v else - W es v k) * gi s k) = (fun k => (if k = v then gi s v * deg n es v else 0) - gi s k * W es v k) := by
    funext k
    by_cases e : v = k
    · subst e; rw [if_pos rfl, if_pos rfl, W_self, Int.mul_comm]; omega
    · rw [if_neg e, if_neg (fun q => e q.symm), Int.mul_comm]; simp only [Int.mul_neg]; omega
  rw [Lp_ind, e, sm_sub, sm_one _ hv]
  exact congrArg _ (sm_congr fun k _ => by rw [W_symm es v k])
theorem p_r15_entry {n i k : Nat} {es : List E3} {R : Int → Prop} (hl : es.length ≤ 1000000000) (hg : gcheckF n es = 0) (h : R (if i = k then deg n es i else - W es i k)) : pf_r15_entry (n : Int) es (i : Int) (k : Int) R := by
  unfold pf_r15_entry
  have := W_le50 hg i k
  refine ⟨fun h1 => p_r08_Valence hl hg (by rwa [if_pos (by omega)] at h), fun h1 => p_r08_Between hl hg (by omega) ⟨i64 (by omega), by rwa [if_neg (by omega)] at h⟩⟩
theorem row_bound {n : Nat} {es : List E3} (hg : gcheckF n es = 0) {s : List Int} (hs : ∀ j, j < n → -2000000000 ≤ gi s j ∧ gi s j ≤ 2000000000) (i k : Nat) (hk : k < n) : -1200000000000 ≤ (if i = k then deg n es i else - W es i k) * gi s k ∧ (if i = k then deg n es i else - W es i k) * gi s k ≤ 1200000000000 := by
  obtain ⟨hE, hn1, hn12⟩ := gcheck_ok hg
  have h1 := deg_bound hg n i
  have h2 := W_le50 hg i k
  have h3 := hs k hk
  have hb : -600 ≤ (if i = k then deg n es i else - W es i k) ∧ (if i = k then deg n es i else - W es i k) ≤ 600 := by
    unfold deg
    split <;> omega
  generalize (if i = k then deg n es i else - W es i k) = c at hb ⊢
  generalize gi s k = x at h3 ⊢
  have := Int.natAbs_mul c x
  have h4 : c.natAbs ≤ 600 := by omega
  have h5 : x.natAbs ≤ 2000000000 := by omega
  have := Nat.mul_le_mul h4 h5
  omega
theorem p_r15_Moved {n : Nat} {es : List E3} {s : List Int} {R : List Int → Prop} (hl : es.length ≤ 1000000000) (hg : gcheckF n es = 0) (hsl : s.length = n) (hs : ∀ j, j < n → -2000000000 ≤ gi s j ∧ gi s j ≤ 2000000000) (h : R (lpL n es s)) : pf_r15_Moved (n : Int) es s R := by
  obtain ⟨hE, hn1, hn12⟩ := gcheck_ok hg
  unfold pf_r15_Moved
  simp only [Int.toNat_natCast]
  refine ⟨by omega, fun m i out => Cnt n (fun k => out = upto (fun v => Lp n es (gi s) v) k n) m i, Cnt.start (upto_zero _ _).symm, ?_⟩
  rintro m _ out ⟨i, rfl, rfl, hi, rfl⟩
  refine ⟨fun hlt => ?_, fun hge => ?_⟩
  · have hlt : i < n := by omega
    have hset0 : upto (fun v => Lp n es (gi s) v) i n = (upto (fun v => Lp n es (gi s) v) i n).set i 0 := by
      refine gi_ext (by simp) fun j hj => ?_
      rw [upto_length] at hj
      rw [gi_set (by rw [upto_length]; exact hlt)]
      split
      · rename_i e; subst e; rw [gi_upto _ _ _ _ hj, if_neg (by omega)]
      · rfl
    refine ⟨fun m k out => Cnt n (fun k => out = (upto (fun v => Lp n es (gi s) v) i n).set i (sm k (fun k => (if i = k then deg n es i else - W es i k) * gi s k))) m k, Cnt.start hset0, ?_⟩
    rintro m _ out ⟨k, rfl, rfl, hk, rfl⟩
    refine ⟨fun hltk => ?_, fun hgek => ?_⟩
    · have hltk : k < n := by omega
      have hrb := row_bound hg hs i
      have hb := sm_bound (f := fun k => (if i = k then deg n es i else - W es i k) * gi s k) (B := 1200000000000) (by omega) (n := k) fun j hj => hrb j (by omega)
      have hb1 := hrb k hltk
      simp only [Int.toNat_natCast]
      refine ⟨by simp [upto_length]; omega, by omega, p_r15_entry hl hg ⟨i64 (by omega), ?_, Cnt.next hltk (by omega) ?_⟩⟩
      · rw [gi_set (by rw [upto_length]; exact hlt), if_pos rfl]
        have : (k : Int) * 1200000000000 ≤ 12 * 1200000000000 := by omega
        exact i64 (by omega)
      · rw [gi_set (by rw [upto_length]; exact hlt), if_pos rfl, List.set_set, sm]
    · have hkn : k = n := by omega
      subst hkn
      refine Cnt.next hlt (by omega) ?_
      rw [Lp_row s hlt]
      exact upto_set (fun v => Lp k es (gi s) v) hlt
  · have hkn : i = n := by omega
    subst hkn
    rw [upto_all]; exact h
/-- The sum with a multiple. -/
def plusF (a b : List Int) (k : Int) : List Int := tab (fun i => gi a i + k * gi b i) a.length
theorem p_r25_Plus {a b : List Int} {k : Int} {R : List Int → Prop} (hl : a.length ≤ 1000) (hlb : a.length ≤ b.length) (hk : -1 ≤ k ∧ k ≤ 1) (ha : ∀ j, j < a.length → -1000000000000000 ≤ gi a j ∧ gi a j ≤ 1000000000000000) (hb : ∀ j, j < a.length → -1000000000000000 ≤ gi b j ∧ gi b j ≤ 1000000000000000) (h : R (plusF a b k)) : pf_r25_Plus a b k R := by
  unfold pf_r25_Plus
  simp only [Int.toNat_natCast]
  refine ⟨by omega, fun m i out => Cnt a.length (fun j => out = upto (fun i => gi a i + k * gi b i) j a.length) m i, Cnt.start (upto_zero _ _).symm, ?_⟩
  rintro m _ out ⟨i, rfl, rfl, hi, rfl⟩
  refine ⟨fun hlt => ?_, fun hge => ?_⟩
  · have hlt : i < a.length := by omega
    have h1 := ha i hlt
    have h2 := hb i hlt
    simp only [Int.toNat_natCast]
    have hkb : -1000000000000000 ≤ k * gi b i ∧ k * gi b i ≤ 1000000000000000 := by
      have : k = -1 ∨ k = 0 ∨ k = 1 := by omega
      rcases this with rfl | rfl | rfl <;> omega
    refine ⟨by omega, by omega, i64 (by omega), i64 (by omega), by rw [upto_length]; omega, Cnt.next hlt (by omega) ?_⟩
    exact upto_set (fun i => gi a i + k * gi b i) hlt
  · have hkn : i = a.length := by omega
    subst hkn
    rw [upto_all]; exact h
theorem Lp_bound {n : Nat} {es : List E3} (hg : gcheckF n es = 0) {s : List Int} (hs : ∀ j, j < n → -2000000000 ≤ gi s j ∧ gi s j ≤ 2000000000) {v : Nat} (hv : v < n) : -20000000000000 ≤ Lp n es (gi s) v ∧ Lp n es (gi s) v ≤ 20000000000000 := by
  obtain ⟨hE, hn1, hn12⟩ := gcheck_ok hg
  rw [← Lp_row s hv]
  have hb := sm_bound (f := fun k => (if v = k then deg n es v else - W es v k) * gi s k) (B := 1200000000000) (by omega) (n := n) fun j hj => row_bound hg hs v j hj
  have : (n : Int) * 1200000000000 ≤ 12 * 1200000000000 := by omega
  omega
/-- A divisor behind a script. -/
def appF (n : Nat) (es : List E3) (d s : List Int) : List Int := tab (fun v => gi d v - Lp n es (gi s) v) n
theorem appF_length {n : Nat} {es : List E3} {d s : List Int} : (appF n es d s).length = n := tab_length _ _
theorem p_r34_Applied {n : Nat} {es : List E3} {d s : List Int} {R : List Int → Prop} (hl : es.length ≤ 1000000000) (hg : gcheckF n es = 0) (hdl : d.length = n) (hd : ∀ j, j < n → -1000000000000000 ≤ gi d j ∧ gi d j ≤ 1000000000000000) (hsl : s.length = n) (hs : ∀ j, j < n → -2000000000 ≤ gi s j ∧ gi s j ≤ 2000000000) (h : R (appF n es d s)) : pf_r34_Applied (n : Int) es d s R := by
  obtain ⟨hE, hn1, hn12⟩ := gcheck_ok hg
  have hll : (lpL n es s).length = n := tab_length _ _
  refine p_r15_Moved hl hg hsl hs (p_r25_Plus (by omega) (by omega) (by omega) (fun j hj => hd j (by omega)) (fun j hj => ?_) ?_)
  · unfold lpL
    rw [gi_tab _ (show j < n by omega)]
    have := Lp_bound hg hs (show j < n by omega)
    omega
  · have e : plusF d (lpL n es s) (-1) = appF n es d s := by
      unfold plusF appF
      rw [hdl]
      refine tab_congr fun i hi => ?_
      unfold lpL
      rw [gi_tab _ hi]; omega
    rw [e]; exact h
theorem p_r34_Leads {n : Nat} {es : List E3} {d b s : List Int} {R : Bool → Prop} (hl : es.length ≤ 1000000000) (hg : gcheckF n es = 0) (hdl : d.length = n) (hd : ∀ j, j < n → -1000000000000000 ≤ gi d j ∧ gi d j ≤ 1000000000000000) (hsl : s.length = n) (hs : ∀ j, j < n → -2000000000 ≤ gi s j ∧ gi s j ≤ 2000000000) (hbl : b.length = n)
    (h1 : (∀ v, v < n → gi b v = gi d v - Lp n es (gi s) v) → R true) (h2 : ¬ (∀ v, v < n → gi b v = gi d v - Lp n es (gi s) v) → R false) : pf_r34_Leads (n : Int) es d b s R := by
  obtain ⟨hE, hn1, hn12⟩ := gcheck_ok hg
  refine p_r34_Applied hl hg hdl hd hsl hs ?_
  refine ⟨Cnt n (fun k => ∀ v, v < k → gi b v = gi d v - Lp n es (gi s) v), Cnt.start (fun v hv => absurd hv (by omega)), ?_⟩
  rintro m _ ⟨k, rfl, rfl, hk, hinv⟩
  simp only [Int.toNat_natCast]
  refine ⟨fun hlt => ?_, fun hge => h1 fun v hv => hinv v (by omega)⟩
  have hga : gi (appF n es d s) k = gi d k - Lp n es (gi s) k := gi_tab _ (by omega)
  refine ⟨by rw [appF_length]; omega, by omega, fun q => Cnt.next (by omega) (by omega) fun v hv => ?_, fun q => h2 fun hall => q ?_⟩
  · by_cases e : v = k
    · subst e; rw [← q, hga]
    · exact hinv v (by omega)
  · rw [hga, hall k (by omega)]
end
end Go.Proofs.Ytnhmeckhlajeaaa

/- What the pure forms of the program's and the library's small functions come to. -/
namespace Go.Proofs.Ytnhmeckhlajeaaa
open Go
set_option linter.unusedVariables false
set_option linter.unusedSimpArgs false

theorem p_slices_Equal_Divisor {a b : List Int} {R : Bool → Prop} (hl : a.length ≤ 1000000000) (h : R (decide (a = b))) : pf_slices_Equal_Divisor a b R := by
  unfold pf_slices_Equal_Divisor
  have ht : a = b → R true := fun q => by rwa [decide_eq_true q] at h
  have hf : ¬ a = b → R false := fun q => by rwa [decide_eq_false q] at h
  refine ⟨fun hln => ?_, fun hln => hf fun q => hln (by rw [q])⟩
  refine ⟨Cnt a.length (fun k => ∀ j, j < k → gi a j = gi b j), Cnt.start (fun j hj => absurd hj (by omega)), ?_⟩
  rintro m _ ⟨k, rfl, rfl, hk, hinv⟩
  simp only [Int.toNat_natCast]
  refine ⟨fun hlt => ⟨by omega, by omega, fun h1 => Cnt.next (by omega) (by omega) fun j hj => ?_, fun h1 => hf fun q => h1 (by rw [q])⟩, fun hge => ht (gi_ext (by omega) fun j hj => hinv j (by omega))⟩
  by_cases e : j = k
  · subst e; exact h1
  · exact hinv j (by omega)

theorem p_slices_Equal_Script {a b : List Int} {R : Bool → Prop} (hl : a.length ≤ 1000000000) (h : R (decide (a = b))) : pf_slices_Equal_Script a b R := by
  unfold pf_slices_Equal_Script
  have ht : a = b → R true := fun q => by rwa [decide_eq_true q] at h
  have hf : ¬ a = b → R false := fun q => by rwa [decide_eq_false q] at h
  refine ⟨fun hln => ?_, fun hln => hf fun q => hln (by rw [q])⟩
  refine ⟨Cnt a.length (fun k => ∀ j, j < k → gi a j = gi b j), Cnt.start (fun j hj => absurd hj (by omega)), ?_⟩
  rintro m _ ⟨k, rfl, rfl, hk, hinv⟩
  simp only [Int.toNat_natCast]
  refine ⟨fun hlt => ⟨by omega, by omega, fun h1 => Cnt.next (by omega) (by omega) fun j hj => ?_, fun h1 => hf fun q => h1 (by rw [q])⟩, fun hge => ht (gi_ext (by omega) fun j hj => hinv j (by omega))⟩
  by_cases e : j = k
  · subst e; exact h1
  · exact hinv j (by omega)

theorem p_slices_Equal_intS {a b : List Int} {R : Bool → Prop} (hl : a.length ≤ 1000000000) (h : R (decide (a = b))) : pf_slices_Equal_intS a b R := by
  unfold pf_slices_Equal_intS
  have ht : a = b → R true := fun q => by rwa [decide_eq_true q] at h
  have hf : ¬ a = b → R false := fun q => by rwa [decide_eq_false q] at h
  refine ⟨fun hln => ?_, fun hln => hf fun q => hln (by rw [q])⟩
  refine ⟨Cnt a.length (fun k => ∀ j, j < k → gi a j = gi b j), Cnt.start (fun j hj => absurd hj (by omega)), ?_⟩
  rintro m _ ⟨k, rfl, rfl, hk, hinv⟩
  simp only [Int.toNat_natCast]
  refine ⟨fun hlt => ⟨by omega, by omega, fun h1 => Cnt.next (by omega) (by omega) fun j hj => ?_, fun h1 => hf fun q => h1 (by rw [q])⟩, fun hge => ht (gi_ext (by omega) fun j hj => hinv j (by omega))⟩
  by_cases e : j = k
  · subst e; exact h1
  · exact hinv j (by omega)

theorem p_slices_Clone_Divisor {s : List Int} {R : List Int → Prop} (hl : s.length ≤ 1000000000) (h : R s) : pf_slices_Clone_Divisor s R := by
  unfold pf_slices_Clone_Divisor
  exact fun nil hn => ⟨fun q => by rw [hn q] at h; exact h, fun q => ⟨by omega, h⟩⟩
end Go.Proofs.Ytnhmeckhlajeaaa

/- Words for the laws of layer 34. -/
namespace Go.Proofs.Ytnhmeckhlajeaaa
open Go
set_option linter.unusedVariables false
set_option linter.unusedSimpArgs false

theorem small_of {n : Int} {es : List E3} {d : List Int} (h1 : smallF n es 6 9 = true) (h2 : lowF n d = true) : Small n es d := by
  unfold smallF at h1
  rw [decide_eq_true_eq] at h1
  rw [lowF_iff] at h2
  refine ⟨h1.1, h1.2, fun hc v hv => ?_⟩
  obtain ⟨n, rfl⟩ : ∃ n' : Nat, n = (n' : Int) := ⟨n.toNat, by omega⟩
  have := (checkF_ok hc).1
  have := h2.2 hc v (by omega)
  omega
theorem small_len {n : Int} {es : List E3} (h1 : smallF n es 6 9 = true) : es.length ≤ 40 := by
  unfold smallF at h1
  rw [decide_eq_true_eq] at h1
  exact h1.1
/-- A small connected graph with a divisor that has few chips. -/
structure Right (n : Int) (es : List E3) (d : List Int) : Prop where
  few : smallF n es 6 9 = true
  joined : joinedE n es = 0
  chips : checkF d n = 0
  low : lowF n d = true
theorem Right.given {n : Int} {es : List E3} {d : List Int} (h : Right n es d) {q : Int} (hq : 0 ≤ q ∧ q < n) : givenF n es q d = 0 := by
  have hj := h.joined
  unfold joinedE at hj
  unfold givenF
  by_cases h1 : gcheckF n es = 0
  · rw [if_pos h1] at hj ⊢
    by_cases h2 : connF n es = true
    · rw [if_pos h2, if_pos hq, h.chips]
    · rw [if_neg h2] at hj; omega
  · rw [if_neg h1] at hj; exact absurd hj h1
theorem Right.graph {n : Int} {es : List E3} {d : List Int} (h : Right n es d) : gcheckF n es = 0 ∧ connF n es = true ∧ es.length ≤ 40 ∧ 1 ≤ n ∧ n ≤ 6 := by
  have hj := h.joined
  have hs := h.few
  unfold joinedE at hj
  unfold smallF at hs
  rw [decide_eq_true_eq] at hs
  by_cases h1 : gcheckF n es = 0
  · rw [if_pos h1] at hj
    have hn := (hs.2 h1).1
    have h0 : 1 ≤ n := by
      unfold gcheckF at h1
      split at h1
      · omega
      · omega
    by_cases h2 : connF n es = true
    · exact ⟨h1, h2, hs.1, h0, hn⟩
    · rw [if_neg h2] at hj; omega
  · rw [if_neg h1] at hj; exact absurd hj h1
/-- The divisor of a right pair: as long as there are vertices, with few chips. -/
theorem Right.nat {n : Nat} {es : List E3} {d : List Int} (h : Right (n : Int) es d) : d.length = n ∧ ∀ j, j < n → -100 ≤ gi d j ∧ gi d j ≤ 100 := by
  have hl := (checkF_ok h.chips).1
  refine ⟨hl, fun j hj => (lowF_iff.1 h.low).2 h.chips j (by omega)⟩
end Go.Proofs.Ytnhmeckhlajeaaa

/- What 'right' of layer 34 comes to. -/
namespace Go.Proofs.Ytnhmeckhlajeaaa
open Go
set_option linter.unusedVariables false

theorem p_l34_right {n : Int} {es : List E3} {d : List Int} {R : Bool → Prop} (h1 : Right n es d → R true) (h2 : R false) : pf_l34_right n es d R := by
  unfold pf_l34_right
  refine p_r34_Few ⟨fun q1 => ?_, fun _ => h2⟩
  have hel := small_len q1
  refine p_r25_Joined (by omega) ⟨fun q2 => p_r17_Check ⟨fun q3 => p_r34_Low ?_, fun _ => h2⟩, fun _ => h2⟩
  cases hq : lowF n d with
  | true => exact h1 ⟨q1, q2, q3, hq⟩
  | false => exact h2
theorem tmod_nat {a n : Int} (ha : 0 ≤ a) (hn : 1 ≤ n) : 0 ≤ a.tmod n ∧ a.tmod n < n := ⟨Int.tmod_nonneg _ ha, Int.tmod_lt_of_pos _ (by omega)⟩
end Go.Proofs.Ytnhmeckhlajeaaa

/- ReducedAdds' pure form holds. -/
namespace Go.Proofs.Ytnhmeckhlajeaaa
open Go
set_option linter.unusedVariables false
set_option linter.unusedSimpArgs false

theorem p_adds {n : Int} {es : List E3} {d : List Int} {a b : Int} (ha : 0 ≤ a ∧ a < 256) (hb : 0 ≤ b ∧ b < 256) : pf_l34_ReducedAdds n es d a b (fun r => r = true) := by
  unfold pf_l34_ReducedAdds
  refine p_l34_right (fun hR => ⟨fun _ => ?_, fun q => absurd rfl q⟩) ⟨fun q => (by cases q), fun _ => rfl⟩
  obtain ⟨hg, hc, hel, hn1, hn6⟩ := hR.graph
  obtain ⟨hq0, hqn⟩ := tmod_nat ha.1 hn1
  obtain ⟨hk0, hk50⟩ := tmod_nat (a := b) (n := 50) hb.1 (by omega)
  obtain ⟨q, hq⟩ : ∃ q : Nat, a.tmod n = q := ⟨(a.tmod n).toNat, by omega⟩
  rw [hq] at hq0 hqn ⊢
  obtain ⟨n, rfl⟩ : ∃ n' : Nat, n = (n' : Int) := ⟨n.toNat, by omega⟩
  generalize b.tmod 50 = k at hk0 hk50 ⊢
  obtain ⟨hdl, hdb⟩ := hR.nat
  obtain ⟨hE, -, -⟩ := gcheck_ok hg
  have hdq := hdb q (by omega)
  refine ⟨by omega, i64 (by omega), by omega, by omega, by omega, i64 (by omega), p_slices_Clone_Divisor (by omega) ?_⟩
  simp only [Int.toNat_natCast]
  refine ⟨by omega, i64 (by omega), p_r34_Low ⟨fun hlow => ?_, fun _ => rfl⟩⟩
  generalize hm : d.set q (gi d q + k) = more at hlow ⊢
  have hml : more.length = n := by rw [← hm, List.length_set, hdl]
  have hmg : ∀ j, j < n → gi more j = if j = q then gi d q + k else gi d j := fun j hj => by rw [← hm, gi_set (by omega)]
  have hmc : checkF more n = 0 := checkF_of hml (by omega) (by omega) fun j hj => by
    rw [hmg j hj]
    have := hdb j hj
    split <;> omega
  have hR2 : Right n es more := ⟨hR.few, hR.joined, hmc, hlow⟩
  have g1 := hR.given (q := q) ⟨by omega, by omega⟩
  have g2 := hR2.given (q := q) ⟨by omega, by omega⟩
  refine ⟨small_of hR.few hR.low, by omega, fun q => absurd g1 q, fun _ x s hx hxl hsl => ⟨small_of hR2.few hR2.low, by omega, fun q => absurd g2 q, fun _ y t hy hyl htl => ?_⟩⟩
  simp only [Int.toNat_natCast] at hx hxl hsl hy hyl htl
  -- the sum's form is the form with the chips
  have key := reduces_eq hE (by omega) hy (a' := x.set q (gi x q + k)) (s' := s) (by rw [List.length_set, hxl]) hsl (fun v hv => by
    rw [gi_set (by omega), hmg v hv, hx.lp v hv]
    split
    · rename_i e; subst e; rw [hx.lp _ hv]; omega
    · rfl) hx.sq ⟨fun v hv hvq => by rw [gi_set (by omega), if_neg hvq]; exact hx.pos v hv hvq, fun S hS hex => by
      obtain ⟨v, hv, hSv, hlt⟩ := hx.red.no S hS hex
      refine ⟨v, hv, hSv, ?_⟩
      rw [gi_set (by omega), if_neg (fun e => by rw [e, hS] at hSv; cases hSv)]; exact hlt⟩
  obtain ⟨rfl, rfl⟩ := key
  have hxb := hx.bd
  refine ⟨True, fun _ => ?_, fun _ => ⟨fun _ => ⟨fun _ => ⟨fun _ => p_slices_Equal_Script (by omega) ⟨fun _ => trivial, fun q => absurd (decide_eq_true rfl) q⟩, fun q => absurd (by rw [List.length_set]; omega) q⟩, fun q => absurd (by omega) q⟩, fun q => absurd rfl q⟩, fun q => absurd rfl q⟩
  refine ⟨Cnt n (fun _ => True), Cnt.start trivial, ?_⟩
  rintro m _ ⟨v, rfl, rfl, hv, -⟩
  simp only [Int.toNat_natCast, List.length_set]
  refine ⟨fun hlt => ⟨fun e => ?_, fun e => ?_⟩, fun _ => rfl⟩
  · have e : v = q := by omega
    subst e
    have := hxb v (by omega)
    refine ⟨by omega, by omega, i64 (by omega), fun _ => Cnt.next (by omega) (by omega) trivial, fun q => absurd ?_ q⟩
    rw [gi_set (by omega), if_pos rfl]
  · refine ⟨by omega, by omega, fun _ => Cnt.next (by omega) (by omega) trivial, fun q => absurd ?_ q⟩
    rw [gi_set (by omega), if_neg (by omega)]
end Go.Proofs.Ytnhmeckhlajeaaa

/- What the arguments of the laws read as: numbers, lists, graphs; and what is handed back. -/
namespace Go.Proofs.Ytnhmeckhlajeaaa
open Go Go.ChangeShapes Go.WideShapes Go.ChangeAt Go.RowKit Go.Joins Go.Deep

theorem own : ownKnob Try.prog.godebug = none := by kernel_rfl
theorem laidOut : laidOutB Try.prog = true := by kernel_rfl
theorem cells_int : Try.prog.cellsOf 3 = 1 := by kernel_rfl
theorem cells_graph : Try.prog.cellsOf 24 = 2 := by kernel_rfl
theorem cells_edge : Try.prog.cellsOf 117 = 3 := by kernel_rfl

theorem cells3 {w : World} {base : Nat} {a : Addr} {cs : List Value} (h : w.cells? base a 3 = some cs) : ∃ x y z, cs = [x, y, z] ∧ w.cell? a = some x ∧ w.cell? (a.add 1) = some y ∧ w.cell? (a.add 2) = some z := by
  unfold World.cells? at h
  split at h
  · have e : List.range 3 = [0, 1, 2] := rfl
    rw [e] at h
    cases h0 : w.cell? (a.add 0) with
    | none => simp [h0] at h
    | some x =>
      cases h1 : w.cell? (a.add 1) with
      | none => simp [h0, h1] at h
      | some y =>
        cases h2 : w.cell? (a.add 2) with
        | none => simp [h0, h1, h2] at h
        | some z =>
          simp [h0, h1, h2] at h
          exact ⟨x, y, z, h.symm, h0, rfl, rfl⟩
  · cases h

theorem ints_sl {W : World} {A : Option Addr} {xs : List Int} {c : Nat} (hc : xs.length ≤ c) (h : Ints W A xs) : (FP.sl cI A xs.length c xs).P no W := by
  refine ⟨rfl, hc, fun h0 => ?_⟩
  obtain ⟨b, off, e, hb, hcell⟩ := h h0
  refine ⟨b, off, e, hb, id, fun k x hx => ⟨_, rfl, fun j u hj => ?_⟩⟩
  have hk : k < xs.length := (List.getElem?_eq_some_iff.1 hx).1
  have hj0 : j = 0 := by
    have := (List.getElem?_eq_some_iff.1 hj).1
    simp [fI] at this; exact this
  subst hj0
  have hu : u = .int .i64 x := by
    have : (some (Value.int .i64 x)) = some u := hj
    simpa using this.symm
  rw [gi_some hk] at hx
  cases hx
  rw [hu]
  have := hcell k hk
  simpa [cI, Fl.cod, fI] using this
theorem edges_sl {W : World} {A : Option Addr} {xs : List E3} {c : Nat} (hc : xs.length ≤ c) (h : Edges W A xs) : (FP.sl c3 A xs.length c xs).P no W := by
  refine ⟨rfl, hc, fun h0 => ?_⟩
  obtain ⟨b, off, e, hb, hcell⟩ := h h0
  refine ⟨b, off, e, hb, id, fun k x hx => ⟨_, rfl, fun j u hj => ?_⟩⟩
  have hk : k < xs.length := (List.getElem?_eq_some_iff.1 hx).1
  rw [ge_some hk] at hx
  cases hx
  obtain ⟨q0, q1, q2⟩ := hcell k hk
  match j, hj with
  | 0, hj =>
    have : (some (Value.int .i64 (ge xs k).1)) = some u := hj
    cases this; exact q0
  | 1, hj =>
    have : (some (Value.int .i64 (ge xs k).2.1)) = some u := hj
    cases this; exact q1
  | 2, hj =>
    have : (some (Value.int .i64 (ge xs k).2.2)) = some u := hj
    cases this; exact q2
  | j + 3, hj => cases hj
theorem no_dom (n : Nat) : ∀ k, no k → k < n := fun _ h => h.elim
set_option maxRecDepth 100000
variable {H : Type} {enc : TypeId × Value → H} {W : World} {r : Reach} {b0 : Nat}
theorem open_list {t : TypeId} (ht : Try.prog.underlying t = some (.slice 3)) {v : Value} {d : DataW H} {p : List MemPlace} (hv : Value.okWide Try.prog W r b0 t v) (h : DataW.Trod enc Try.prog W 0 (fun _ => true) true t v d p) :
    ∃ (A : Option Addr) (l : List Int) (c : Nat), v = .slice A l.length c ∧ (FP.sl cI A l.length c l).P no W := by
  suffices h : ∃ (A : Option Addr) (l : List Int) (c : Nat), v = .slice A l.length c ∧ l.length ≤ c ∧ Ints W A l by
    obtain ⟨A, l, c, e, hlc, hi⟩ := h
    exact ⟨A, l, c, e, ints_sl hlc hi⟩
  obtain ⟨a0, len, cap, rfl⟩ := okWide_slice ht hv
  obtain ⟨fuel, hf⟩ := h
  rcases open_ints ht Try.underlying3 cells_int hf with ⟨hcs, hx⟩ | ⟨a, len', cap', zs, hcs, _, hl, hm, hz, hx, hcell, hwz⟩
  · simp [Value.cells] at hcs
    obtain ⟨rfl, rfl, rfl⟩ := hcs
    exact ⟨none, [], 0, rfl, Nat.le_refl _, Ints.nil _ _⟩
  · simp [Value.cells] at hcs
    obtain ⟨rfl, rfl, rfl⟩ := hcs
    simp only [if_true] at hz
    refine ⟨some a, zs.take len, cap, by rw [List.length_take, Nat.min_eq_left (by omega)], by rw [List.length_take]; omega, fun hp => ?_⟩
    rw [List.length_take, Nat.min_eq_left (by omega)] at hp ⊢
    obtain ⟨b, off, rfl, hc⟩ := ints_at hcell (by omega)
    refine ⟨b, off, rfl, ?_, fun k hk => ?_⟩
    · have := hc 0 (by omega)
      apply Nat.lt_of_not_le
      intro hle
      unfold World.cell? at this
      rw [Array.getElem?_eq_none hle] at this
      simp at this
    · rw [hc k (by omega), gi_of_lt (by rw [List.length_take]; omega), List.getElem_take, List.getD_eq_getElem?_getD, List.getElem?_eq_getElem (by omega)]
      rfl
theorem open_ints_f {t : TypeId} (ht : Try.prog.underlying t = some (.slice 3)) {fuel : Nat} {v : Value} {x : DataW H × List MemPlace} (hf : DataW.trod enc Try.prog W 0 (fun _ => true) true fuel t [v] = some x) :
    ∃ (A : Option Addr) (l : List Int) (c : Nat), v = .slice A l.length c ∧ (FP.sl cI A l.length c l).P no W := by
  suffices h : ∃ (A : Option Addr) (l : List Int) (c : Nat), v = .slice A l.length c ∧ l.length ≤ c ∧ Ints W A l by
    obtain ⟨A, l, c, e, hlc, hi⟩ := h
    exact ⟨A, l, c, e, ints_sl hlc hi⟩
  rcases open_ints ht Try.underlying3 cells_int hf with ⟨hcs, hx⟩ | ⟨a, len', cap', zs, hcs, _, hl, hm, hz, hx, hcell, hwz⟩
  · simp at hcs
    subst hcs
    exact ⟨none, [], 0, rfl, Nat.le_refl _, Ints.nil _ _⟩
  · simp at hcs
    subst hcs
    simp only [if_true] at hz
    refine ⟨some a, zs.take len', cap', by rw [List.length_take, Nat.min_eq_left (by omega)], by rw [List.length_take]; omega, fun hp => ?_⟩
    rw [List.length_take, Nat.min_eq_left (by omega)] at hp ⊢
    obtain ⟨b, off, rfl, hc⟩ := ints_at hcell (by omega)
    refine ⟨b, off, rfl, ?_, fun k hk => ?_⟩
    · have := hc 0 (by omega)
      apply Nat.lt_of_not_le
      intro hle
      unfold World.cell? at this
      rw [Array.getElem?_eq_none hle] at this
      simp at this
    · rw [hc k (by omega), gi_of_lt (by rw [List.length_take]; omega), List.getElem_take, List.getD_eq_getElem?_getD, List.getElem?_eq_getElem (by omega)]
      rfl
theorem open_arr2 {t e : TypeId} {k : IntKind} (ht : Try.prog.underlying t = some (.array 2 e)) (he : Try.prog.underlying e = some (.int k)) (hC : Try.prog.cellsOf t = 2) (hce : Try.prog.cellsOf e = 1) {v : Value} {d : DataW H} {p : List MemPlace} (hv : Value.okWide Try.prog W r b0 t v) (h : DataW.Trod enc Try.prog W 0 (fun _ => true) true t v d p) :
    ∃ x y : Int, v = .agg #[.int k x, .int k y] ∧ (Lit.int k x).wf = true ∧ (Lit.int k y).wf = true := by
  simp only [Value.okWide, ht] at hv
  obtain ⟨cs, rfl, hsz, _⟩ := hv
  obtain ⟨c0, c1, rfl⟩ := array2 (hsz.trans (by first | exact hC | simp [hce]))
  obtain ⟨fuel, hf⟩ := h
  obtain ⟨xs, m, rfl, hx, hl, hn, hel⟩ := DataW.trod_array ht hf
  obtain ⟨x0, x1, rfl⟩ : ∃ x0 x1, xs = [x0, x1] := by
    match xs, hn with
    | [x0, x1], _ => exact ⟨_, _, rfl⟩
  have f0 := hel 0 (by omega)
  have f1 := hel 1 (by omega)
  simp [hce, Value.cells] at f0 f1
  obtain ⟨a, e0, -, w0⟩ := DataW.trod_int he f0
  obtain ⟨b, e1, -, w1⟩ := DataW.trod_int he f1
  simp at e0 e1
  subst e0; subst e1
  exact ⟨a, b, rfl, w0, w1⟩
theorem open_edge {fuel base : Nat} {spare : Nat → Bool} {held : Bool} {x y z : Value} {o : DataW H × List MemPlace} (h : DataW.trod enc Try.prog W base spare held fuel 117 [x, y, z] = some o) : ∃ a b c : Int, x = .int .i64 a ∧ y = .int .i64 b ∧ z = .int .i64 c := by
  obtain ⟨xs, n, _, rfl, hl, hlen, hf⟩ := DataW.trod_struct Try.underlying117 h
  obtain ⟨x0, x1, x2, rfl⟩ : ∃ x0 x1 x2, xs = [x0, x1, x2] := by
    match xs, hlen with
    | [x0, x1, x2], _ => exact ⟨_, _, _, rfl⟩
  have f0 := hf 0 _ rfl
  have f1 := hf 1 _ rfl
  have f2 := hf 2 _ rfl
  simp [cells_int] at f0 f1 f2
  obtain ⟨a, e0, -, -⟩ := DataW.trod_int Try.underlying3 f0
  obtain ⟨b, e1, -, -⟩ := DataW.trod_int Try.underlying3 f1
  obtain ⟨c, e2, -, -⟩ := DataW.trod_int Try.underlying3 f2
  simp at e0 e1 e2
  exact ⟨a, b, c, e0, e1, e2⟩
theorem open_graph {v : Value} {d : DataW H} {p : List MemPlace} (hv : Value.okWide Try.prog W r b0 24 v) (h : DataW.Trod enc Try.prog W 0 (fun _ => true) true 24 v d p) :
    ∃ (n : Int) (A : Option Addr) (es : List E3) (c : Nat), v = .agg #[.int .i64 n, .slice A es.length c] ∧ (FP.sl c3 A es.length c es).P no W := by
  suffices h : ∃ (n : Int) (A : Option Addr) (es : List E3) (c : Nat), v = .agg #[.int .i64 n, .slice A es.length c] ∧ es.length ≤ c ∧ Edges W A es by
    obtain ⟨n, A, l, c, e, hlc, hi⟩ := h
    exact ⟨n, A, l, c, e, edges_sl hlc hi⟩
  obtain ⟨c0, c1, y0, y1, m, rfl, rfl, rfl, hy0, hy1⟩ := open_agg2 Try.underlying24 (by kernel_rfl) cells_graph hv h
  obtain ⟨n, e0, -, -⟩ := DataW.trod_int Try.underlying3 hy0
  simp at e0
  subst e0
  rcases open_slice Try.underlying22 hy1 with ⟨hcs, -⟩ | ⟨a, len, cap, mm, nn, D, Pl, hcs, -, hl, hm, hmm, -, hel⟩
  · simp at hcs
    subst hcs
    exact ⟨n, none, [], 0, rfl, Nat.le_refl _, fun h => absurd h (by simp)⟩
  · simp at hcs
    subst hcs
    simp only [if_true] at hmm
    have hex : ∀ i, i < len → ∃ e : E3, W.cell? (a.add (i * 3)) = some (.int .i64 e.1) ∧ W.cell? ((a.add (i * 3)).add 1) = some (.int .i64 e.2.1) ∧ W.cell? ((a.add (i * 3)).add 2) = some (.int .i64 e.2.2) := fun i hi => by
      obtain ⟨cs', hc, ht⟩ := hel i (by omega)
      rw [cells_edge] at hc
      obtain ⟨x, y, z, rfl, k0, k1, k2⟩ := cells3 hc
      obtain ⟨xa, xb, xc, rfl, rfl, rfl⟩ := open_edge ht
      exact ⟨(xa, xb, xc), k0, k1, k2⟩
    let f : Nat → E3 := fun i => if h : i < len then Classical.choose (hex i h) else (0, 0, 0)
    have hf : ∀ i, i < len → W.cell? (a.add (i * 3)) = some (.int .i64 (f i).1) ∧ W.cell? ((a.add (i * 3)).add 1) = some (.int .i64 (f i).2.1) ∧ W.cell? ((a.add (i * 3)).add 2) = some (.int .i64 (f i).2.2) := fun i hi => by
      show _ ∧ _ ∧ _
      have e : f i = Classical.choose (hex i hi) := dif_pos hi
      rw [e]
      exact Classical.choose_spec (hex i hi)
    have hlen : ((List.range len).map f).length = len := by simp
    refine ⟨n, some a, (List.range len).map f, cap, by rw [hlen], by rw [hlen]; omega, fun hp => ?_⟩
    rw [hlen] at hp ⊢
    obtain ⟨b, off, spot⟩ := a
    have hspot : spot = none := by simpa [Addr.add] using World.cell?_spot (hf 0 hp).1
    subst hspot
    refine ⟨b, off, rfl, ?_, fun k hk => ?_⟩
    · have := (hf 0 hp).1
      apply Nat.lt_of_not_le
      intro hle
      unfold World.cell? at this
      rw [Array.getElem?_eq_none (by simpa [Addr.add] using hle)] at this
      simp at this
    · have hg : ge ((List.range len).map f) k = f k := by rw [ge_of_lt (by rw [hlen]; exact hk)]; simp
      rw [hg]
      have := hf k hk
      simpa [Addr.add_mid] using this
end Go.Proofs.Ytnhmeckhlajeaaa
