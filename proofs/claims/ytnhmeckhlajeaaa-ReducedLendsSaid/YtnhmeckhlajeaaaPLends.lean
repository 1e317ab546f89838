/- Pure forms of functions, made by program (pf.py), each with the proof that the code does so. -/
import Derived.Test.YtnhmeckhlajeaaaTy
import Derived.Test.YtnhmeckhlajeaaaPf
import Derived.Test.YtnhmeckhlajeaaaWr
import Derived.Test.YtnhmeckhlajeaaaPa
import Derived.Test.YtnhmeckhlajeaaaPb
namespace Go.Proofs.Ytnhmeckhlajeaaa
open Go Go.RowKit Go.Shelf
set_option linter.unusedVariables false
set_option maxRecDepth 100000
set_option maxHeartbeats 1000000
/-- sandpile/sandpilelaw34.ReducedLends: what it computes. -/
def pf_l34_ReducedLends (d : Int) (d2 : List (Int × Int × Int)) (i : Int) (a : List Int) (R : Bool → Prop) : Prop :=
(∃ J2 : Prop, (J2 → pf_reduced_Lend d d2 i a (fun (r : List Int) (r2 : List Int) (r3 : Int) =>
pf_r34_Given d d2 i a (fun (r4 : Int) =>
((r4 = 0 →
(∃ J3 : Prop, (J3 → pf_r34_Debt a i (fun (r5 : Bool) =>
((r5 = true →
pf_l34_awake (fun (r6 : Bool) =>
R r6)) ∧
(¬ (r5 = true) →
pf_slices_Equal_Divisor r a (fun (r7 : Bool) =>
((r7 = true →
pf_l34_awake (fun (r8 : Bool) =>
R r8)) ∧
(¬ (r7 = true) →
R false))))))) ∧
((r3 = 0 →
((((r.length : Nat) : Int) = d →
pf_r15_Script d d2 r2 (fun (r9 : Int) =>
((r9 = 0 →
((0 ≤ i ∧ i < ((r2.length : Nat) : Int)) ∧
(((gi r2 i.toNat) = 0 →
pf_r17_Check r d (fun (r10 : Int) =>
((r10 = 0 →
pf_r34_Leads d d2 a r r2 (fun (r11 : Bool) =>
((r11 = true →
pf_r34_Debt r i (fun (r12 : Bool) =>
((r12 = true →
R false) ∧
(¬ (r12 = true) →
J3)))) ∧
(¬ (r11 = true) →
R false)))) ∧
(¬ (r10 = 0) →
R false)))) ∧
(¬ ((gi r2 i.toNat) = 0) →
R false)))) ∧
(¬ (r9 = 0) →
R false)))) ∧
(¬ (((r.length : Nat) : Int) = d) →
R false))) ∧
(¬ (r3 = 0) →
R false)))) ∧
(¬ (r4 = 0) →
((r3 = r4 →
((((r.length : Nat) : Int) = 0 →
((((r2.length : Nat) : Int) = 0 →
pf_l34_awake (fun (r13 : Bool) =>
R r13)) ∧
(¬ (((r2.length : Nat) : Int) = 0) →
R false))) ∧
(¬ (((r.length : Nat) : Int) = 0) →
R false))) ∧
(¬ (r3 = r4) →
R false))))))) ∧
pf_r34_Few d d2 (fun (r14 : Bool) =>
((r14 = true →
pf_r34_Low d d2 a (fun (r15 : Bool) =>
((r15 = true →
J2) ∧
(¬ (r15 = true) →
pf_l34_awake (fun (r16 : Bool) =>
R r16))))) ∧
(¬ (r14 = true) →
pf_l34_awake (fun (r17 : Bool) =>
R r17)))))
theorem pok_l34_ReducedLends {O : Nat → Prop} {w : World} {d : Int} {d2 : List (Int × Int × Int)} {i : Int} {a : List Int} {Ad : Option Addr} {ld : Nat} {cd : Nat} {Aa : Option Addr} {la : Nat} {ca : Nat} {R : Bool → Prop} (h : pf_l34_ReducedLends d d2 i a R) (hO : ∀ k, O k → k < w.heap.size) (a0 : (FP.sl c3 Ad ld cd d2).P O w) (a1 : (FP.sl cI Aa la ca a).P O w) :
    Calls Try.prog 5 #[(Value.agg #[(Value.int .i64 d), (Value.slice Ad ld cd)]), (Value.int .i64 i), (Value.slice Aa la ca)] w fun e w' => ∃ r18 : Bool, e = .returned (Value.bool (r18)) ∧ Sep w no O w' (rl []) ∧ R r18 := by
  unfold pf_l34_ReducedLends at h
  have hS : Sep w no O w (rl [Res.ro (FP.sl c3 Ad ld cd d2), Res.ro (FP.sl cI Aa la ca a)]) := Sep.startl hO [(FP.sl c3 Ad ld cd d2), (FP.sl cI Aa la ca a)] ⟨a0, a1, trivial⟩
  refine calls_sh (l := [(Value.agg #[(Value.int .i64 d), (Value.slice Ad ld cd)]), (Value.int .i64 i), (Value.slice Aa la ca)]) Try.func5 rfl Try.ntmps5 (Nat.le_of_ble_eq_true rfl) ?_
  refine wt_seq ?_
  refine wl_region wd_wide ?_
  refine rl_n rfl rfl rfl rfl (n_box (v := (Value.agg #[(Value.int .i64 d), (Value.slice Ad ld cd)])) rfl ?_)
  intro g w2 hN
  replace hS : Sep w no O w2 (stl _ 2 (Res.box 24 g [(Value.int .i64 d), (Value.slice Ad ld cd)])) := hS.new 2 rfl hN
  clear hN
  refine ⟨Stb.none _, ?_⟩
  refine rl_q rfl rfl rfl (v_assign (v := (Value.bool (false))) rfl) ?_
  refine rl_end ?_
  refine wt_seq ?_
  refine wt_seq ?_
  obtain ⟨J2, hJ, h⟩ := h
  refine wt_cutT1 (fun E ds w' => J2 ∧ ds = [] ∧ E 1 = (Value.int .i64 i) ∧ E 2 = (Value.slice Aa la ca) ∧ E 3 = (Value.pointer (some (⟨g, 0, none⟩ : Addr))) ∧ Sep w no O w' (rl [Res.ro (FP.sl cI Aa la ca a), Res.box 24 g [(Value.int .i64 d), (Value.slice Ad ld cd)], Res.ro (FP.sl c3 Ad ld cd d2)])) ?_ ?_
  · clear h hS
    rintro E ds w3 ⟨h, rfl, hE1, hE2, hE3, hS⟩
    replace h := hJ h
    refine wt_seq ?_
    refine wl_region wd_wide ?_
    refine rl_q rfl rfl rfl (v_loadn (vs := [(Value.int .i64 d), (Value.slice Ad ld cd)]) hE3 Try.underlying24 rfl info_24 ⟨Row.cell (hS.bx 1 rfl) (i := 0) rfl, Row.cell (hS.bx 1 rfl) (i := 1) rfl, trivial⟩) ?_
    refine rl_q rfl rfl rfl (v_move (v := (Value.int .i64 i)) hE1) ?_
    refine rl_q rfl rfl rfl (v_move (v := (Value.slice Aa la ca)) hE2) ?_
    refine rl_n rfl rfl rfl rfl (n_call0 rfl (am3 rfl rfl rfl) enter_23 ((pok_reduced_Lend h (no_lt _) (hS.rdr 2 rfl) (hS.rdr 0 rfl)).mono ?_))
    rintro _ w4 ⟨r, r2, r3, Ar, lr, cr, Ar2, lr2, cr2, rfl, hC, h⟩
    replace hS := hS.call2 (hC.widen (flatS (flat_own (fI .i64) _ _ _ _ _) (flatS (flat_own (fI .i64) _ _ _ _ _) flat0)) hS.blt) 3 0 4 1 rfl rfl (by decide) (by decide)
    clear hC
    refine ⟨_, rfl, ?_⟩
    refine ⟨Stb.none _, ?_⟩
    refine rl_q rfl rfl rfl (v_move (v := (Value.tuple #[(Value.slice Ar lr cr), (Value.slice Ar2 lr2 cr2), (Value.int .i64 r3)])) rfl) ?_
    refine rl_q rfl rfl rfl (v_extract (v := (Value.slice Ar lr cr)) rfl rfl) ?_
    refine rl_q rfl rfl rfl (v_extract (v := (Value.slice Ar2 lr2 cr2)) rfl rfl) ?_
    refine rl_q rfl rfl rfl (v_extract (v := (Value.int .i64 r3)) rfl rfl) ?_
    refine rl_q rfl rfl rfl (v_assign (v := (Value.slice Ar lr cr)) rfl) ?_
    refine rl_q rfl rfl rfl (v_assign (v := (Value.slice Ar2 lr2 cr2)) rfl) ?_
    refine rl_q rfl rfl rfl (v_assign (v := (Value.int .i64 r3)) rfl) ?_
    refine rl_end ?_
    refine wt_seq ?_
    refine wt_seq ?_
    refine wl_region wd_wide ?_
    refine rl_q rfl rfl rfl (v_loadn (vs := [(Value.int .i64 d), (Value.slice Ad ld cd)]) hE3 Try.underlying24 rfl info_24 ⟨Row.cell (hS.bx 1 rfl) (i := 0) rfl, Row.cell (hS.bx 1 rfl) (i := 1) rfl, trivial⟩) ?_
    refine rl_q rfl rfl rfl (v_move (v := (Value.int .i64 i)) hE1) ?_
    refine rl_q rfl rfl rfl (v_move (v := (Value.slice Aa la ca)) hE2) ?_
    refine rl_n rfl rfl rfl rfl (n_call0 rfl (am3 rfl rfl rfl) enter_24 ((pok_r34_Given h (no_lt _) (hS.rdr 2 rfl) (hS.rdr 0 rfl)).mono ?_))
    rintro _ w5 ⟨r4, rfl, hC, h⟩
    replace hS := hS.pur hC.pure
    clear hC
    refine ⟨_, rfl, ?_⟩
    refine ⟨Stb.none _, ?_⟩
    refine rl_q rfl rfl rfl (v_assign (v := (Value.int .i64 r4)) rfl) ?_
    refine rl_end ?_
    refine wt_seq ?_
    refine wl_region wd_wide ?_
    refine rl_q rfl rfl rfl (v_move (v := (Value.int .i64 r4)) rfl) ?_
    refine rl_q rfl rfl rfl (v_neq rfl rfl) ?_
    refine rl_end ?_
    by_cases hp : r4 = 0
    · replace h := h.1 hp
      refine wt_cond_f (congrArg Value.bool (congrArg Bool.not (decide_eq_true hp))) ?_
      refine wt_skip ?_
      refine wt_seq ?_
      refine wt_seq ?_
      obtain ⟨J3, hJ, h⟩ := h
      refine wt_cutT1 (fun E ds w' => J3 ∧ ds = [] ∧ E 1 = (Value.int .i64 i) ∧ E 2 = (Value.slice Aa la ca) ∧ E 7 = (Value.slice Ar lr cr) ∧ Sep w no O w' (rl [Res.ro (FP.sl cI Aa la ca a), Res.own cI 3 Ar lr cr r])) ?_ ?_
      · clear h hS
        rintro E ds w6 ⟨h, rfl, hE1, hE2, hE7, hS⟩
        replace h := hJ h
        refine wt_seq ?_
        refine wl_region wd_wide ?_
        refine rl_q rfl rfl rfl (v_move (v := (Value.slice Aa la ca)) hE2) ?_
        refine rl_q rfl rfl rfl (v_move (v := (Value.int .i64 i)) hE1) ?_
        refine rl_n rfl rfl rfl rfl (n_call0 rfl (am2 rfl rfl) enter_28 ((pok_r34_Debt h (no_lt _) (hS.rdr 0 rfl)).mono ?_))
        rintro _ w7 ⟨r5, rfl, hC, h⟩
        replace hS := hS.pur hC.pure
        clear hC
        refine ⟨_, rfl, ?_⟩
        refine ⟨Stb.none _, ?_⟩
        refine rl_q rfl rfl rfl (v_move (v := (Value.bool (r5))) rfl) ?_
        by_cases hp2 : r5 = true
        · replace h := h.1 hp2
          refine rl_p (wanted_n rfl (yE_of rfl (congrArg Value.bool hp2)) rfl) rfl ?_
          refine rl_p (wanted_n rfl (yE_of rfl (congrArg Value.bool hp2)) rfl) rfl ?_
          refine rl_p (wanted_n rfl (yE_of rfl (congrArg Value.bool hp2)) rfl) rfl ?_
          refine rl_q rfl rfl rfl (v_pick_t (v := (Value.bool (true))) (congrArg Value.bool hp2) rfl) ?_
          refine rl_q rfl rfl rfl (v_move (v := (Value.bool (true))) rfl) ?_
          refine rl_n (wanted_g rfl (yE_of rfl rfl)) rfl rfl rfl (n_call0 rfl (am0) enter_16 ((pok_l34_awake h (no_lt _)).mono ?_))
          rintro _ w8 ⟨r6, rfl, hC, h⟩
          replace hS := hS.pur hC.pure
          clear hC
          refine ⟨_, rfl, ?_⟩
          refine ⟨Stb.none _, ?_⟩
          refine rl_q rfl rfl rfl (v_pick_t (v := (Value.bool (r6))) rfl rfl) ?_
          refine rl_q rfl rfl rfl (v_assign (v := (Value.bool (r6))) rfl) ?_
          refine rl_end ?_
          exact wt_ret1 rfl rfl ⟨_, rfl, (hS.sel [] (by decide)), h⟩
        · replace h := h.2 hp2
          refine rl_q (wanted_g rfl (yE_of rfl (congrArg Value.bool (Bool.eq_false_iff.2 hp2)))) rfl rfl (v_move (v := (Value.slice Ar lr cr)) hE7) ?_
          refine rl_q (wanted_g rfl (yE_of rfl (congrArg Value.bool (Bool.eq_false_iff.2 hp2)))) rfl rfl (v_move (v := (Value.slice Aa la ca)) hE2) ?_
          refine rl_n (wanted_g rfl (yE_of rfl (congrArg Value.bool (Bool.eq_false_iff.2 hp2)))) rfl rfl rfl (n_call0 rfl (am2 rfl rfl) enter_19 ((pok_slices_Equal_Divisor h (no_lt _) (hS.rdo 1 rfl) (hS.rdr 0 rfl)).mono ?_))
          rintro _ w9 ⟨r7, rfl, hC, h⟩
          replace hS := hS.pur hC.pure
          clear hC
          refine ⟨_, rfl, ?_⟩
          refine ⟨Stb.none _, ?_⟩
          refine rl_q rfl rfl rfl (v_pick_f (v := (Value.bool (r7))) (congrArg Value.bool (Bool.eq_false_iff.2 hp2)) rfl) ?_
          refine rl_q rfl rfl rfl (v_move (v := (Value.bool (r7))) rfl) ?_
          by_cases hp3 : r7 = true
          · replace h := h.1 hp3
            refine rl_n (wanted_g rfl (yE_of rfl (congrArg Value.bool hp3))) rfl rfl rfl (n_call0 rfl (am0) enter_16 ((pok_l34_awake h (no_lt _)).mono ?_))
            rintro _ w10 ⟨r8, rfl, hC, h⟩
            replace hS := hS.pur hC.pure
            clear hC
            refine ⟨_, rfl, ?_⟩
            refine ⟨Stb.none _, ?_⟩
            refine rl_q rfl rfl rfl (v_pick_t (v := (Value.bool (r8))) (congrArg Value.bool hp3) rfl) ?_
            refine rl_q rfl rfl rfl (v_assign (v := (Value.bool (r8))) rfl) ?_
            refine rl_end ?_
            exact wt_ret1 rfl rfl ⟨_, rfl, (hS.sel [] (by decide)), h⟩
          · replace h := h.2 hp3
            refine rl_p (wanted_n rfl (yE_of rfl (congrArg Value.bool (Bool.eq_false_iff.2 hp3))) rfl) rfl ?_
            refine rl_q rfl rfl rfl (v_pick_f (v := (Value.bool (false))) (congrArg Value.bool (Bool.eq_false_iff.2 hp3)) rfl) ?_
            refine rl_q rfl rfl rfl (v_assign (v := (Value.bool (false))) rfl) ?_
            refine rl_end ?_
            exact wt_ret1 rfl rfl ⟨_, rfl, (hS.sel [] (by decide)), h⟩
      clear hJ
      intro j2
      refine wl_region wd_wide ?_
      refine rl_q rfl rfl rfl (v_move (v := (Value.int .i64 r3)) rfl) ?_
      refine rl_q rfl rfl rfl (v_neq rfl rfl) ?_
      refine rl_q rfl rfl rfl (v_move (v := (Value.bool (!(decide (r3 = 0))))) rfl) ?_
      by_cases hp4 : r3 = 0
      · replace h := h.1 hp4
        refine rl_q (wanted_g rfl (yE_of rfl (congrArg Value.bool (congrArg Bool.not (decide_eq_true hp4))))) rfl rfl (v_move (v := (Value.slice Ar lr cr)) rfl) ?_
        refine rl_q (wanted_g rfl (yE_of rfl (congrArg Value.bool (congrArg Bool.not (decide_eq_true hp4))))) rfl rfl (v_lenx (n := r.length) rfl Try.underlying26 (rd_len (hS.rdo 3 rfl))) ?_
        refine rl_q (wanted_g rfl (yE_of rfl (congrArg Value.bool (congrArg Bool.not (decide_eq_true hp4))))) rfl rfl (v_faddr hE3 Try.underlying24 rfl info_3) ?_
        refine rl_q (wanted_g rfl (yE_of rfl (congrArg Value.bool (congrArg Bool.not (decide_eq_true hp4))))) rfl rfl (v_load rfl Try.underlying3 rfl (Row.cell (hS.bx 1 rfl) (i := 0) rfl)) ?_
        refine rl_q (wanted_g rfl (yE_of rfl (congrArg Value.bool (congrArg Bool.not (decide_eq_true hp4))))) rfl rfl (v_neq rfl rfl) ?_
        refine rl_q rfl rfl rfl (v_pick_f (v := (Value.bool (!(decide (((r.length : Nat) : Int) = d))))) (congrArg Value.bool (congrArg Bool.not (decide_eq_true hp4))) rfl) ?_
        refine rl_q rfl rfl rfl (v_move (v := (Value.bool (!(decide (((r.length : Nat) : Int) = d))))) rfl) ?_
        by_cases hp5 : ((r.length : Nat) : Int) = d
        · replace h := h.1 hp5
          refine rl_q (wanted_g rfl (yE_of rfl (congrArg Value.bool (congrArg Bool.not (decide_eq_true hp5))))) rfl rfl (v_loadn (vs := [(Value.int .i64 d), (Value.slice Ad ld cd)]) hE3 Try.underlying24 rfl info_24 ⟨Row.cell (hS.bx 1 rfl) (i := 0) rfl, Row.cell (hS.bx 1 rfl) (i := 1) rfl, trivial⟩) ?_
          refine rl_q (wanted_g rfl (yE_of rfl (congrArg Value.bool (congrArg Bool.not (decide_eq_true hp5))))) rfl rfl (v_move (v := (Value.slice Ar2 lr2 cr2)) rfl) ?_
          refine rl_n (wanted_g rfl (yE_of rfl (congrArg Value.bool (congrArg Bool.not (decide_eq_true hp5))))) rfl rfl rfl (n_call0 rfl (am2 rfl rfl) enter_25 ((pok_r15_Script h (no_lt _) (hS.rdr 2 rfl) (hS.rdo 4 rfl)).mono ?_))
          rintro _ w11 ⟨r9, rfl, hC, h⟩
          replace hS := hS.pur hC.pure
          clear hC
          refine ⟨_, rfl, ?_⟩
          refine ⟨Stb.none _, ?_⟩
          refine rl_q (wanted_g rfl (yE_of rfl (congrArg Value.bool (congrArg Bool.not (decide_eq_true hp5))))) rfl rfl (v_neq rfl rfl) ?_
          refine rl_q rfl rfl rfl (v_pick_f (v := (Value.bool (!(decide (r9 = 0))))) (congrArg Value.bool (congrArg Bool.not (decide_eq_true hp5))) rfl) ?_
          refine rl_q rfl rfl rfl (v_move (v := (Value.bool (!(decide (r9 = 0))))) rfl) ?_
          by_cases hp6 : r9 = 0
          · replace h := h.1 hp6
            refine rl_q (wanted_g rfl (yE_of rfl (congrArg Value.bool (congrArg Bool.not (decide_eq_true hp6))))) rfl rfl (v_move (v := (Value.slice Ar2 lr2 cr2)) rfl) ?_
            refine rl_q (wanted_g rfl (yE_of rfl (congrArg Value.bool (congrArg Bool.not (decide_eq_true hp6))))) rfl rfl (v_move (v := (Value.int .i64 i)) hE1) ?_
            obtain ⟨hx, h⟩ := h
            refine rl_q (wanted_g rfl (yE_of rfl (congrArg Value.bool (congrArg Bool.not (decide_eq_true hp6))))) rfl rfl (v_iaddr rfl rfl Try.underlying30 info_3 (rd_ix (hS.rdo 4 rfl) hx)) ?_
            refine rl_q (wanted_g rfl (yE_of rfl (congrArg Value.bool (congrArg Bool.not (decide_eq_true hp6))))) rfl rfl (v_load (v := (Value.int .i64 (gi r2 i.toNat))) rfl Try.underlying3 rfl (rd_1 (hS.rdo 4 rfl) hx (fun q => gi_some q) rfl)) ?_
            refine rl_q (wanted_g rfl (yE_of rfl (congrArg Value.bool (congrArg Bool.not (decide_eq_true hp6))))) rfl rfl (v_neq rfl rfl) ?_
            refine rl_q rfl rfl rfl (v_pick_f (v := (Value.bool (!(decide ((gi r2 i.toNat) = 0))))) (congrArg Value.bool (congrArg Bool.not (decide_eq_true hp6))) rfl) ?_
            refine rl_q rfl rfl rfl (v_move (v := (Value.bool (!(decide ((gi r2 i.toNat) = 0))))) rfl) ?_
            by_cases hp7 : (gi r2 i.toNat) = 0
            · replace h := h.1 hp7
              refine rl_q (wanted_g rfl (yE_of rfl (congrArg Value.bool (congrArg Bool.not (decide_eq_true hp7))))) rfl rfl (v_move (v := (Value.slice Ar lr cr)) rfl) ?_
              refine rl_q (wanted_g rfl (yE_of rfl (congrArg Value.bool (congrArg Bool.not (decide_eq_true hp7))))) rfl rfl (v_faddr hE3 Try.underlying24 rfl info_3) ?_
              refine rl_q (wanted_g rfl (yE_of rfl (congrArg Value.bool (congrArg Bool.not (decide_eq_true hp7))))) rfl rfl (v_load rfl Try.underlying3 rfl (Row.cell (hS.bx 1 rfl) (i := 0) rfl)) ?_
              refine rl_n (wanted_g rfl (yE_of rfl (congrArg Value.bool (congrArg Bool.not (decide_eq_true hp7))))) rfl rfl rfl (n_call0 rfl (am2 rfl rfl) enter_26 ((pok_r17_Check h (no_lt _) (hS.rdo 3 rfl)).mono ?_))
              rintro _ w12 ⟨r10, rfl, hC, h⟩
              replace hS := hS.pur hC.pure
              clear hC
              refine ⟨_, rfl, ?_⟩
              refine ⟨Stb.none _, ?_⟩
              refine rl_q (wanted_g rfl (yE_of rfl (congrArg Value.bool (congrArg Bool.not (decide_eq_true hp7))))) rfl rfl (v_neq rfl rfl) ?_
              refine rl_q rfl rfl rfl (v_pick_f (v := (Value.bool (!(decide (r10 = 0))))) (congrArg Value.bool (congrArg Bool.not (decide_eq_true hp7))) rfl) ?_
              refine rl_q rfl rfl rfl (v_move (v := (Value.bool (!(decide (r10 = 0))))) rfl) ?_
              by_cases hp8 : r10 = 0
              · replace h := h.1 hp8
                refine rl_q (wanted_g rfl (yE_of rfl (congrArg Value.bool (congrArg Bool.not (decide_eq_true hp8))))) rfl rfl (v_loadn (vs := [(Value.int .i64 d), (Value.slice Ad ld cd)]) hE3 Try.underlying24 rfl info_24 ⟨Row.cell (hS.bx 1 rfl) (i := 0) rfl, Row.cell (hS.bx 1 rfl) (i := 1) rfl, trivial⟩) ?_
                refine rl_q (wanted_g rfl (yE_of rfl (congrArg Value.bool (congrArg Bool.not (decide_eq_true hp8))))) rfl rfl (v_move (v := (Value.slice Aa la ca)) hE2) ?_
                refine rl_q (wanted_g rfl (yE_of rfl (congrArg Value.bool (congrArg Bool.not (decide_eq_true hp8))))) rfl rfl (v_move (v := (Value.slice Ar lr cr)) rfl) ?_
                refine rl_q (wanted_g rfl (yE_of rfl (congrArg Value.bool (congrArg Bool.not (decide_eq_true hp8))))) rfl rfl (v_move (v := (Value.slice Ar2 lr2 cr2)) rfl) ?_
                refine rl_n (wanted_g rfl (yE_of rfl (congrArg Value.bool (congrArg Bool.not (decide_eq_true hp8))))) rfl rfl rfl (n_call0 rfl (am4 rfl rfl rfl rfl) enter_27 ((pok_r34_Leads h (no_lt _) (hS.rdr 2 rfl) (hS.rdr 0 rfl) (hS.rdo 3 rfl) (hS.rdo 4 rfl)).mono ?_))
                rintro _ w13 ⟨r11, rfl, hC, h⟩
                replace hS := hS.pur hC.pure
                clear hC
                refine ⟨_, rfl, ?_⟩
                refine ⟨Stb.none _, ?_⟩
                refine rl_q (wanted_g rfl (yE_of rfl (congrArg Value.bool (congrArg Bool.not (decide_eq_true hp8))))) rfl rfl (v_not rfl) ?_
                refine rl_q rfl rfl rfl (v_pick_f (v := (Value.bool (!(r11)))) (congrArg Value.bool (congrArg Bool.not (decide_eq_true hp8))) rfl) ?_
                refine rl_q rfl rfl rfl (v_move (v := (Value.bool (!(r11)))) rfl) ?_
                by_cases hp9 : r11 = true
                · replace h := h.1 hp9
                  refine rl_q (wanted_g rfl (yE_of rfl (congrArg Value.bool (congrArg Bool.not hp9)))) rfl rfl (v_move (v := (Value.slice Ar lr cr)) rfl) ?_
                  refine rl_q (wanted_g rfl (yE_of rfl (congrArg Value.bool (congrArg Bool.not hp9)))) rfl rfl (v_move (v := (Value.int .i64 i)) hE1) ?_
                  refine rl_n (wanted_g rfl (yE_of rfl (congrArg Value.bool (congrArg Bool.not hp9)))) rfl rfl rfl (n_call0 rfl (am2 rfl rfl) enter_28 ((pok_r34_Debt h (no_lt _) (hS.rdo 3 rfl)).mono ?_))
                  rintro _ w14 ⟨r12, rfl, hC, h⟩
                  replace hS := hS.pur hC.pure
                  clear hC
                  refine ⟨_, rfl, ?_⟩
                  refine ⟨Stb.none _, ?_⟩
                  refine rl_q rfl rfl rfl (v_pick_f (v := (Value.bool (r12))) (congrArg Value.bool (congrArg Bool.not hp9)) rfl) ?_
                  refine rl_end ?_
                  by_cases hp10 : r12 = true
                  · replace h := h.1 hp10
                    refine wt_cond_t (congrArg Value.bool hp10) ?_
                    refine wt_seq ?_
                    refine wl_region wd_wide ?_
                    refine rl_q rfl rfl rfl (v_assign (v := (Value.bool (false))) rfl) ?_
                    refine rl_end ?_
                    exact wt_ret1 rfl rfl ⟨_, rfl, (hS.sel [] (by decide)), h⟩
                  · replace h := h.2 hp10
                    refine wt_cond_f (congrArg Value.bool (Bool.eq_false_iff.2 hp10)) ?_
                    refine wt_skip ?_
                    exact j2 _ _ _ ⟨h, rfl, hE1, hE2, rfl, (hS.sel [0, 3] (by decide))⟩
                · replace h := h.2 hp9
                  refine rl_p (wanted_n rfl (yE_of rfl (congrArg Value.bool (congrArg Bool.not (Bool.eq_false_iff.2 hp9)))) rfl) rfl ?_
                  refine rl_p (wanted_n rfl (yE_of rfl (congrArg Value.bool (congrArg Bool.not (Bool.eq_false_iff.2 hp9)))) rfl) rfl ?_
                  refine rl_p (wanted_n rfl (yE_of rfl (congrArg Value.bool (congrArg Bool.not (Bool.eq_false_iff.2 hp9)))) rfl) rfl ?_
                  refine rl_q rfl rfl rfl (v_pick_t (v := (Value.bool (true))) (congrArg Value.bool (congrArg Bool.not (Bool.eq_false_iff.2 hp9))) rfl) ?_
                  refine rl_end ?_
                  refine wt_cond_t rfl ?_
                  refine wt_seq ?_
                  refine wl_region wd_wide ?_
                  refine rl_q rfl rfl rfl (v_assign (v := (Value.bool (false))) rfl) ?_
                  refine rl_end ?_
                  exact wt_ret1 rfl rfl ⟨_, rfl, (hS.sel [] (by decide)), h⟩
              · replace h := h.2 hp8
                refine rl_p (wanted_n rfl (yE_of rfl (congrArg Value.bool (congrArg Bool.not (decide_eq_false hp8)))) rfl) rfl ?_
                refine rl_p (wanted_n rfl (yE_of rfl (congrArg Value.bool (congrArg Bool.not (decide_eq_false hp8)))) rfl) rfl ?_
                refine rl_p (wanted_n rfl (yE_of rfl (congrArg Value.bool (congrArg Bool.not (decide_eq_false hp8)))) rfl) rfl ?_
                refine rl_p (wanted_n rfl (yE_of rfl (congrArg Value.bool (congrArg Bool.not (decide_eq_false hp8)))) rfl) rfl ?_
                refine rl_p (wanted_n rfl (yE_of rfl (congrArg Value.bool (congrArg Bool.not (decide_eq_false hp8)))) rfl) rfl ?_
                refine rl_p (wanted_n rfl (yE_of rfl (congrArg Value.bool (congrArg Bool.not (decide_eq_false hp8)))) rfl) rfl ?_
                refine rl_q rfl rfl rfl (v_pick_t (v := (Value.bool (true))) (congrArg Value.bool (congrArg Bool.not (decide_eq_false hp8))) rfl) ?_
                refine rl_q rfl rfl rfl (v_move (v := (Value.bool (true))) rfl) ?_
                refine rl_p (wanted_n rfl (yE_of rfl rfl) rfl) rfl ?_
                refine rl_p (wanted_n rfl (yE_of rfl rfl) rfl) rfl ?_
                refine rl_p (wanted_n rfl (yE_of rfl rfl) rfl) rfl ?_
                refine rl_q rfl rfl rfl (v_pick_t (v := (Value.bool (true))) rfl rfl) ?_
                refine rl_end ?_
                refine wt_cond_t rfl ?_
                refine wt_seq ?_
                refine wl_region wd_wide ?_
                refine rl_q rfl rfl rfl (v_assign (v := (Value.bool (false))) rfl) ?_
                refine rl_end ?_
                exact wt_ret1 rfl rfl ⟨_, rfl, (hS.sel [] (by decide)), h⟩
            · replace h := h.2 hp7
              refine rl_p (wanted_n rfl (yE_of rfl (congrArg Value.bool (congrArg Bool.not (decide_eq_false hp7)))) rfl) rfl ?_
              refine rl_p (wanted_n rfl (yE_of rfl (congrArg Value.bool (congrArg Bool.not (decide_eq_false hp7)))) rfl) rfl ?_
              refine rl_p (wanted_n rfl (yE_of rfl (congrArg Value.bool (congrArg Bool.not (decide_eq_false hp7)))) rfl) rfl ?_
              refine rl_p (wanted_n rfl (yE_of rfl (congrArg Value.bool (congrArg Bool.not (decide_eq_false hp7)))) rfl) rfl ?_
              refine rl_p (wanted_n rfl (yE_of rfl (congrArg Value.bool (congrArg Bool.not (decide_eq_false hp7)))) rfl) rfl ?_
              refine rl_q rfl rfl rfl (v_pick_t (v := (Value.bool (true))) (congrArg Value.bool (congrArg Bool.not (decide_eq_false hp7))) rfl) ?_
              refine rl_q rfl rfl rfl (v_move (v := (Value.bool (true))) rfl) ?_
              refine rl_p (wanted_n rfl (yE_of rfl rfl) rfl) rfl ?_
              refine rl_p (wanted_n rfl (yE_of rfl rfl) rfl) rfl ?_
              refine rl_p (wanted_n rfl (yE_of rfl rfl) rfl) rfl ?_
              refine rl_p (wanted_n rfl (yE_of rfl rfl) rfl) rfl ?_
              refine rl_p (wanted_n rfl (yE_of rfl rfl) rfl) rfl ?_
              refine rl_p (wanted_n rfl (yE_of rfl rfl) rfl) rfl ?_
              refine rl_q rfl rfl rfl (v_pick_t (v := (Value.bool (true))) rfl rfl) ?_
              refine rl_q rfl rfl rfl (v_move (v := (Value.bool (true))) rfl) ?_
              refine rl_p (wanted_n rfl (yE_of rfl rfl) rfl) rfl ?_
              refine rl_p (wanted_n rfl (yE_of rfl rfl) rfl) rfl ?_
              refine rl_p (wanted_n rfl (yE_of rfl rfl) rfl) rfl ?_
              refine rl_q rfl rfl rfl (v_pick_t (v := (Value.bool (true))) rfl rfl) ?_
              refine rl_end ?_
              refine wt_cond_t rfl ?_
              refine wt_seq ?_
              refine wl_region wd_wide ?_
              refine rl_q rfl rfl rfl (v_assign (v := (Value.bool (false))) rfl) ?_
              refine rl_end ?_
              exact wt_ret1 rfl rfl ⟨_, rfl, (hS.sel [] (by decide)), h⟩
          · replace h := h.2 hp6
            refine rl_p (wanted_n rfl (yE_of rfl (congrArg Value.bool (congrArg Bool.not (decide_eq_false hp6)))) rfl) rfl ?_
            refine rl_p (wanted_n rfl (yE_of rfl (congrArg Value.bool (congrArg Bool.not (decide_eq_false hp6)))) rfl) rfl ?_
            refine rl_p (wanted_n rfl (yE_of rfl (congrArg Value.bool (congrArg Bool.not (decide_eq_false hp6)))) rfl) rfl ?_
            refine rl_p (wanted_n rfl (yE_of rfl (congrArg Value.bool (congrArg Bool.not (decide_eq_false hp6)))) rfl) rfl ?_
            refine rl_p (wanted_n rfl (yE_of rfl (congrArg Value.bool (congrArg Bool.not (decide_eq_false hp6)))) rfl) rfl ?_
            refine rl_q rfl rfl rfl (v_pick_t (v := (Value.bool (true))) (congrArg Value.bool (congrArg Bool.not (decide_eq_false hp6))) rfl) ?_
            refine rl_q rfl rfl rfl (v_move (v := (Value.bool (true))) rfl) ?_
            refine rl_p (wanted_n rfl (yE_of rfl rfl) rfl) rfl ?_
            refine rl_p (wanted_n rfl (yE_of rfl rfl) rfl) rfl ?_
            refine rl_p (wanted_n rfl (yE_of rfl rfl) rfl) rfl ?_
            refine rl_p (wanted_n rfl (yE_of rfl rfl) rfl) rfl ?_
            refine rl_p (wanted_n rfl (yE_of rfl rfl) rfl) rfl ?_
            refine rl_q rfl rfl rfl (v_pick_t (v := (Value.bool (true))) rfl rfl) ?_
            refine rl_q rfl rfl rfl (v_move (v := (Value.bool (true))) rfl) ?_
            refine rl_p (wanted_n rfl (yE_of rfl rfl) rfl) rfl ?_
            refine rl_p (wanted_n rfl (yE_of rfl rfl) rfl) rfl ?_
            refine rl_p (wanted_n rfl (yE_of rfl rfl) rfl) rfl ?_
            refine rl_p (wanted_n rfl (yE_of rfl rfl) rfl) rfl ?_
            refine rl_p (wanted_n rfl (yE_of rfl rfl) rfl) rfl ?_
            refine rl_p (wanted_n rfl (yE_of rfl rfl) rfl) rfl ?_
            refine rl_q rfl rfl rfl (v_pick_t (v := (Value.bool (true))) rfl rfl) ?_
            refine rl_q rfl rfl rfl (v_move (v := (Value.bool (true))) rfl) ?_
            refine rl_p (wanted_n rfl (yE_of rfl rfl) rfl) rfl ?_
            refine rl_p (wanted_n rfl (yE_of rfl rfl) rfl) rfl ?_
            refine rl_p (wanted_n rfl (yE_of rfl rfl) rfl) rfl ?_
            refine rl_q rfl rfl rfl (v_pick_t (v := (Value.bool (true))) rfl rfl) ?_
            refine rl_end ?_
            refine wt_cond_t rfl ?_
            refine wt_seq ?_
            refine wl_region wd_wide ?_
            refine rl_q rfl rfl rfl (v_assign (v := (Value.bool (false))) rfl) ?_
            refine rl_end ?_
            exact wt_ret1 rfl rfl ⟨_, rfl, (hS.sel [] (by decide)), h⟩
        · replace h := h.2 hp5
          refine rl_p (wanted_n rfl (yE_of rfl (congrArg Value.bool (congrArg Bool.not (decide_eq_false hp5)))) rfl) rfl ?_
          refine rl_p (wanted_n rfl (yE_of rfl (congrArg Value.bool (congrArg Bool.not (decide_eq_false hp5)))) rfl) rfl ?_
          refine rl_p (wanted_n rfl (yE_of rfl (congrArg Value.bool (congrArg Bool.not (decide_eq_false hp5)))) rfl) rfl ?_
          refine rl_p (wanted_n rfl (yE_of rfl (congrArg Value.bool (congrArg Bool.not (decide_eq_false hp5)))) rfl) rfl ?_
          refine rl_q rfl rfl rfl (v_pick_t (v := (Value.bool (true))) (congrArg Value.bool (congrArg Bool.not (decide_eq_false hp5))) rfl) ?_
          refine rl_q rfl rfl rfl (v_move (v := (Value.bool (true))) rfl) ?_
          refine rl_p (wanted_n rfl (yE_of rfl rfl) rfl) rfl ?_
          refine rl_p (wanted_n rfl (yE_of rfl rfl) rfl) rfl ?_
          refine rl_p (wanted_n rfl (yE_of rfl rfl) rfl) rfl ?_
          refine rl_p (wanted_n rfl (yE_of rfl rfl) rfl) rfl ?_
          refine rl_p (wanted_n rfl (yE_of rfl rfl) rfl) rfl ?_
          refine rl_q rfl rfl rfl (v_pick_t (v := (Value.bool (true))) rfl rfl) ?_
          refine rl_q rfl rfl rfl (v_move (v := (Value.bool (true))) rfl) ?_
          refine rl_p (wanted_n rfl (yE_of rfl rfl) rfl) rfl ?_
          refine rl_p (wanted_n rfl (yE_of rfl rfl) rfl) rfl ?_
          refine rl_p (wanted_n rfl (yE_of rfl rfl) rfl) rfl ?_
          refine rl_p (wanted_n rfl (yE_of rfl rfl) rfl) rfl ?_
          refine rl_p (wanted_n rfl (yE_of rfl rfl) rfl) rfl ?_
          refine rl_q rfl rfl rfl (v_pick_t (v := (Value.bool (true))) rfl rfl) ?_
          refine rl_q rfl rfl rfl (v_move (v := (Value.bool (true))) rfl) ?_
          refine rl_p (wanted_n rfl (yE_of rfl rfl) rfl) rfl ?_
          refine rl_p (wanted_n rfl (yE_of rfl rfl) rfl) rfl ?_
          refine rl_p (wanted_n rfl (yE_of rfl rfl) rfl) rfl ?_
          refine rl_p (wanted_n rfl (yE_of rfl rfl) rfl) rfl ?_
          refine rl_p (wanted_n rfl (yE_of rfl rfl) rfl) rfl ?_
          refine rl_p (wanted_n rfl (yE_of rfl rfl) rfl) rfl ?_
          refine rl_q rfl rfl rfl (v_pick_t (v := (Value.bool (true))) rfl rfl) ?_
          refine rl_q rfl rfl rfl (v_move (v := (Value.bool (true))) rfl) ?_
          refine rl_p (wanted_n rfl (yE_of rfl rfl) rfl) rfl ?_
          refine rl_p (wanted_n rfl (yE_of rfl rfl) rfl) rfl ?_
          refine rl_p (wanted_n rfl (yE_of rfl rfl) rfl) rfl ?_
          refine rl_q rfl rfl rfl (v_pick_t (v := (Value.bool (true))) rfl rfl) ?_
          refine rl_end ?_
          refine wt_cond_t rfl ?_
          refine wt_seq ?_
          refine wl_region wd_wide ?_
          refine rl_q rfl rfl rfl (v_assign (v := (Value.bool (false))) rfl) ?_
          refine rl_end ?_
          exact wt_ret1 rfl rfl ⟨_, rfl, (hS.sel [] (by decide)), h⟩
      · replace h := h.2 hp4
        refine rl_p (wanted_n rfl (yE_of rfl (congrArg Value.bool (congrArg Bool.not (decide_eq_false hp4)))) rfl) rfl ?_
        refine rl_p (wanted_n rfl (yE_of rfl (congrArg Value.bool (congrArg Bool.not (decide_eq_false hp4)))) rfl) rfl ?_
        refine rl_p (wanted_n rfl (yE_of rfl (congrArg Value.bool (congrArg Bool.not (decide_eq_false hp4)))) rfl) rfl ?_
        refine rl_p (wanted_n rfl (yE_of rfl (congrArg Value.bool (congrArg Bool.not (decide_eq_false hp4)))) rfl) rfl ?_
        refine rl_p (wanted_n rfl (yE_of rfl (congrArg Value.bool (congrArg Bool.not (decide_eq_false hp4)))) rfl) rfl ?_
        refine rl_q rfl rfl rfl (v_pick_t (v := (Value.bool (true))) (congrArg Value.bool (congrArg Bool.not (decide_eq_false hp4))) rfl) ?_
        refine rl_q rfl rfl rfl (v_move (v := (Value.bool (true))) rfl) ?_
        refine rl_p (wanted_n rfl (yE_of rfl rfl) rfl) rfl ?_
        refine rl_p (wanted_n rfl (yE_of rfl rfl) rfl) rfl ?_
        refine rl_p (wanted_n rfl (yE_of rfl rfl) rfl) rfl ?_
        refine rl_p (wanted_n rfl (yE_of rfl rfl) rfl) rfl ?_
        refine rl_q rfl rfl rfl (v_pick_t (v := (Value.bool (true))) rfl rfl) ?_
        refine rl_q rfl rfl rfl (v_move (v := (Value.bool (true))) rfl) ?_
        refine rl_p (wanted_n rfl (yE_of rfl rfl) rfl) rfl ?_
        refine rl_p (wanted_n rfl (yE_of rfl rfl) rfl) rfl ?_
        refine rl_p (wanted_n rfl (yE_of rfl rfl) rfl) rfl ?_
        refine rl_p (wanted_n rfl (yE_of rfl rfl) rfl) rfl ?_
        refine rl_p (wanted_n rfl (yE_of rfl rfl) rfl) rfl ?_
        refine rl_q rfl rfl rfl (v_pick_t (v := (Value.bool (true))) rfl rfl) ?_
        refine rl_q rfl rfl rfl (v_move (v := (Value.bool (true))) rfl) ?_
        refine rl_p (wanted_n rfl (yE_of rfl rfl) rfl) rfl ?_
        refine rl_p (wanted_n rfl (yE_of rfl rfl) rfl) rfl ?_
        refine rl_p (wanted_n rfl (yE_of rfl rfl) rfl) rfl ?_
        refine rl_p (wanted_n rfl (yE_of rfl rfl) rfl) rfl ?_
        refine rl_p (wanted_n rfl (yE_of rfl rfl) rfl) rfl ?_
        refine rl_q rfl rfl rfl (v_pick_t (v := (Value.bool (true))) rfl rfl) ?_
        refine rl_q rfl rfl rfl (v_move (v := (Value.bool (true))) rfl) ?_
        refine rl_p (wanted_n rfl (yE_of rfl rfl) rfl) rfl ?_
        refine rl_p (wanted_n rfl (yE_of rfl rfl) rfl) rfl ?_
        refine rl_p (wanted_n rfl (yE_of rfl rfl) rfl) rfl ?_
        refine rl_p (wanted_n rfl (yE_of rfl rfl) rfl) rfl ?_
        refine rl_p (wanted_n rfl (yE_of rfl rfl) rfl) rfl ?_
        refine rl_p (wanted_n rfl (yE_of rfl rfl) rfl) rfl ?_
        refine rl_q rfl rfl rfl (v_pick_t (v := (Value.bool (true))) rfl rfl) ?_
        refine rl_q rfl rfl rfl (v_move (v := (Value.bool (true))) rfl) ?_
        refine rl_p (wanted_n rfl (yE_of rfl rfl) rfl) rfl ?_
        refine rl_p (wanted_n rfl (yE_of rfl rfl) rfl) rfl ?_
        refine rl_p (wanted_n rfl (yE_of rfl rfl) rfl) rfl ?_
        refine rl_q rfl rfl rfl (v_pick_t (v := (Value.bool (true))) rfl rfl) ?_
        refine rl_end ?_
        refine wt_cond_t rfl ?_
        refine wt_seq ?_
        refine wl_region wd_wide ?_
        refine rl_q rfl rfl rfl (v_assign (v := (Value.bool (false))) rfl) ?_
        refine rl_end ?_
        exact wt_ret1 rfl rfl ⟨_, rfl, (hS.sel [] (by decide)), h⟩
    · replace h := h.2 hp
      refine wt_cond_t (congrArg Value.bool (congrArg Bool.not (decide_eq_false hp))) ?_
      refine wt_seq ?_
      refine wl_region wd_wide ?_
      refine rl_q rfl rfl rfl (v_move (v := (Value.int .i64 r3)) rfl) ?_
      refine rl_q rfl rfl rfl (v_move (v := (Value.int .i64 r4)) rfl) ?_
      refine rl_q rfl rfl rfl (v_eql rfl rfl) ?_
      refine rl_q rfl rfl rfl (v_move (v := (Value.bool (decide (r3 = r4)))) rfl) ?_
      by_cases hp11 : r3 = r4
      · replace h := h.1 hp11
        refine rl_q (wanted_g rfl (yE_of rfl (congrArg Value.bool (decide_eq_true hp11)))) rfl rfl (v_move (v := (Value.slice Ar lr cr)) rfl) ?_
        refine rl_q (wanted_g rfl (yE_of rfl (congrArg Value.bool (decide_eq_true hp11)))) rfl rfl (v_lenx (n := r.length) rfl Try.underlying26 (rd_len (hS.rdo 3 rfl))) ?_
        refine rl_q (wanted_g rfl (yE_of rfl (congrArg Value.bool (decide_eq_true hp11)))) rfl rfl (v_eql rfl rfl) ?_
        refine rl_q rfl rfl rfl (v_pick_t (v := (Value.bool (decide (((r.length : Nat) : Int) = 0)))) (congrArg Value.bool (decide_eq_true hp11)) rfl) ?_
        refine rl_q rfl rfl rfl (v_move (v := (Value.bool (decide (((r.length : Nat) : Int) = 0)))) rfl) ?_
        by_cases hp12 : ((r.length : Nat) : Int) = 0
        · replace h := h.1 hp12
          refine rl_q (wanted_g rfl (yE_of rfl (congrArg Value.bool (decide_eq_true hp12)))) rfl rfl (v_move (v := (Value.slice Ar2 lr2 cr2)) rfl) ?_
          refine rl_q (wanted_g rfl (yE_of rfl (congrArg Value.bool (decide_eq_true hp12)))) rfl rfl (v_lenx (n := r2.length) rfl Try.underlying30 (rd_len (hS.rdo 4 rfl))) ?_
          refine rl_q (wanted_g rfl (yE_of rfl (congrArg Value.bool (decide_eq_true hp12)))) rfl rfl (v_eql rfl rfl) ?_
          refine rl_q rfl rfl rfl (v_pick_t (v := (Value.bool (decide (((r2.length : Nat) : Int) = 0)))) (congrArg Value.bool (decide_eq_true hp12)) rfl) ?_
          refine rl_q rfl rfl rfl (v_move (v := (Value.bool (decide (((r2.length : Nat) : Int) = 0)))) rfl) ?_
          by_cases hp13 : ((r2.length : Nat) : Int) = 0
          · replace h := h.1 hp13
            refine rl_n (wanted_g rfl (yE_of rfl (congrArg Value.bool (decide_eq_true hp13)))) rfl rfl rfl (n_call0 rfl (am0) enter_16 ((pok_l34_awake h (no_lt _)).mono ?_))
            rintro _ w15 ⟨r13, rfl, hC, h⟩
            replace hS := hS.pur hC.pure
            clear hC
            refine ⟨_, rfl, ?_⟩
            refine ⟨Stb.none _, ?_⟩
            refine rl_q rfl rfl rfl (v_pick_t (v := (Value.bool (r13))) (congrArg Value.bool (decide_eq_true hp13)) rfl) ?_
            refine rl_q rfl rfl rfl (v_assign (v := (Value.bool (r13))) rfl) ?_
            refine rl_end ?_
            exact wt_ret1 rfl rfl ⟨_, rfl, (hS.sel [] (by decide)), h⟩
          · replace h := h.2 hp13
            refine rl_p (wanted_n rfl (yE_of rfl (congrArg Value.bool (decide_eq_false hp13))) rfl) rfl ?_
            refine rl_q rfl rfl rfl (v_pick_f (v := (Value.bool (false))) (congrArg Value.bool (decide_eq_false hp13)) rfl) ?_
            refine rl_q rfl rfl rfl (v_assign (v := (Value.bool (false))) rfl) ?_
            refine rl_end ?_
            exact wt_ret1 rfl rfl ⟨_, rfl, (hS.sel [] (by decide)), h⟩
        · replace h := h.2 hp12
          refine rl_p (wanted_n rfl (yE_of rfl (congrArg Value.bool (decide_eq_false hp12))) rfl) rfl ?_
          refine rl_p (wanted_n rfl (yE_of rfl (congrArg Value.bool (decide_eq_false hp12))) rfl) rfl ?_
          refine rl_p (wanted_n rfl (yE_of rfl (congrArg Value.bool (decide_eq_false hp12))) rfl) rfl ?_
          refine rl_q rfl rfl rfl (v_pick_f (v := (Value.bool (false))) (congrArg Value.bool (decide_eq_false hp12)) rfl) ?_
          refine rl_q rfl rfl rfl (v_move (v := (Value.bool (false))) rfl) ?_
          refine rl_p (wanted_n rfl (yE_of rfl rfl) rfl) rfl ?_
          refine rl_q rfl rfl rfl (v_pick_f (v := (Value.bool (false))) rfl rfl) ?_
          refine rl_q rfl rfl rfl (v_assign (v := (Value.bool (false))) rfl) ?_
          refine rl_end ?_
          exact wt_ret1 rfl rfl ⟨_, rfl, (hS.sel [] (by decide)), h⟩
      · replace h := h.2 hp11
        refine rl_p (wanted_n rfl (yE_of rfl (congrArg Value.bool (decide_eq_false hp11))) rfl) rfl ?_
        refine rl_p (wanted_n rfl (yE_of rfl (congrArg Value.bool (decide_eq_false hp11))) rfl) rfl ?_
        refine rl_p (wanted_n rfl (yE_of rfl (congrArg Value.bool (decide_eq_false hp11))) rfl) rfl ?_
        refine rl_q rfl rfl rfl (v_pick_f (v := (Value.bool (false))) (congrArg Value.bool (decide_eq_false hp11)) rfl) ?_
        refine rl_q rfl rfl rfl (v_move (v := (Value.bool (false))) rfl) ?_
        refine rl_p (wanted_n rfl (yE_of rfl rfl) rfl) rfl ?_
        refine rl_p (wanted_n rfl (yE_of rfl rfl) rfl) rfl ?_
        refine rl_p (wanted_n rfl (yE_of rfl rfl) rfl) rfl ?_
        refine rl_q rfl rfl rfl (v_pick_f (v := (Value.bool (false))) rfl rfl) ?_
        refine rl_q rfl rfl rfl (v_move (v := (Value.bool (false))) rfl) ?_
        refine rl_p (wanted_n rfl (yE_of rfl rfl) rfl) rfl ?_
        refine rl_q rfl rfl rfl (v_pick_f (v := (Value.bool (false))) rfl rfl) ?_
        refine rl_q rfl rfl rfl (v_assign (v := (Value.bool (false))) rfl) ?_
        refine rl_end ?_
        exact wt_ret1 rfl rfl ⟨_, rfl, (hS.sel [] (by decide)), h⟩
  clear hJ
  intro j
  refine wl_region wd_wide ?_
  refine rl_q rfl rfl rfl (v_loadn (vs := [(Value.int .i64 d), (Value.slice Ad ld cd)]) rfl Try.underlying24 rfl info_24 ⟨Row.cell (hS.bx 2 rfl) (i := 0) rfl, Row.cell (hS.bx 2 rfl) (i := 1) rfl, trivial⟩) ?_
  refine rl_n rfl rfl rfl rfl (n_call0 rfl (am1 rfl) enter_14 ((pok_r34_Few h (no_lt _) (hS.rdr 0 rfl)).mono ?_))
  rintro _ w16 ⟨r14, rfl, hC, h⟩
  replace hS := hS.pur hC.pure
  clear hC
  refine ⟨_, rfl, ?_⟩
  refine ⟨Stb.none _, ?_⟩
  refine rl_q rfl rfl rfl (v_not rfl) ?_
  refine rl_q rfl rfl rfl (v_move (v := (Value.bool (!(r14)))) rfl) ?_
  by_cases hp14 : r14 = true
  · replace h := h.1 hp14
    refine rl_q (wanted_g rfl (yE_of rfl (congrArg Value.bool (congrArg Bool.not hp14)))) rfl rfl (v_loadn (vs := [(Value.int .i64 d), (Value.slice Ad ld cd)]) rfl Try.underlying24 rfl info_24 ⟨Row.cell (hS.bx 2 rfl) (i := 0) rfl, Row.cell (hS.bx 2 rfl) (i := 1) rfl, trivial⟩) ?_
    refine rl_q (wanted_g rfl (yE_of rfl (congrArg Value.bool (congrArg Bool.not hp14)))) rfl rfl (v_move (v := (Value.slice Aa la ca)) rfl) ?_
    refine rl_n (wanted_g rfl (yE_of rfl (congrArg Value.bool (congrArg Bool.not hp14)))) rfl rfl rfl (n_call0 rfl (am2 rfl rfl) enter_15 ((pok_r34_Low h (no_lt _) (hS.rdr 0 rfl) (hS.rdr 1 rfl)).mono ?_))
    rintro _ w17 ⟨r15, rfl, hC, h⟩
    replace hS := hS.pur hC.pure
    clear hC
    refine ⟨_, rfl, ?_⟩
    refine ⟨Stb.none _, ?_⟩
    refine rl_q (wanted_g rfl (yE_of rfl (congrArg Value.bool (congrArg Bool.not hp14)))) rfl rfl (v_not rfl) ?_
    refine rl_q rfl rfl rfl (v_pick_f (v := (Value.bool (!(r15)))) (congrArg Value.bool (congrArg Bool.not hp14)) rfl) ?_
    refine rl_end ?_
    by_cases hp15 : r15 = true
    · replace h := h.1 hp15
      refine wt_cond_f (congrArg Value.bool (congrArg Bool.not hp15)) ?_
      refine wt_skip ?_
      exact j _ _ _ ⟨h, rfl, rfl, rfl, rfl, (hS.sel [1, 2, 0] (by decide))⟩
    · replace h := h.2 hp15
      refine wt_cond_t (congrArg Value.bool (congrArg Bool.not (Bool.eq_false_iff.2 hp15))) ?_
      refine wt_seq ?_
      refine wl_region wd_wide ?_
      refine rl_n rfl rfl rfl rfl (n_call0 rfl (am0) enter_16 ((pok_l34_awake h (no_lt _)).mono ?_))
      rintro _ w18 ⟨r16, rfl, hC, h⟩
      replace hS := hS.pur hC.pure
      clear hC
      refine ⟨_, rfl, ?_⟩
      refine ⟨Stb.none _, ?_⟩
      refine rl_q rfl rfl rfl (v_assign (v := (Value.bool (r16))) rfl) ?_
      refine rl_end ?_
      exact wt_ret1 rfl rfl ⟨_, rfl, (hS.sel [] (by decide)), h⟩
  · replace h := h.2 hp14
    refine rl_p (wanted_n rfl (yE_of rfl (congrArg Value.bool (congrArg Bool.not (Bool.eq_false_iff.2 hp14)))) rfl) rfl ?_
    refine rl_p (wanted_n rfl (yE_of rfl (congrArg Value.bool (congrArg Bool.not (Bool.eq_false_iff.2 hp14)))) rfl) rfl ?_
    refine rl_p (wanted_n rfl (yE_of rfl (congrArg Value.bool (congrArg Bool.not (Bool.eq_false_iff.2 hp14)))) rfl) rfl ?_
    refine rl_p (wanted_n rfl (yE_of rfl (congrArg Value.bool (congrArg Bool.not (Bool.eq_false_iff.2 hp14)))) rfl) rfl ?_
    refine rl_q rfl rfl rfl (v_pick_t (v := (Value.bool (true))) (congrArg Value.bool (congrArg Bool.not (Bool.eq_false_iff.2 hp14))) rfl) ?_
    refine rl_end ?_
    refine wt_cond_t rfl ?_
    refine wt_seq ?_
    refine wl_region wd_wide ?_
    refine rl_n rfl rfl rfl rfl (n_call0 rfl (am0) enter_16 ((pok_l34_awake h (no_lt _)).mono ?_))
    rintro _ w19 ⟨r17, rfl, hC, h⟩
    replace hS := hS.pur hC.pure
    clear hC
    refine ⟨_, rfl, ?_⟩
    refine ⟨Stb.none _, ?_⟩
    refine rl_q rfl rfl rfl (v_assign (v := (Value.bool (r17))) rfl) ?_
    refine rl_end ?_
    exact wt_ret1 rfl rfl ⟨_, rfl, (hS.sel [] (by decide)), h⟩
end Go.Proofs.Ytnhmeckhlajeaaa
